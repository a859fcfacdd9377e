/-
  whatever the message, the version and the byte, the law BodyCuts returns true. No condition. By an AI agent. No person has read it.
-/
import Derived.Test.YtdamfbjoiddfhaaBODYD
import Derived.Test.YtdamfbjoiddfhaaAm6
import Derived.OpenShut
import Derived.Test.YtdamfbjoiddfhaaRows

namespace Go.Proofs.Ytdamfbjoiddfhaa
open Go Go.Am
set_option linter.unusedSimpArgs false
set_option linter.unusedVariables false

theorem partB_pos (m : Mg) (f : Fld) : 1 ≤ (partB m f).length := by
  have one : ∀ n, 1 ≤ (putAll [n]).length := fun n => by
    rw [putAll_one, putOne_length]; exact sizeOf_pos n
  unfold partB
  split
  · exact one _
  split
  · exact one _
  split
  · rw [List.length_append]; have := one m.p.length; omega
  split
  · rw [List.length_append]; have := one m.c.length; omega
  split
  · rw [List.length_append]; have := one (bytesOf m.t).length; omega
  · rw [List.length_append]; have := one (bytesOf m.g).length; omega

theorem vf_ne {k v : Int} (hv : 1 ≤ v) (h : fieldsOf k ≠ []) : versionFields k v ≠ [] := by
  have hk : k = 1 ∨ k = 2 ∨ k = 3 ∨ k = 4 ∨ k = 5 := Classical.byContradiction fun hh => h (by
    unfold fieldsOf
    rw [if_neg (by omega), if_neg (by omega), if_neg (by omega), if_neg (by omega), if_neg (by omega)])
  have hr : fRobot ∈ versionFields k v := by
    rw [versionFields, List.mem_filter]
    refine ⟨?_, decide_eq_true (by show (1 : Int) ≤ v; exact hv)⟩
    rcases hk with rfl | rfl | rfl | rfl | rfl <;> simp [fieldsOf]
  intro h0
  rw [h0] at hr
  cases hr

theorem encB_ne {m : Mg} {v : Int} (h : checkM m = 0) (hv : v = 1 ∨ v = 2) : encB m v ≠ [] := by
  rw [encB_eq h hv]
  have hn := vf_ne (k := m.k) (v := v) (by omega) ((checkM_zero m).1 h).1
  cases hL : versionFields m.k v with
  | nil => exact absurd hL hn
  | cons f L =>
    intro h0
    have := congrArg List.length h0
    simp only [bodyB, List.flatMap_cons, List.length_append, List.length_nil] at this
    have := partB_pos m f
    omega

theorem appA {H : AHeap} {n : Nat} {x : List Nat} {t : Bool} (hn : H[n]? = some (.vec [] T.uint8 1)) (hx : x.length ≤ 1000000) : appendA H T.uint8 1 1 (.slc n 0 0 1) (nums .u8 t x) = some (True, .slc H.length 0 x.length 1, H.set n .dead ++ [.vec (u8s x) T.uint8 1]) := by
  have ho : Own 1 T.uint8 0 H (.slc n 0 0 1) 0 [] := ⟨rfl, .inr ⟨n, Nat.zero_le _, rfl, hn⟩⟩
  obtain ⟨p, a1, hp⟩ := Own.append3 ho (x := nums .u8 t x) (k := x.length) (ys := u8s x) 1 rfl rfl (by simp [u8s]) (by omega) (by omega) (by omega) (u8s_cellish _)
  rw [a1, eq_true hp, Nat.zero_add]; rfl
theorem appB {H : AHeap} {n k : Nat} {x : List Nat} {c : Nat} (hn : H[n]? = some (.vec (u8s x) T.uint8 1)) (hk : H[k]? = some (.vec [.int .u8 (c : Nat)] T.uint8 1)) (hx : x.length ≤ 1000000) : appendA H T.uint8 1 1 (.slc n 0 x.length 1) (.slc k 0 1 1) = some (True, .slc H.length 0 (x.length + 1) 1, H.set n .dead ++ [.vec (u8s (x ++ [c])) T.uint8 1]) := by
  have ho : Own 1 T.uint8 0 H (.slc n 0 x.length 1) x.length (u8s x) := ⟨by simp [u8s], .inr ⟨n, Nat.zero_le _, rfl, hn⟩⟩
  obtain ⟨p, a1, hp⟩ := Own.append3 ho (x := .slc k 0 1 1) (k := 1) (ys := [.int .u8 (c : Nat)]) 1 rfl (by simp [srcCells, view, hk, content]) rfl (by omega) (by omega) (by omega) rfl
  rw [a1, eq_true hp, show u8s x ++ [AVal.int .u8 (c : Nat)] = u8s (x ++ [c]) by simp [u8s]]; rfl
theorem nats18 {H : AHeap} {n k : Nat} {xs : List Nat} (hn : H[n]? = some (.vec (u8s xs) T.uint8 1)) (hk : xs.length = k) : Nats .u8 H (.slc n 0 k 1) xs := by
  subst hk
  exact ⟨rfl, by simp [view, hn, content, u8s, List.take_of_length_le], fun _ _ _ _ h => by cases h; rfl⟩

set_option maxRecDepth 10000 in
set_option maxHeartbeats 8000000 in
theorem bodycuts_ok {a : Mg} (ha : a.fine) {v : Int} {more : Nat} (hmore : more < 256) : FunOK Try.prog F.cuneiformlaw18_BodyCuts [.agg (encM a), .int .i64 v, .int .u8 (more : Nat)] [] fun av _ => av = .bool true := by
  refine fun_V 60 cuneiformlaw18_BodyCuts_code rfl ?_
  simp (disch := first | omega | (simp only [lnx]; omega)) only [stdh, stdx, ↓reduceIte, Nat.reduceEqDiff, Int.reduceToNat, Int.reducePow, Nat.reduceAdd, Nat.reduceLeDiff, Nat.reduceMul, Nat.reduceBEq, reduceCtorEq, cuneiformlaw18_BodyCuts, cuneiformlaw18_BodyCuts.body, encM]
  refine callK_fn (cut17_ok _ a ha _ ?_)
  have sm := cutM_small a
  have fm := (cutM_fine2 a).fine
  generalize cutM a = m at *
  refine runL_V 60 ?_
  simp (disch := first | omega | (simp only [lnx]; omega)) only [stdh, stdx, ↓reduceIte, Nat.reduceEqDiff, Int.reduceToNat, Int.reducePow, Nat.reduceAdd, Nat.reduceLeDiff, Nat.reduceMul, Nat.reduceBEq, reduceCtorEq, encM]
  refine callK_fn (encode_ok _ m v fm _ ?_)
  refine runL_V 60 ?_
  by_cases hc : bcheckE m v = 0
  · obtain ⟨hv, hm0⟩ := bcheck_zero hc
    have hd : decide (bcheckE m v = 0) = true := decide_eq_true hc
    have hne := encB_ne hm0 hv
    have l1 := encB_len fm v
    have b1 := encB_byte m v
    have c1 := dec_cut hm0 fm hv hne
    have c2 := dec_enc (rest := [more]) hm0 fm hv
    rw [if_neg (by simp)] at c2
    rw [List.dropLast_eq_take] at c1
    generalize encB m v = x at *
    have hx : 0 < x.length := List.length_pos_iff.2 hne
    have hl0 : decide ((x.length : Int) = 0) = false := decide_eq_false (by omega)
    have hsub : (x.length : Int) - 1 = ((x.length - 1 : Nat) : Int) := by omega
    simp (disch := first | omega | (simp only [lnx]; omega)) only [stdh, stdx, ↓reduceIte, Nat.reduceEqDiff, Int.reduceToNat, Int.reducePow, Nat.reduceAdd, Nat.reduceLeDiff, Nat.reduceMul, Nat.reduceBEq, reduceCtorEq, encM, hd, hl0, cuneiformlaw18_BodyCuts.d0]
    have ht : ((x.length : Int) - 1).toNat = x.length - 1 := by omega
    rw [ht]
    generalize hxt : x.take (x.length - 1) = xt at *
    have hbt : ∀ b ∈ xt, b < 256 := fun b hb => b1 b (by rw [← hxt] at hb; exact List.mem_of_mem_take hb)
    have hlt : xt.length ≤ 1000000 := by rw [← hxt, List.length_take]; omega
    generalize hdm : decM m.k v xt = dm at *
    obtain ⟨dmm, dme⟩ := dm
    have hdz : decide ((dme : Int) = 0) = false := decide_eq_false (by
      have : dme ≠ 0 := c1
      omega)
    have hbm : ∀ b ∈ x ++ [more], b < 256 := fun b hb => by
      rcases List.mem_append.1 hb with h | h
      · exact b1 b h
      · rw [List.mem_singleton.1 h]; exact hmore
    have hlm : (x ++ [more]).length ≤ 1000000 := by simp; omega
    refine ⟨?_, ?_⟩
    all_goals
      refine callD_fn (decode_ok _ hbt hlt _ ?_)
      rw [hdm]
      refine ⟨by simp (disch := first | omega | (simp only [lnx]; omega)) only [stdh, stdx, ↓reduceIte, Nat.reduceEqDiff, Int.reduceToNat, Int.reducePow, Nat.reduceAdd, Nat.reduceLeDiff, Nat.reduceMul, Nat.reduceBEq, reduceCtorEq, encM, ht], ?_⟩
      refine runD_V 60 ?_
      simp (disch := first | omega | (simp only [lnx]; omega)) only [stdh, stdx, ↓reduceIte, Nat.reduceEqDiff, Int.reduceToNat, Int.reducePow, Nat.reduceAdd, Nat.reduceLeDiff, Nat.reduceMul, Nat.reduceBEq, reduceCtorEq, encM, ht]
    all_goals refine ⟨?_, ?_, ?_, ?_, ?_, ?_, ?_, ?_, ?_, ?_, ?_, ?_, ?_, ?_, ?_, ?_, ?_, ?_⟩
    all_goals
      simp (disch := first | omega | (simp only [lnx]; omega)) only [stdh, stdx, ↓reduceIte, Nat.reduceEqDiff, Int.reduceToNat, Int.reducePow, Nat.reduceAdd, Nat.reduceLeDiff, Nat.reduceMul, Nat.reduceBEq, reduceCtorEq, cuneiformlaw18_BodyCuts.d1]
      rw [appA]
      case hn => rfl
      case hx => omega
      simp (disch := first | omega | (simp only [lnx]; omega)) only [stdh, stdx, ↓reduceIte, Nat.reduceEqDiff, Int.reduceToNat, Int.reducePow, Nat.reduceAdd, Nat.reduceLeDiff, Nat.reduceMul, Nat.reduceBEq, reduceCtorEq]
      rw [appB]
      case hn => rfl
      case hk => rfl
      case hx => omega
      simp (disch := first | omega | (simp only [lnx]; omega)) only [stdh, stdx, ↓reduceIte, Nat.reduceEqDiff, Int.reduceToNat, Int.reducePow, Nat.reduceAdd, Nat.reduceLeDiff, Nat.reduceMul, Nat.reduceBEq, reduceCtorEq]
      refine callD_fn (decode2_ok _ (ys := x ++ [more]) (nats18 rfl (by simp)) hbm hlm _ ?_)
      rw [c2]
      refine ⟨by simp (disch := first | omega | (simp only [lnx]; omega)) only [stdh, stdx, ↓reduceIte, Nat.reduceEqDiff, Int.reduceToNat, Int.reducePow, Nat.reduceAdd, Nat.reduceLeDiff, Nat.reduceMul, Nat.reduceBEq, reduceCtorEq, encM, mg0], ?_⟩
      refine runD_V 60 ?_
      simp (disch := first | omega | (simp only [lnx]; omega)) only [stdh, stdx, ↓reduceIte, Nat.reduceEqDiff, Int.reduceToNat, Int.reducePow, Nat.reduceAdd, Nat.reduceLeDiff, Nat.reduceMul, Nat.reduceBEq, reduceCtorEq, encM, mg0]
      refine callK_fn (known18_ok _ _ ?_)
      refine runL_V 60 ?_
      simp (disch := first | omega | (simp only [lnx]; omega)) only [stdh, stdx, ↓reduceIte, Nat.reduceEqDiff, Int.reduceToNat, Int.reducePow, Nat.reduceAdd, Nat.reduceLeDiff, Nat.reduceMul, Nat.reduceBEq, reduceCtorEq, hdz]
      refine callK_fn (fun_sees (.cons (.refl _) (.cons (.agg (sees_bare 0)) .nil)) (same_ok _ mg0 mg0 ⟨Nat.zero_le _, Nat.zero_le _⟩ _ ?_))
      refine runL_V 60 ?_
      simp (disch := first | omega | (simp only [lnx]; omega)) only [stdh, stdx, ↓reduceIte, Nat.reduceEqDiff, Int.reduceToNat, Int.reducePow, Nat.reduceAdd, Nat.reduceLeDiff, Nat.reduceMul, Nat.reduceBEq, reduceCtorEq]
  · have hd : decide (bcheckE m v = 0) = false := decide_eq_false hc
    simp (disch := first | omega | (simp only [lnx]; omega)) only [stdh, stdx, ↓reduceIte, Nat.reduceEqDiff, Int.reduceToNat, Int.reducePow, Nat.reduceAdd, Nat.reduceLeDiff, Nat.reduceMul, Nat.reduceBEq, reduceCtorEq, hd]
    refine callK_fn (known18_ok _ _ ?_)
    refine runL_V 60 ?_
    simp (disch := first | omega | (simp only [lnx]; omega)) only [stdh, stdx, ↓reduceIte, Nat.reduceEqDiff, Int.reduceToNat, Int.reducePow, Nat.reduceAdd, Nat.reduceLeDiff, Nat.reduceMul, Nat.reduceBEq, reduceCtorEq]
end Go.Proofs.Ytdamfbjoiddfhaa

namespace Go.Proofs.Ytdamfbjoiddfhaa.bodyCuts
open Go Go.Am Go.ChangeShapes Go.WideShapes Go.ChangeAt Go.RowKit
set_option linter.unusedVariables false

theorem own : ownKnob Try.prog.godebug = none := by kernel_rfl
theorem laidOut : laidOutB Try.prog = true := by kernel_rfl

set_option maxRecDepth 100000 in
theorem lifted (os : Os) (started : os.Started) (H : Type) (enc : TypeId × Value → H) :
    ReturnsInHanded {} Try.checked os F.cuneiformlaw18_BodyCuts .any (Rows.bodyCutsSpec.pre6 enc Try.prog Try.f4 Rows.bodyCutsRow.domain false) (Rows.bodyCutsSpec.post enc Try.prog Try.f4 false true false false) := by
  refine returnsInHanded_of_change (C := Try.checked) own started (by kernel_rfl) Try.func4
    (ChangeSpec.witness6 (enc := enc) (C := Try.checked) false ⟨#[], #[.agg #[.int .i64 0, .int .i64 0, .int .i64 0, .int .i64 0, .int .i64 0, .int .i64 0, .int .i64 0, .slice none 0 0, .slice none 0 0, .string ⟨#[]⟩, .string ⟨#[]⟩], .int .i64 1, .int .u8 7], []⟩ 8 (by kernel_rfl) (by kernel_rfl) (by kernel_rfl) (by kernel_rfl)) ?_
  intro W base args ds gs before hval hW hcnd _
  refine law_calls (shs := [shMsg, .int .i64, .int .u8]) (tb := 4) laidOut (by kernel_rfl) ?_ (by kernel_rfl) Try.underlying4 rfl ?_ ?_ hval hW
  · intro t ht
    have : ∀ t ∈ Try.f4.params.toList, (Try.prog.readableRec t && decide (t < Try.prog.types.size)) = true := List.all_eq_true.1 (by kernel_rfl)
    simpa using this t ht
  · intro H ds hd
    match ds, hd with
    | [d0, d1, d2], _ => exact ⟨rfl, rfl, rfl⟩
  · rintro xs ⟨a, r, rfl, ha, b, r2, rfl, ⟨v, hv, _⟩, c, r3, rfl, ⟨k, hk, wk⟩, rfl⟩
    cases hv
    cases hk
    obtain ⟨x, x1, x2, _⟩ := msg_fits2 ha
    have hk : 0 ≤ k ∧ k < 256 := by
      simp only [Lit.wf, Bool.and_eq_true, decide_eq_true_eq, IntKind.min, IntKind.max, IntKind.signed, IntKind.bits] at wk
      simp at wk
      omega
    obtain ⟨n, rfl⟩ : ∃ n : Nat, k = n := ⟨k.toNat, by omega⟩
    exact fun_sees (.cons x1 (.cons (.refl _) (.cons (.refl _) .nil))) (bodycuts_ok ⟨x2.p, x2.c, x2.t, x2.g⟩ (by omega))

theorem proved : Rows.BodyCutsSaid :=
  OpenClaim.holds_of_wide F.cuneiformlaw18_BodyCuts Try.f4 rfl rfl rfl rfl rfl rfl rfl ⟨rfl, rfl, rfl, rfl, rfl⟩ rfl rfl rfl rfl rfl (by kernel_rfl) Try.func4 (by kernel_rfl)
    (of_decide_eq_true (by kernel_rfl)) (by unfold Func.isWrapper; first | (rw [if_pos (by decide +kernel)]; kernel_rfl) | (rw [if_neg (by decide +kernel)]; exact ⟨rfl, rfl⟩))
    (fun os started H enc _ => lifted os started H enc)
end Go.Proofs.Ytdamfbjoiddfhaa.bodyCuts
