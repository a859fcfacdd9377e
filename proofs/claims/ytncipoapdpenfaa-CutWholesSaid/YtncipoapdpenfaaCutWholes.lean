/-
  CutWholesSaid: whatever the frames, the law CutWholes returns true, and the input reads as it did. No condition. By an AI agent. No person has read it.
-/
import Derived.Test.YtncipoapdpenfaaLIB
import Derived.Test.YtncipoapdpenfaaAm6
import Derived.OpenShut
import Derived.Test.YtncipoapdpenfaaRows

namespace Go.Proofs.Ytncipoapdpenfaa
open Go Go.Am
set_option linter.unusedSimpArgs false
set_option linter.unusedVariables false

abbrev cwC : Ctx := ⟨F.cuneiformlaw12_CutWholes, 58, [.tmp 2], none⟩

/-- The first twenty, cut. -/
def cutFs (fs : List Fr) (j : Nat) : List Fr := (fs.take j).map cutFr

theorem cutFs_len {fs : List Fr} {j : Nat} (h : j ≤ fs.length) : (cutFs fs j).length = j := by simp [cutFs]; omega
theorem cutFs_succ {fs : List Fr} {j : Nat} (h : j < fs.length) : cutFs fs (j + 1) = cutFs fs j ++ [cutFr (fs.getD j default)] := by
  unfold cutFs
  rw [List.take_succ_eq_append_getElem h, List.map_append]
  simp [h]
theorem enc_flat_append (xs : List Fr) (f : Fr) : (xs ++ [f]).flatMap encFr = xs.flatMap encFr ++ encFr f := by simp [List.flatMap_append]
theorem encFr_cellish (f : Fr) : (encFr f).all AVal.cellish = true := rfl

theorem cw_loop (K : List AItem) (Q : AVal → AHeap → Prop) {t : Bool} {fs : List Fr}
    (hK : ∀ r' H a b n, n ≤ 20 → n ≤ fs.length → Own 6 T.frame_Frame 0 H a n ((cutFs fs n).flatMap encFr) → Own 6 T.cuneiformref08_F 0 H b n ((cutFs fs n).flatMap encFr) → rget r' 3 = a → rget r' 4 = b → Run Try.prog cwC K r' H Q) :
    ∀ (m j : Nat) (H : AHeap) (a b : AVal), j + m = min fs.length 20 → Own 6 T.frame_Frame 0 H a j ((cutFs fs j).flatMap encFr) → Own 6 T.cuneiformref08_F 0 H b j ((cutFs fs j).flatMap encFr) → 
    Rounds Try.prog cwC cuneiformlaw12_CutWholes.b0 [.inBlock 0] K [(0, recs encFr t fs), (3, a), (4, b), (5, .int .i64 (j : Nat))] H Q
  | 0, j, H, a, b, h1, ha, hb => by
    refine loop_V 100 cuneiformlaw12_CutWholes.b0.eq_1 ?_
    by_cases hf : j < fs.length
    · simp (disch := first | omega | (simp only [List.length_append, List.length_cons, List.length_nil, List.length_set, List.length_map, List.length_take, List.length_drop]; omega)) only [stdh, goK_s2b, dgoK_s2b, isEff_s2b, isPure_s2b, goK_b2s, dgoK_b2s, isEff_b2s, isPure_b2s, evalOp_s2b, s2bR, goK_mark, dgoK_mark, isEff_mark, isPure_mark, evalOp_mark, markA_slc, markB, ↓reduceIte, Nat.reduceEqDiff, Int.reduceToNat, Int.reducePow, Nat.reduceAdd, Nat.reduceLeDiff, Nat.reduceMul, Nat.reduceBEq, reduceCtorEq]
      exact hK _ H a b j (by omega) (by omega) ha hb rfl rfl
    · simp (disch := first | omega | (simp only [List.length_append, List.length_cons, List.length_nil, List.length_set, List.length_map, List.length_take, List.length_drop]; omega)) only [stdh, goK_s2b, dgoK_s2b, isEff_s2b, isPure_s2b, goK_b2s, dgoK_b2s, isEff_b2s, isPure_b2s, evalOp_s2b, s2bR, goK_mark, dgoK_mark, isEff_mark, isPure_mark, evalOp_mark, markA_slc, markB, ↓reduceIte, Nat.reduceEqDiff, Int.reduceToNat, Int.reducePow, Nat.reduceAdd, Nat.reduceLeDiff, Nat.reduceMul, Nat.reduceBEq, reduceCtorEq]
      exact hK _ H a b j (by omega) (by omega) ha hb rfl rfl
  | m + 1, j, H, a, b, h1, ha, hb => by
    refine loop_V 100 cuneiformlaw12_CutWholes.b0.eq_1 ?_
    have hj : j < fs.length := by omega
    have hld : ∀ H' : AHeap, loadA H' (some 6) (.sptr (recs encFr t fs) (j * 6)) = some (True, .agg (encFr (fs.getD j default))) := fun H' => frs_recs.loadN (o := 0) (n := 6) hj (by omega)
    have hs := cutFs_succ hj
    have hl := cutFs_len (fs := fs) (j := j) (by omega)
    generalize hfj : fs.getD j default = f at *
    simp (disch := first | omega | (simp only [List.length_append, List.length_cons, List.length_nil, List.length_set, List.length_map, List.length_take, List.length_drop]; omega)) only [stdh, goK_s2b, dgoK_s2b, isEff_s2b, isPure_s2b, goK_b2s, dgoK_b2s, isEff_b2s, isPure_b2s, evalOp_s2b, s2bR, goK_mark, dgoK_mark, isEff_mark, isPure_mark, evalOp_mark, markA_slc, markB, ↓reduceIte, Nat.reduceEqDiff, Int.reduceToNat, Int.reducePow, Nat.reduceAdd, Nat.reduceLeDiff, Nat.reduceMul, Nat.reduceBEq, reduceCtorEq, hld]
    refine callK_fn (cut_ok _ f _ ?_)
    refine runL_V 60 ?_
    have hef : fillAt [AVal.int .i64 0, .int .i64 0, .int .u32 0, .int .i64 0, .int .i64 0, .nils] 0 (encFr (cutFr f)) = encFr (cutFr f) := rfl
    have hel : (encFr (cutFr f)).length = 6 := rfl
    have hec := encFr_cellish (cutFr f)
    obtain ⟨p1, a1, hp1⟩ := Own.append3 (H := H ++ [.vec (encFr (cutFr f)) T.frame_Frame 6]) (ha.keep ((Keeps.refl H).push _)) (x := .slc H.length 0 1 6) (k := 1) (ys := encFr (cutFr f)) 64 rfl (by simp only [srcCells, view, at_0]; rfl) rfl (by omega) (by omega) (by omega) hec
    simp (disch := first | omega | (simp only [List.length_append, List.length_cons, List.length_nil, List.length_set, List.length_map, List.length_take, List.length_drop]; omega)) only [stdh, goK_s2b, dgoK_s2b, isEff_s2b, isPure_s2b, goK_b2s, dgoK_b2s, isEff_b2s, isPure_b2s, evalOp_s2b, s2bR, goK_mark, dgoK_mark, isEff_mark, isPure_mark, evalOp_mark, markA_slc, markB, ↓reduceIte, Nat.reduceEqDiff, Int.reduceToNat, Int.reducePow, Nat.reduceAdd, Nat.reduceLeDiff, Nat.reduceMul, Nat.reduceBEq, reduceCtorEq, hef, hel, hec, a1, hp1]
    generalize hH2 : killA (H ++ [.vec (encFr (cutFr f)) T.frame_Frame 6]) a = H2 at *
    have hl2 : H2.length = H.length + 1 := by rw [← hH2, killA_len]; simp
    have hbn : ∀ m ∈ b.names, m ∉ a.names := fun m hmb hma => by
      rcases ha.is with ⟨rfl, _⟩ | ⟨x, _, rfl, hx⟩
      · simp [AVal.names] at hma
      · rcases hb.is with ⟨rfl, _⟩ | ⟨y, _, rfl, hy⟩
        · simp [AVal.names] at hmb
        · simp [AVal.names] at hma hmb
          subst hma; subst hmb
          rw [hx] at hy; cases hy
    have hb2 : Own 6 T.cuneiformref08_F 0 (H2 ++ [.vec ((cutFs fs j).flatMap encFr ++ encFr (cutFr f)) T.frame_Frame 6]) b j ((cutFs fs j).flatMap encFr) := hb.moved fun m hm => by
      have := (hb.lt m hm).2
      rw [at_low (by omega), ← hH2, killA_get (hbn m hm), at_low (by omega)]
    have ha2 : Own 6 T.frame_Frame 0 (H2 ++ [.vec ((cutFs fs j).flatMap encFr ++ encFr (cutFr f)) T.frame_Frame 6]) (.slc (H.length + 1) 0 (j + 1) 6) (j + 1) ((cutFs fs (j + 1)).flatMap encFr) := by
      rw [hs, enc_flat_append]
      refine ⟨?_, .inr ⟨H.length + 1, by omega, rfl, by rw [← hl2, at_0]; rfl⟩⟩
      have := ha.len
      simp only [List.length_append, this, hel]; omega
    generalize hH3 : H2 ++ [.vec ((cutFs fs j).flatMap encFr ++ encFr (cutFr f)) T.frame_Frame 6] = H3 at *
    simp (disch := first | omega | (simp only [List.length_append, List.length_cons, List.length_nil, List.length_set, List.length_map, List.length_take, List.length_drop]; omega)) only [stdh, goK_s2b, dgoK_s2b, isEff_s2b, isPure_s2b, goK_b2s, dgoK_b2s, isEff_b2s, isPure_b2s, evalOp_s2b, s2bR, goK_mark, dgoK_mark, isEff_mark, isPure_mark, evalOp_mark, markA_slc, markB, ↓reduceIte, Nat.reduceEqDiff, Int.reduceToNat, Int.reducePow, Nat.reduceAdd, Nat.reduceLeDiff, Nat.reduceMul, Nat.reduceBEq, reduceCtorEq, hld]
    refine callK_fn (cut_ok _ f _ ?_)
    refine runL_V 60 ?_
    simp (disch := first | omega | (simp only [List.length_append, List.length_cons, List.length_nil, List.length_set, List.length_map, List.length_take, List.length_drop]; omega)) only [stdh, goK_s2b, dgoK_s2b, isEff_s2b, isPure_s2b, goK_b2s, dgoK_b2s, isEff_b2s, isPure_b2s, evalOp_s2b, s2bR, goK_mark, dgoK_mark, isEff_mark, isPure_mark, evalOp_mark, markA_slc, markB, ↓reduceIte, Nat.reduceEqDiff, Int.reduceToNat, Int.reducePow, Nat.reduceAdd, Nat.reduceLeDiff, Nat.reduceMul, Nat.reduceBEq, reduceCtorEq]
    refine callK_fn (of_ok _ (cutFr f) _ ?_)
    refine runL_V 60 ?_
    obtain ⟨p2, a2, hp2⟩ := Own.append3 (H := H3 ++ [.vec (encFr (cutFr f)) T.cuneiformref08_F 6]) (hb2.keep ((Keeps.refl H3).push _)) (x := .slc H3.length 0 1 6) (k := 1) (ys := encFr (cutFr f)) 64 rfl (by simp only [srcCells, view, at_0]; rfl) rfl (by omega) (by omega) (by omega) hec
    simp (disch := first | omega | (simp only [List.length_append, List.length_cons, List.length_nil, List.length_set, List.length_map, List.length_take, List.length_drop]; omega)) only [stdh, goK_s2b, dgoK_s2b, isEff_s2b, isPure_s2b, goK_b2s, dgoK_b2s, isEff_b2s, isPure_b2s, evalOp_s2b, s2bR, goK_mark, dgoK_mark, isEff_mark, isPure_mark, evalOp_mark, markA_slc, markB, ↓reduceIte, Nat.reduceEqDiff, Int.reduceToNat, Int.reducePow, Nat.reduceAdd, Nat.reduceLeDiff, Nat.reduceMul, Nat.reduceBEq, reduceCtorEq, hef, hel, hec, a2, hp2]
    have hl4 := killA_len (H3 ++ [ABlk.vec (encFr (cutFr f)) T.cuneiformref08_F 6]) b
    rw [List.length_append, List.length_singleton] at hl4
    refine cw_loop K Q hK m (j + 1) _ _ _ (by omega) ?_ ?_
    · refine ha2.moved fun m hm => ?_
      simp [AVal.names] at hm
      subst hm
      have hlt : H.length + 1 < H3.length := by rw [← hH3]; simp; omega
      have hnb : H.length + 1 ∉ b.names := fun hmb => by
        have := (hb.lt _ hmb).2; omega
      rw [at_low (by omega), killA_get hnb, at_low hlt]
    · rw [hs, enc_flat_append]
      refine ⟨?_, .inr ⟨H3.length + 1, by omega, rfl, by rw [← hl4, at_0]; rfl⟩⟩
      have := hb.len
      simp only [List.length_append, this, hel]; omega

theorem cutFs_flat {fs : List Fr} : ∀ (n : Nat), n ≤ 20 → (((cutFs fs n)).flatMap Fr.b).length ≤ 5000 := by
  intro n hn
  have key : ∀ l : List Fr, ((l.map cutFr).flatMap Fr.b).length ≤ 250 * l.length := by
    intro l
    induction l with
    | nil => simp
    | cons f l ih =>
      rw [List.map_cons, List.flatMap_cons, List.length_append, List.length_cons]
      have : (cutFr f).b.length ≤ 250 := by simp only [cutFr, List.length_take]; omega
      omega
  have := key (fs.take n)
  have h2 : (fs.take n).length ≤ 20 := by rw [List.length_take]; omega
  unfold cutFs; omega

theorem frs_own {H : AHeap} {el : TypeId} {a : AVal} {fs : List Fr} {n B : Nat} (h : Own 6 el B H a n (fs.flatMap encFr)) (hl : fs.length = n) : Frs H a fs := ⟨by rw [hl]; exact h.slen, h.view⟩

theorem cutwholes_ok {fs : List Fr} : FunOK Try.prog F.cuneiformlaw12_CutWholes [recs encFr false fs] [] fun av _ => av = .bool true := by
  refine fun_V 100 cuneiformlaw12_CutWholes_code rfl ?_
  simp (disch := first | omega | (simp only [List.length_append, List.length_cons, List.length_nil, List.length_set, List.length_map, List.length_take, List.length_drop]; omega)) only [stdh, goK_s2b, dgoK_s2b, isEff_s2b, isPure_s2b, goK_b2s, dgoK_b2s, isEff_b2s, isPure_b2s, evalOp_s2b, s2bR, goK_mark, dgoK_mark, isEff_mark, isPure_mark, evalOp_mark, markA_slc, markB, ↓reduceIte, Nat.reduceEqDiff, Int.reduceToNat, Int.reducePow, Nat.reduceAdd, Nat.reduceLeDiff, Nat.reduceMul, Nat.reduceBEq, reduceCtorEq, cuneiformlaw12_CutWholes, cuneiformlaw12_CutWholes.body]
  refine cw_loop _ _ ?_ (min fs.length 20) 0 [] .nils .nils (by omega) Own.nil Own.nil
  intro r' H a b n hn hnl ha hb r3 r4
  have hl := cutFs_len hnl
  have hsum := cutFs_flat (fs := fs) n hn
  generalize cutFs fs n = cs at *
  refine run_V0 60 ?_
  simp (disch := first | omega | (simp only [List.length_append, List.length_cons, List.length_nil, List.length_set, List.length_map, List.length_take, List.length_drop]; omega)) only [stdh, goK_s2b, dgoK_s2b, isEff_s2b, isPure_s2b, goK_b2s, dgoK_b2s, isEff_b2s, isPure_b2s, evalOp_s2b, s2bR, goK_mark, dgoK_mark, isEff_mark, isPure_mark, evalOp_mark, markA_slc, markB, ↓reduceIte, Nat.reduceEqDiff, Int.reduceToNat, Int.reducePow, Nat.reduceAdd, Nat.reduceLeDiff, Nat.reduceMul, Nat.reduceBEq, reduceCtorEq, r3, r4]
  refine callK_fn (whole_ok _ (frs_own ha hl) (by omega) (by omega) _ ?_)
  refine runL_V 60 ?_
  simp (disch := first | omega | (simp only [List.length_append, List.length_cons, List.length_nil, List.length_set, List.length_map, List.length_take, List.length_drop]; omega)) only [stdh, goK_s2b, dgoK_s2b, isEff_s2b, isPure_s2b, goK_b2s, dgoK_b2s, isEff_b2s, isPure_b2s, evalOp_s2b, s2bR, goK_mark, dgoK_mark, isEff_mark, isPure_mark, evalOp_mark, markA_slc, markB, ↓reduceIte, Nat.reduceEqDiff, Int.reduceToNat, Int.reducePow, Nat.reduceAdd, Nat.reduceLeDiff, Nat.reduceMul, Nat.reduceBEq, reduceCtorEq, r4]
  refine callK_fn (rwhole_ok _ (frs_own hb hl) (by omega) (by omega) _ ?_)
  refine runL_V 60 ?_
  simp (disch := first | omega | (simp only [List.length_append, List.length_cons, List.length_nil, List.length_set, List.length_map, List.length_take, List.length_drop]; omega)) only [stdh, goK_s2b, dgoK_s2b, isEff_s2b, isPure_s2b, goK_b2s, dgoK_b2s, isEff_b2s, isPure_b2s, evalOp_s2b, s2bR, goK_mark, dgoK_mark, isEff_mark, isPure_mark, evalOp_mark, markA_slc, markB, ↓reduceIte, Nat.reduceEqDiff, Int.reduceToNat, Int.reducePow, Nat.reduceAdd, Nat.reduceLeDiff, Nat.reduceMul, Nat.reduceBEq, reduceCtorEq]
  refine callK_fn (known12_ok _ _ ?_)
  refine runL_V 60 ?_
  simp (disch := first | omega | (simp only [List.length_append, List.length_cons, List.length_nil, List.length_set, List.length_map, List.length_take, List.length_drop]; omega)) only [stdh, goK_s2b, dgoK_s2b, isEff_s2b, isPure_s2b, goK_b2s, dgoK_b2s, isEff_b2s, isPure_b2s, evalOp_s2b, s2bR, goK_mark, dgoK_mark, isEff_mark, isPure_mark, evalOp_mark, markA_slc, markB, ↓reduceIte, Nat.reduceEqDiff, Int.reduceToNat, Int.reducePow, Nat.reduceAdd, Nat.reduceLeDiff, Nat.reduceMul, Nat.reduceBEq, reduceCtorEq]
  have hwl : (wholeOf cs).1.length ≤ 5000 := by
    unfold wholeOf
    split
    · simp
    · split
      · simp
      · split
        · simp
        · exact hsum
  refine callK_fn (same_ok _ (nums_nats _ _ _ _) (nums_nats _ _ _ _) (by omega) _ ?_)
  rw [show decide ((wholeOf cs).1 = (wholeOf cs).1) = true by simp]
  refine runL_V 60 ?_
  simp (disch := first | omega | (simp only [List.length_append, List.length_cons, List.length_nil, List.length_set, List.length_map, List.length_take, List.length_drop]; omega)) only [stdh, goK_s2b, dgoK_s2b, isEff_s2b, isPure_s2b, goK_b2s, dgoK_b2s, isEff_b2s, isPure_b2s, evalOp_s2b, s2bR, goK_mark, dgoK_mark, isEff_mark, isPure_mark, evalOp_mark, markA_slc, markB, ↓reduceIte, Nat.reduceEqDiff, Int.reduceToNat, Int.reducePow, Nat.reduceAdd, Nat.reduceLeDiff, Nat.reduceMul, Nat.reduceBEq, reduceCtorEq]
end Go.Proofs.Ytncipoapdpenfaa

namespace Go.Proofs.Ytncipoapdpenfaa
open Go Go.Am
set_option linter.unusedSimpArgs false
set_option linter.unusedVariables false

theorem slice_one {s : Sh} {l : List AVal} (h : Fits (.slice s) l) : ∃ p : AVal, l = [p] ∧ Fits (.slice s) [p] := by
  rcases h with rfl | ⟨gs, t, hg, rfl, hl⟩
  · exact ⟨_, rfl, .inl rfl⟩
  · exact ⟨_, rfl, .inr ⟨gs, t, hg, rfl, hl⟩⟩

theorem fr_fits {g : List AVal} (h : Fits shFrame g) : ∃ x : Fr, SeesL g (encFr x) := by
  obtain ⟨l1, l2, rfl, h1, h2⟩ := h
  obtain ⟨l3, l4, rfl, h3, h4⟩ := h2
  have h4' : l4 = [] := h4
  subst h4'
  obtain ⟨_, _, rfl, ⟨v, rfl, b1⟩, h1⟩ := h1
  obtain ⟨_, _, rfl, ⟨k, rfl, b2⟩, h1⟩ := h1
  obtain ⟨_, _, rfl, ⟨s, rfl, b3⟩, h1⟩ := h1
  obtain ⟨_, _, rfl, ⟨i, rfl, b4⟩, h1⟩ := h1
  obtain ⟨_, _, rfl, ⟨c, rfl, b5⟩, h1⟩ := h1
  have h1' : _ = ([] : List AVal) := h1
  subst h1'
  obtain ⟨x, rfl, hx⟩ := slice_one h3
  obtain ⟨bs, q1, q2, q3⟩ := nums_fits (k := .u8) rfl (show FitsA (.slice (.int .u8)) x from hx)
  exact ⟨⟨⟨v, k, s, i, c⟩, bs⟩, SeesL.cons (Sees.refl _) (SeesL.cons (Sees.refl _) (SeesL.cons (Sees.refl _) (SeesL.cons (Sees.refl _) (SeesL.cons (Sees.refl _) (SeesL.cons q1 SeesL.nil)))))⟩

theorem frs_fits {a : AVal} (h : FitsA (.slice shFrame) a) : ∃ fs : List Fr, Sees a (recs encFr false fs) := by
  rcases h with h | ⟨gs, t, hg, h, hl⟩
  · cases h
    exact ⟨[], Sees.nils false⟩
  · cases h
    have : ∃ fs : List Fr, SeesL gs.flatten (fs.flatMap encFr) ∧ fs.length = gs.length := by
      clear hl
      induction gs with
      | nil => exact ⟨[], SeesL.nil, rfl⟩
      | cons g gs ih =>
        obtain ⟨fs, h1, h2⟩ := ih fun x hx => hg x (by simp [hx])
        obtain ⟨x, hs⟩ := fr_fits (hg g (by simp))
        refine ⟨x :: fs, ?_, by simp [h2]⟩
        rw [List.flatten_cons, List.flatMap_cons]; exact SeesL.append hs h1
    obtain ⟨fs, h1, h2⟩ := this
    refine ⟨fs, ?_⟩
    have : recs encFr false fs = .imm (fs.flatMap encFr) gs.length false := by simp [recs, h2]
    rw [this]
    exact (Sees.imm h1 _ _).trans (Sees.loose _ _ _)
end Go.Proofs.Ytncipoapdpenfaa

namespace Go.Proofs.Ytncipoapdpenfaa.cutWholes
open Go Go.Am Go.ChangeShapes Go.WideShapes Go.ChangeAt Go.RowKit
set_option linter.unusedVariables false

theorem own : ownKnob Try.prog.godebug = none := by kernel_rfl
theorem laidOut : laidOutB Try.prog = true := by kernel_rfl

set_option maxRecDepth 100000 in
theorem lifted (os : Os) (started : os.Started) (H : Type) (enc : TypeId × Value → H) :
    ReturnsInHanded {} Try.checked os F.cuneiformlaw12_CutWholes .any (Rows.cutWholesSpec.pre6 enc Try.prog Try.f4 Rows.cutWholesRow.domain false) (Rows.cutWholesSpec.post enc Try.prog Try.f4 false true false false) := by
  refine returnsInHanded_of_change (C := Try.checked) own started (by kernel_rfl) Try.func4
    (ChangeSpec.witness6 (enc := enc) (C := Try.checked) false ⟨#[], #[.slice none 0 0], []⟩ 8 (by kernel_rfl) (by kernel_rfl) (by kernel_rfl) (by kernel_rfl)) ?_
  intro W base args ds gs before hval hW hcnd _
  refine law_calls (shs := [.slice shFrame]) (tb := 4) laidOut (by kernel_rfl) ?_ (by kernel_rfl) Try.underlying4 rfl ?_ ?_ hval hW
  · intro t ht
    have : ∀ t ∈ Try.f4.params.toList, (Try.prog.readableRec t && decide (t < Try.prog.types.size)) = true := List.all_eq_true.1 (by kernel_rfl)
    simpa using this t ht
  · intro H ds hd
    match ds, hd with
    | [d0], _ => exact ⟨rfl, rfl, rfl⟩
  · rintro xs ⟨a, r, rfl, ha, rfl⟩
    obtain ⟨fs, q1⟩ := frs_fits ha
    exact fun_sees (.cons q1 .nil) cutwholes_ok

theorem proved : Rows.CutWholesSaid :=
  OpenClaim.holds_of_wide F.cuneiformlaw12_CutWholes Try.f4 rfl rfl rfl rfl rfl rfl rfl ⟨rfl, rfl, rfl, rfl, rfl⟩ rfl rfl rfl rfl rfl (by kernel_rfl) Try.func4 (by kernel_rfl)
    (of_decide_eq_true (by kernel_rfl)) (by unfold Func.isWrapper; first | (rw [if_pos (by decide +kernel)]; kernel_rfl) | (rw [if_neg (by decide +kernel)]; exact ⟨rfl, rfl⟩))
    (fun os started H enc _ => lifted os started H enc)
end Go.Proofs.Ytncipoapdpenfaa.cutWholes
