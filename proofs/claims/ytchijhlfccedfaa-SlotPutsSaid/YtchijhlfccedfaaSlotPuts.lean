/-
  whatever frames come to a slot, its answers, and what is told of it, are those of the document; no conditions By an AI agent. No person has read it.
-/
import Derived.Test.YtchijhlfccedfaaSLOTC
import Derived.Test.YtchijhlfccedfaaAm6
import Derived.OpenShut
import Derived.Test.YtchijhlfccedfaaRows
set_option linter.unusedSimpArgs false
set_option linter.unusedVariables false

namespace Go.Proofs.Ytchijhlfccedfaa
open Go Go.Am
set_option linter.unusedSimpArgs false
set_option linter.unusedVariables false

theorem rcheck_ok (H : AHeap) (h : Hd) (Q : AVal → AHeap → Prop) (hq : Q (.int .i64 (checkOf h : Nat)) H) : FunOK Try.prog F.cuneiformref07_Check [.agg (encHd h)] H Q := by
  refine fun_iced cuneiformref07_Check_code fun _ => ?_
  refine fun_V 150 cuneiformref07_Check_code rfl ?_
  have hce : (encHd h).all AVal.cellish = true := rfl
  have e0 : h.v = 1 ∨ h.v = 2 → bads h 0 = false := fun hh => by simp [bads]; omega
  have e1 : ¬ (h.k < 1 ∨ 5 < h.k) → bads h 1 = false := fun hh => by simp [bads]; omega
  have fin : ∀ n, checkOf h = n → ∀ L, IceQ H Q (.int .i64 (n : Nat)) (H ++ L) := fun n hn L => ice_none trivial (by rw [← hn]; exact hq)
  by_cases v1 : h.v = 1 ∨ h.v = 2
  · have b0 := e0 v1
    rcases v1 with v1 | v1
    all_goals
      by_cases k1 : h.k < 1 ∨ 5 < h.k
      · have b1 : bads h 1 = true := by simp [bads, k1]
        have hc : checkOf h = 9 := by simp [checkOf, b0, b1]
        by_cases k2 : h.k < 1
        · simp (disch := first | omega | (simp only [lnx]; omega)) only [stdh, stdx, ↓reduceIte, seval, cuneiformref07_Check, cuneiformref07_Check.body, encHd]
          exact fin 9 hc _
        · have k3 : 5 < h.k := by omega
          simp (disch := first | omega | (simp only [lnx]; omega)) only [stdh, stdx, ↓reduceIte, seval, cuneiformref07_Check, cuneiformref07_Check.body, encHd]
          exact fin 9 hc _
      · have b1 := e1 k1
        by_cases c1 : h.c < 1 ∨ 255 < h.c ∨ h.i < 0 ∨ h.c ≤ h.i
        · have b2 : bads h 2 = true := by simp [bads, c1]
          have hc : checkOf h = 3 := by simp [checkOf, b0, b1, b2]
          by_cases d1 : h.c < 1
          · simp (disch := first | omega | (simp only [lnx]; omega)) only [stdh, stdx, ↓reduceIte, seval, cuneiformref07_Check, cuneiformref07_Check.body, encHd]
            exact fin 3 hc _
          · by_cases d2 : 255 < h.c
            · simp (disch := first | omega | (simp only [lnx]; omega)) only [stdh, stdx, ↓reduceIte, seval, cuneiformref07_Check, cuneiformref07_Check.body, encHd]
              exact fin 3 hc _
            · by_cases d3 : h.i < 0
              · simp (disch := first | omega | (simp only [lnx]; omega)) only [stdh, stdx, ↓reduceIte, seval, cuneiformref07_Check, cuneiformref07_Check.body, encHd]
                exact fin 3 hc _
              · have d4 : h.c ≤ h.i := by omega
                simp (disch := first | omega | (simp only [lnx]; omega)) only [stdh, stdx, ↓reduceIte, seval, cuneiformref07_Check, cuneiformref07_Check.body, encHd]
                exact fin 3 hc _
        · have b2 : bads h 2 = false := by simp [bads]; omega
          have hc : checkOf h = 0 := by simp [checkOf, b0, b1, b2]
          simp (disch := first | omega | (simp only [lnx]; omega)) only [stdh, stdx, ↓reduceIte, seval, cuneiformref07_Check, cuneiformref07_Check.body, encHd]
          exact fin 0 hc _
  · have b0 : bads h 0 = true := by simp [bads]; omega
    have hc : checkOf h = 10 := by simp [checkOf, b0]
    simp (disch := first | omega | (simp only [lnx]; omega)) only [stdh, stdx, ↓reduceIte, seval, cuneiformref07_Check, cuneiformref07_Check.body, encHd]
    exact fin 10 hc _

theorem known13_ok (H : AHeap) (Q : AVal → AHeap → Prop) (h : Q (.bool true) H) : FunOK Try.prog F.cuneiformlaw13_known [] H Q := fun_reck codes_ok 100000 (.bool true) (by kernel_rfl) rfl rfl H Q h

theorem rnew2_ok (H : AHeap) (h : Hd) (Q : AVal → AHeap → Prop) (hq : Q (.agg (encS { h with i := 0 } [])) H) : FunOK Try.prog F.cuneiformref13_New [.agg (encHd h)] H Q := by
  refine fun_iced cuneiformref13_New_code fun _ => ?_
  refine fun_V 60 cuneiformref13_New_code rfl ?_
  simp (disch := first | omega | (simp only [lnx]; omega)) only [stdh, stdx, ↓reduceIte, seval, cuneiformref13_New, cuneiformref13_New.body, encHd]
  refine ⟨keeps_append _ _, [], .agg (encS { h with i := 0 } []), by simp, ?_, hq⟩
  simp only [mv, mvs]
  exact Sees.agg (SeesL.cons (Sees.refl _) (SeesL.cons (Sees.refl _) (SeesL.cons (Sees.refl _) (SeesL.cons (Sees.refl _) (SeesL.cons (Sees.refl _) (SeesL.cons (Sees.nils false) SeesL.nil))))))

theorem rput_ok {h : Hd} {fs : List Fr} (H : AHeap) (f : Fr) (hw : SlotW h fs) (hfl : f.b.length ≤ 1000) (Q : AVal → AHeap → Prop) (hq : Q (.tup [.agg (encS h (putFs h fs f)), .int .i64 (putE h fs f : Nat)]) H) : FunOK Try.prog F.cuneiformref13_Put [.agg (encS h fs), .agg (encFr f)] H Q := by
  have hlen := hw.len
  unfold putFs at hq
  split at hq
  · rename_i he
    rw [he] at hq
    exact rput_yes H f (by omega) hw.size he Q hq
  · rename_i he
    exact rput_no H f (by omega) hfl hw.size he Q hq
theorem sput_ok {H : AHeap} {S M : Nat} {h : Hd} {fs : List Fr} (hs : SlotS H S M h fs) (hw : SlotW h fs) (f : Fr) (hfl : f.b.length ≤ 1000) (Q : AVal → AHeap → Prop)
    (hq : ∀ H', H'.length = H.length → (∀ x, x ≠ S → x ≠ M → H'[x]? = H[x]?) → SlotS H' S M h (putFs h fs f) → Q (.int .i64 (putE h fs f : Nat)) H') : FunOK Try.prog F.slot_Slot_Put [.ptr S 0, .agg (encFr f)] H Q := by
  by_cases he : putE h fs f = 0
  · have hp : putFs h fs f = fs ++ [f] := by rw [putFs, if_pos he]
    rw [he, hp] at hq
    exact sput_yes hs f hw.size he Q hq
  · have hp : putFs h fs f = fs := by rw [putFs, if_neg he]
    rw [hp] at hq
    exact sput_no hs f hfl hw.size he Q (hq H rfl (fun _ _ _ => rfl) hs)
theorem cutFr_len (f : Fr) : (cutFr f).b.length ≤ 250 := by
  simp only [cutFr, List.length_take]; omega

abbrev spC : Ctx := ⟨F.cuneiformlaw13_SlotPuts, 86, [.tmp 4], none⟩

set_option maxRecDepth 10000 in
set_option maxHeartbeats 8000000 in
theorem sp_loop {l : List Fr} {h : Hd} {S M C : Nat} (K : List AItem) (Q : AVal → AHeap → Prop) (hK : ∀ r H, Run Try.prog spC K r H Q) (hCS : C ≠ S) (hCM : C ≠ M) :
    ∀ (z i : Nat) (H : AHeap) (fs : List Fr) (rs : Regs), min l.length 40 - i = z → i ≤ min l.length 40 → SlotS H S M h fs → SlotW h fs → H[C]? = some (.cells (encS h fs) T.cuneiformref13_S) → rget rs 1 = recs encFr false l → rget rs 5 = .ptr S 0 → rget rs 8 = .ptr C 0 → rget rs 9 = .int .i64 (i : Nat) →
    Rounds Try.prog spC cuneiformlaw13_SlotPuts.b1 [.inBlock 0] K rs H Q
  | z, i, H, fs, rs, h1, h2, hs, hw, hc, r1, r5, r8, r9 => by
    refine loop_V 100 cuneiformlaw13_SlotPuts.b1.eq_1 ?_
    have hcast : (i : Int) + 1 = ((i + 1 : Nat) : Int) := by omega
    have hCl : C < H.length := (List.getElem?_eq_some_iff.1 hc).1
    by_cases hi : i < l.length ∧ i < 40
    · obtain ⟨hi1, hi2⟩ := hi
      have hld := fun H => (frs_recs (H := H) (t := false) (fs := l)).loadN hi1 (o := 0) (n := 6) (by omega)
      simp only [Nat.add_zero] at hld
      have e6 : ∀ f : Fr, (encFr f).take 6 = encFr f := fun _ => rfl
      simp only [List.drop_zero, e6] at hld
      generalize l.getD i default = f0 at *
      simp (disch := first | omega | (simp only [lnx]; omega)) only [stdh, stdx, ↓reduceIte, seval, r1, r5, r8, r9, hld]
      refine callK_fn (cut_ok _ f0 _ ?_)
      have hfl := cutFr_len f0
      generalize cutFr f0 = f at *
      refine runL_V 60 ?_
      simp (disch := first | omega | (simp only [lnx]; omega)) only [stdh, stdx, ↓reduceIte, seval, encFr]
      refine callK_fn (scopy_ok (hs.keep (keeps_append _ _)) _ ?_)
      intro H2 S2 M2 hk2 hS2 hM2 hs2
      have hl2 := hk2.1
      rw [List.length_append] at hl2 hS2 hM2
      simp only [List.length_cons, List.length_nil] at hl2 hS2 hM2
      have hs' := hs.keep (keeps_append H _ |>.trans hk2)
      have cx2 := ((keeps_append H _).trans hk2).get hc
      have fx2 := hk2.get (n := H.length) at_0
      have hS2l := hs2.lt.1
      have hM2l := hs2.lt.2
      simp only [encS] at cx2
      have cx : ∀ L, (H2 ++ L)[C]? = _ := fun L => (at_low (by omega)).trans cx2
      have fx : ∀ L, (H2 ++ L)[H.length]? = _ := fun L => (at_low (by omega)).trans fx2
      refine runL_V 4 ?_
      simp (disch := first | omega | (simp only [lnx]; omega)) only [stdh, stdx, ↓reduceIte, seval, cuneiformlaw13_SlotPuts.d0]
      have hn : (encS h (putFs h fs f)).length = 6 := rfl
      intro s hsm
      simp only [List.mem_cons, List.not_mem_nil, or_false] at hsm
      rcases hsm with rfl | rfl | rfl
      all_goals
        refine runD_V 60 ?_
        simp (disch := first | omega | (simp only [lnx]; omega)) only [stdh, stdx, ↓reduceIte, seval, cx2, fx2, cx, fx]
        refine callD_fn (of_ok _ f _ ?_)
        refine ⟨by simp (disch := first | omega | (simp only [lnx]; omega)) only [stdh, stdx, ↓reduceIte, seval, cx2, fx2, cx, fx], ?_⟩
        refine runD_V 60 ?_
        simp (disch := first | omega | (simp only [lnx]; omega)) only [stdh, stdx, ↓reduceIte, seval, cx2, fx2, cx, fx]
        refine callD_fn (rput_ok _ f hw (by omega) _ ?_)
        refine ⟨by simp (disch := first | omega | (simp only [lnx]; omega)) only [stdh, stdx, ↓reduceIte, seval, cx2, fx2, cx, fx], ?_⟩
        refine runD_V 60 ?_
        simp (disch := first | omega | (simp only [lnx]; omega)) only [stdh, stdx, ↓reduceIte, seval, cx2, fx2, cx, fx, encS]
        refine callK_fn (sput_ok (hs'.keep (keeps_append _ _)) hw f (by omega) _ ?_)
        intro H4 l4 k4 s4
        rw [List.length_append] at l4
        simp only [List.length_cons, List.length_nil] at l4
        have hSl := hs.lt.1
        have hMl := hs.lt.2
        have c4 := (k4 C hCS hCM).trans ((at_low (by omega)).trans cx2)
        have n4 := (k4 H2.length (by omega) (by omega)).trans at_0
        have s42 : SlotS H4 S2 M2 h fs := ⟨(k4 S2 (by omega) (by omega)).trans ((at_low hS2l).trans hs2.s), (k4 M2 (by omega) (by omega)).trans ((at_low hM2l).trans hs2.m)⟩
        refine runL_V 60 ?_
        simp (disch := first | omega | (simp only [lnx]; omega)) only [stdh, stdx, ↓reduceIte, seval, c4]
        refine callK_fn (alike_ok s42 hw _ ?_)
        refine runL_V 60 ?_
        simp (disch := first | omega | (simp only [lnx]; omega)) only [stdh, stdx, ↓reduceIte, seval, c4, n4, List.getElem?_set_self]
        have hw' := hw.put f
        generalize putFs h fs f = fs' at *
        have s5 : SlotS (H4.set C (.cells (encS h fs') T.cuneiformref13_S)) S M h fs' := ⟨by rw [List.getElem?_set_ne hCS]; exact s4.s, by rw [List.getElem?_set_ne hCM]; exact s4.m⟩
        have c5 : (H4.set C (.cells (encS h fs') T.cuneiformref13_S))[C]? = some (.cells (encS h fs') T.cuneiformref13_S) := List.getElem?_set_self (by omega)
        simp only [encS] at s5 c5
        generalize H4.set C (.cells [.int .i64 h.v, .int .i64 h.k, .int .u32 h.s, .int .i64 h.i, .int .i64 h.c, recs encFr false fs'] T.cuneiformref13_S) = H5 at *
        refine callK_fn (alike_ok s5 hw' _ ?_)
        refine runL_V 60 ?_
        simp (disch := first | omega | (simp only [lnx]; omega)) only [stdh, stdx, ↓reduceIte, seval]
        rw [hcast]
        exact sp_loop K Q hK hCS hCM _ (i + 1) H5 fs' _ rfl (by omega) s5 hw' c5 rfl rfl rfl rfl
    · by_cases hi1 : i < l.length
      · simp (disch := first | omega | (simp only [lnx]; omega)) only [stdh, stdx, ↓reduceIte, seval, r1, r5, r8, r9]
        exact hK _ _
      · simp (disch := first | omega | (simp only [lnx]; omega)) only [stdh, stdx, ↓reduceIte, seval, r1, r5, r8, r9]
        exact hK _ _
  termination_by z => z

set_option maxRecDepth 10000 in
set_option maxHeartbeats 8000000 in
theorem slotputs_ok {h : Hd} {l : List Fr} : FunOK Try.prog F.cuneiformlaw13_SlotPuts [.agg (encHd h), recs encFr false l] [] fun av _ => av = .bool true := by
  refine fun_V 60 cuneiformlaw13_SlotPuts_code rfl ?_
  simp (disch := first | omega | (simp only [lnx]; omega)) only [stdh, stdx, ↓reduceIte, seval, cuneiformlaw13_SlotPuts, cuneiformlaw13_SlotPuts.body, encHd]
  by_cases hk : checkOf h = 0
  · refine callK_fn (snew_ok _ h hk _ ?_)
    intro H S M hkp hS hM hs
    refine runL_V 60 ?_
    have x0 := hkp.get (n := 0) rfl
    have hS' : 0 < S := hS
    have hM' : 0 < M := hM
    simp (disch := first | omega | (simp only [lnx]; omega)) only [stdh, stdx, ↓reduceIte, seval, x0]
    refine callK_fn (rcheck_ok _ h _ ?_)
    rw [hk]
    refine runL_V 60 ?_
    simp (disch := first | omega | (simp only [lnx]; omega)) only [stdh, stdx, ↓reduceIte, seval, x0, eqA]
    refine callK_fn (rnew2_ok _ h _ ?_)
    refine runL_V 60 ?_
    have hw : SlotW { h with i := 0 } [] := by
      refine ⟨?_, rfl, by simp [sizeFs], by simp, List.Pairwise.nil⟩
      unfold checkOf bads at hk ⊢
      simp at hk ⊢
      split at hk
      · omega
      split at hk
      · omega
      split at hk
      · omega
      rename_i h1 h2 h3
      rw [if_neg h1, if_neg h2, if_neg (by omega)]
    have hSl := hs.lt.1
    have hMl := hs.lt.2
    simp (disch := first | omega | (simp only [lnx]; omega)) only [stdh, stdx, ↓reduceIte, seval, encS]
    refine sp_loop (C := H.length) (S := S) (M := M) (h := { h with i := 0 }) (l := l) _ _ ?_ (by omega) (by omega) _ 0 _ [] _ rfl (by omega) (hs.keep (keeps_append _ _)) hw at_0 rfl rfl rfl rfl
    intro r H'
    refine run_V0 60 ?_
    simp (disch := first | omega | (simp only [lnx]; omega)) only [stdh, stdx, ↓reduceIte, seval]
    refine callK_fn (known13_ok _ _ ?_)
    refine runL_V 60 ?_
    simp (disch := first | omega | (simp only [lnx]; omega)) only [stdh, stdx, ↓reduceIte, seval]
  · refine callK_fn (snew_bad _ h hk _ ?_)
    refine runL_V 60 ?_
    simp (disch := first | omega | (simp only [lnx]; omega)) only [stdh, stdx, ↓reduceIte, seval]
    refine callK_fn (rcheck_ok _ h _ ?_)
    refine runL_V 60 ?_
    have d : decide ((checkOf h : Int) = 0) = false := decide_eq_false (by omega)
    simp (disch := first | omega | (simp only [lnx]; omega)) only [stdh, stdx, ↓reduceIte, seval, d]
    refine callK_fn (known13_ok _ _ ?_)
    refine runL_V 60 ?_
    simp (disch := first | omega | (simp only [lnx]; omega)) only [stdh, stdx, ↓reduceIte, seval, eqA]
end Go.Proofs.Ytchijhlfccedfaa

namespace Go.Proofs.Ytchijhlfccedfaa.slotPuts
open Go Go.Am Go.ChangeShapes Go.WideShapes Go.ChangeAt Go.RowKit
set_option linter.unusedVariables false

theorem own : ownKnob Try.prog.godebug = none := by kernel_rfl
theorem laidOut : laidOutB Try.prog = true := by kernel_rfl

set_option maxRecDepth 100000 in
theorem lifted (os : Os) (started : os.Started) (H : Type) (enc : TypeId × Value → H) :
    ReturnsInHanded {} Try.checked os F.cuneiformlaw13_SlotPuts .any (Rows.slotPutsSpec.pre6 enc Try.prog Try.f3 Rows.slotPutsRow.domain false) (Rows.slotPutsSpec.post enc Try.prog Try.f3 false true false false) := by
  refine returnsInHanded_of_change (C := Try.checked) own started (by kernel_rfl) Try.func3
    (ChangeSpec.witness6 (enc := enc) (C := Try.checked) false ⟨#[], #[.agg #[.int .i64 0, .int .i64 0, .int .u32 0, .int .i64 0, .int .i64 0], .slice none 0 0], []⟩ 8 (by kernel_rfl) (by kernel_rfl) (by kernel_rfl) (by kernel_rfl)) ?_
  intro W base args ds gs before hval hW hcnd _
  refine law_calls (shs := [shHead, .slice shFrame]) (tb := 4) laidOut (by kernel_rfl) ?_ (by kernel_rfl) Try.underlying4 rfl ?_ ?_ hval hW
  · intro t ht
    have : ∀ t ∈ Try.f3.params.toList, (Try.prog.readableRec t && decide (t < Try.prog.types.size)) = true := List.all_eq_true.1 (by kernel_rfl)
    simpa using this t ht
  · intro H ds hd
    match ds, hd with
    | [d0, d1], _ => exact ⟨rfl, rfl, rfl⟩
  · rintro xs ⟨a, r, rfl, ha, b, r2, rfl, hb, rfl⟩
    obtain ⟨l, rfl, h⟩ := ha
    obtain ⟨_, _, rfl, ⟨v, rfl, _⟩, h⟩ := h
    obtain ⟨_, _, rfl, ⟨k, rfl, _⟩, h⟩ := h
    obtain ⟨_, _, rfl, ⟨s, rfl, _⟩, h⟩ := h
    obtain ⟨_, _, rfl, ⟨i, rfl, _⟩, h⟩ := h
    obtain ⟨_, _, rfl, ⟨n, rfl, _⟩, h⟩ := h
    have h' : _ = ([] : List AVal) := h
    subst h'
    obtain ⟨fs, q1⟩ := frs_fits hb
    exact fun_sees (.cons (.refl _) (.cons q1 .nil)) (slotputs_ok (h := ⟨v, k, s, i, n⟩))

theorem proved : Rows.SlotPutsSaid :=
  OpenClaim.holds_of_wide F.cuneiformlaw13_SlotPuts Try.f3 rfl rfl rfl rfl rfl rfl rfl ⟨rfl, rfl, rfl, rfl, rfl⟩ rfl rfl rfl rfl rfl (by kernel_rfl) Try.func3 (by kernel_rfl)
    (of_decide_eq_true (by kernel_rfl)) (by unfold Func.isWrapper; first | (rw [if_pos (by decide +kernel)]; kernel_rfl) | (rw [if_neg (by decide +kernel)]; exact ⟨rfl, rfl⟩))
    (fun os started H enc _ => lifted os started H enc)
end Go.Proofs.Ytchijhlfccedfaa.slotPuts
