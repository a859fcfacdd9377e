/-
  Lemmas on the way to the statements of this seat. By an AI agent. No person has read it.
-/
import Derived.Test.YtamcfgdnhgmkpaaTABG
set_option linter.unusedSimpArgs false
set_option linter.unusedVariables false

namespace Go.Proofs.Ytamcfgdnhgmkpaa
open Go Go.Am
set_option linter.unusedSimpArgs false
set_option linter.unusedVariables false

abbrev plC : Ctx := ⟨F.cuneiformlaw14_TablePlays, 143, [.tmp 4], none⟩

section
variable {room C i : Nat} {lst : AVal} (K : List AItem) (Q : AVal → AHeap → Prop)

set_option maxRecDepth 10000 in
set_option maxHeartbeats 8000000 in
theorem pl_rest (hnext : ∀ H' P' M' ord' sl' rs', TabS H' P' M' room ord' sl' → C ∉ tabF P' M' ord' sl' → H'[C]? = some (.cells [.int .i64 (room : Nat), recs encT false (tsOf sl')] T.cuneiformref14_T) → rget rs' 1 = lst → rget rs' 5 = .ptr P' 0 → rget rs' 7 = .ptr C 0 → rget rs' 8 = .int .i64 ((i + 1 : Nat) : Int) → Rounds Try.prog plC cuneiformlaw14_TablePlays.b2 [.inBlock 0] K rs' H' Q)
    (hi : i < 100) {H : AHeap} {P M : Nat} {ord : AVal} {sl : List Sl} {rs : Regs} (h : TabS H P M room ord sl) (hC : C ∉ tabF P M ord sl) (hm : H[C]? = some (.cells [.int .i64 (room : Nat), recs encT false (tsOf sl)] T.cuneiformref14_T)) (r1 : rget rs 1 = lst) (r5 : rget rs 5 = .ptr P 0) (r7 : rget rs 7 = .ptr C 0) (r8 : rget rs 8 = .int .i64 (i : Nat)) :
    Run Try.prog plC (.code (.seq (.region [⟨(some 134), .mov (.tmp 5), none⟩,
    ⟨(some 135), .eq false .ptr (.tmp 134) (.const .nilp), none⟩,
    ⟨(some 136), .mov (.tmp 135), none⟩,
    ⟨(some 137), .mov (.tmp 5), some (136, false)⟩,
    ⟨(some 138), .load (some 2) (.tmp 7), some (136, false)⟩,
    ⟨(some 139), .call (.const (.fn F.cuneiformlaw14_Alike [] [])) [(.tmp 137), (.tmp 138)], some (136, false)⟩,
    ⟨(some 140), .un .not (.tmp 139), some (136, false)⟩,
    ⟨(some 141), .pick (.tmp 136) (.const (.bool true)) (.tmp 140), none⟩] [1, 5, 7, 8, 141])
  (.cond (.tmp 141) (.seq (.region [⟨(some 4), .mov (.const (.bool false)), none⟩] [4])
  (.ret)) (.skip))) :: .inBlock 1 :: .code (.region [⟨(some 53), .mov (.tmp 8), none⟩,
    ⟨(some 54), .bin .add (.tmp 53) (.const (.int .i64 1)), none⟩,
    ⟨(some 8), .mov (.tmp 54), none⟩] [1, 5, 7, 8]) :: .inLoop cuneiformlaw14_TablePlays.b2 :: .inBlock 0 :: K) rs H Q := by
  have hcast : (i : Int) + 1 = ((i + 1 : Nat) : Int) := by omega
  refine run_V0 60 ?_
  simp (disch := first | omega | (simp only [lnx]; omega)) only [stdh, stdx, ↓reduceIte, seval, r1, r5, r7, r8, hm, eqA]
  refine callK_fn (alike14_ok h _ ?_)
  refine runL_V 60 ?_
  simp (disch := first | omega | (simp only [lnx]; omega)) only [stdh, stdx, ↓reduceIte, seval, r1, r5, r7, r8]
  rw [hcast, List.append_nil]
  exact hnext H P M ord sl _ h hC hm rfl rfl rfl rfl

theorem drop_any {H : AHeap} {P M : Nat} {ord : AVal} {sl : List Sl} (h : TabS H P M room ord sl) (q : Int) (Q : AVal → AHeap → Prop) (hq : ∀ H' ord' sl' b, Touches (tabF P M ord sl) H (tabF P M ord' sl') H' → TabS H' P M room ord' sl' → tsOf sl' = dropT (tsOf sl) q → b = decide ((dropT (tsOf sl) q).length < sl.length) → Q (.bool b) H') : FunOK Try.prog F.table_Table_Drop [.ptr P 0, .int .u32 q] H Q := by
  cases hh : hasT (tsOf sl) q with
  | false =>
    have e : dropT (tsOf sl) q = tsOf sl := by
      unfold dropT
      refine List.filter_eq_self.2 fun t ht => ?_
      simp only [hasT, List.any_eq_false, decide_eq_true_eq] at hh
      simpa using hh t ht
    exact dropT_no h (hasT_no hh) Q (hq H ord sl false (Touches.refl _ _) h e.symm (by rw [e]; simp [tsOf]))
  | true =>
    obtain ⟨a, x, b, rfl, hx⟩ := hasT_yes hh
    have e := dropT_mid h.n hx
    exact dropT_yes h hx Q fun H' ord' t1 t2 => hq H' ord' (a ++ b) true t1 t2 e.symm (by rw [e]; simp [tsOf])

set_option maxRecDepth 10000 in
set_option maxHeartbeats 8000000 in
/-- Copy, and on with it. -/
theorem pl2 (hnext : ∀ H' P' M' ord' sl' rs', TabS H' P' M' room ord' sl' → C ∉ tabF P' M' ord' sl' → H'[C]? = some (.cells [.int .i64 (room : Nat), recs encT false (tsOf sl')] T.cuneiformref14_T) → rget rs' 1 = lst → rget rs' 5 = .ptr P' 0 → rget rs' 7 = .ptr C 0 → rget rs' 8 = .int .i64 ((i + 1 : Nat) : Int) → Rounds Try.prog plC cuneiformlaw14_TablePlays.b2 [.inBlock 0] K rs' H' Q)
    (hi : i < 100) {H : AHeap} {P M : Nat} {ord : AVal} {sl : List Sl} {rs : Regs} (h : TabS H P M room ord sl) (hroom : 1 ≤ room) (hC : C ∉ tabF P M ord sl) (hm : H[C]? = some (.cells [.int .i64 (room : Nat), recs encT false (tsOf sl)] T.cuneiformref14_T)) {f : Fr} (his : is32 f.h.s) (hfl : f.b.length ≤ 1000) {pf : Nat} (hpf : pf ∉ tabF P M ord sl) (hpC : pf ≠ C) (hf : H[pf]? = some (.cells [.int .i64 f.h.v, .int .i64 f.h.k, .int .u32 f.h.s, .int .i64 f.h.i, .int .i64 f.h.c, nums .u8 false f.b] T.frame_Frame)) (r1 : rget rs 1 = lst) (r5 : rget rs 5 = .ptr P 0) (r7 : rget rs 7 = .ptr C 0) (r8 : rget rs 8 = .int .i64 (i : Nat)) (r9 : rget rs 9 = .ptr pf 0) :
    Run Try.prog plC (.code (.seq (.region [⟨(some 115), .mov (.tmp 5), none⟩,
    ⟨(some 116), .call (.const (.fn F.table_Table_Copy [] [])) [(.tmp 115)], none⟩,
    ⟨(some 16), .mov (.tmp 116), none⟩] [1, 5, 7, 8, 9, 16])
  (.seq (.seq (.region [⟨(some 117), .mov (.tmp 16), none⟩,
    ⟨(some 118), .eq false .ptr (.tmp 117) (.const .nilp), none⟩,
    ⟨(some 119), .mov (.tmp 118), none⟩,
    ⟨(some 120), .mov (.tmp 16), some (119, false)⟩,
    ⟨(some 121), .load (some 2) (.tmp 7), some (119, false)⟩,
    ⟨(some 122), .call (.const (.fn F.cuneiformlaw14_Alike [] [])) [(.tmp 120), (.tmp 121)], some (119, false)⟩,
    ⟨(some 123), .un .not (.tmp 122), some (119, false)⟩,
    ⟨(some 124), .pick (.tmp 119) (.const (.bool true)) (.tmp 123), none⟩] [1, 5, 7, 8, 9, 16, 124])
  (.cond (.tmp 124) (.seq (.region [⟨(some 4), .mov (.const (.bool false)), none⟩] [4])
  (.ret)) (.skip)))
  (.seq (.region [⟨(some 125), .mov (.tmp 5), none⟩,
    ⟨(some 126), .load (some 6) (.tmp 9), none⟩,
    ⟨(some 127), .call (.const (.fn F.table_Table_Put [] [])) [(.tmp 125), (.tmp 126)], none⟩] [1, 5, 7, 8, 9, 16])
  (.seq (.region [⟨(some 128), .mov (.tmp 5), none⟩,
    ⟨(some 129), .field 0 (.tmp 9), none⟩,
    ⟨(some 130), .field 2 (.tmp 129), none⟩,
    ⟨(some 131), .load none (.tmp 130), none⟩,
    ⟨(some 132), .call (.const (.fn F.table_Table_Drop [] [])) [(.tmp 128), (.tmp 131)], none⟩] [1, 7, 8, 16])
  (.region [⟨(some 133), .mov (.tmp 16), none⟩,
    ⟨(some 5), .mov (.tmp 133), none⟩] [1, 5, 7, 8]))))) :: (.inBlock 2 :: .code (.seq (.region [⟨(some 134), .mov (.tmp 5), none⟩,
    ⟨(some 135), .eq false .ptr (.tmp 134) (.const .nilp), none⟩,
    ⟨(some 136), .mov (.tmp 135), none⟩,
    ⟨(some 137), .mov (.tmp 5), some (136, false)⟩,
    ⟨(some 138), .load (some 2) (.tmp 7), some (136, false)⟩,
    ⟨(some 139), .call (.const (.fn F.cuneiformlaw14_Alike [] [])) [(.tmp 137), (.tmp 138)], some (136, false)⟩,
    ⟨(some 140), .un .not (.tmp 139), some (136, false)⟩,
    ⟨(some 141), .pick (.tmp 136) (.const (.bool true)) (.tmp 140), none⟩] [1, 5, 7, 8, 141])
  (.cond (.tmp 141) (.seq (.region [⟨(some 4), .mov (.const (.bool false)), none⟩] [4])
  (.ret)) (.skip))) :: .inBlock 1 :: .code (.region [⟨(some 53), .mov (.tmp 8), none⟩,
    ⟨(some 54), .bin .add (.tmp 53) (.const (.int .i64 1)), none⟩,
    ⟨(some 8), .mov (.tmp 54), none⟩] [1, 5, 7, 8]) :: .inLoop cuneiformlaw14_TablePlays.b2 :: .inBlock 0 :: K)) rs H Q := by
  have hCl := (List.getElem?_eq_some_iff.1 hm).1
  have hpl := (List.getElem?_eq_some_iff.1 hf).1
  have hft := h.foot
  refine run_V0 60 ?_
  simp (disch := first | omega | (simp only [lnx]; omega)) only [stdh, stdx, ↓reduceIte, seval, r1, r5, r7, r8, r9]
  refine callK_fn (tcopy_ok h _ ?_)
  intro H1 P' M' ord' sl' hk1 h1' hts hnew
  have hm1 := hk1.get hm
  have hf1 := hk1.get hf
  have hl1 := hk1.1
  have hT1 := h.keeps hk1
  have hft1 := h1'.foot
  refine runL_V 60 ?_
  simp (disch := first | omega | (simp only [lnx]; omega)) only [stdh, stdx, ↓reduceIte, seval, r1, r5, r7, r8, r9, hm1, hf1, eqA]
  rw [← hts]
  refine callK_fn (alike14_ok h1' _ ?_)
  refine runL_V 60 ?_
  simp (disch := first | omega | (simp only [lnx]; omega)) only [stdh, stdx, ↓reduceIte, seval, r1, r5, r7, r8, r9, hm1, hf1]
  refine callK_fn (tput_ok hT1 f his hfl hroom _ ?_)
  intro H2 ord2 sl2 t2 h2 _
  have hl2 := t2.le
  have hf2 := (t2.kept pf (by omega) hpf).trans hf1
  have hm2 := (t2.kept C (by omega) hC).trans hm1
  have nt : ∀ m, m ∈ tabF P' M' ord' sl' → m ∉ tabF P M ord sl := fun m hm hh => by
    have := hft m hh
    have := hnew m hm
    omega
  have h2' : TabS H2 P' M' room ord' sl' := h1'.keep fun m hm => t2.kept m (hft1 m hm) (nt m hm)
  have nt2 : ∀ m, m < H1.length → m ∉ tabF P M ord sl → m ∉ tabF P M ord2 sl2 := fun m m1 m2 hm => by
    rcases t2.feet m hm with hh | hh
    · exact m2 hh
    · omega
  refine runL_V 60 ?_
  simp (disch := first | omega | (simp only [lnx]; omega)) only [stdh, stdx, ↓reduceIte, seval, r1, r5, r7, r8, r9, hm2, hf2]
  refine callK_fn (drop_any h2 _ _ ?_)
  intro H3 ord3 sl3 b t3 h3 _ _
  have hm3 := (t3.kept C (by omega) (nt2 C (by omega) hC)).trans hm2
  have h3' : TabS H3 P' M' room ord' sl' := h2'.keep fun m hm => t3.kept m (by have := hft1 m hm; omega) (nt2 m (hft1 m hm) (nt m hm))
  refine runL_V 6 ?_
  simp (disch := first | omega | (simp only [lnx]; omega)) only [stdh, stdx, ↓reduceIte, seval, r1, r5, r7, r8, r9]
  rw [List.append_nil]
  exact pl_rest K Q hnext hi h3' (fun hh => by have := hnew C hh; have := hft1 C hh; omega) (by rw [hts]; exact hm3) rfl rfl rfl rfl

set_option maxRecDepth 10000 in
set_option maxHeartbeats 8000000 in
/-- Drop. -/
theorem pl1 (hnext : ∀ H' P' M' ord' sl' rs', TabS H' P' M' room ord' sl' → C ∉ tabF P' M' ord' sl' → H'[C]? = some (.cells [.int .i64 (room : Nat), recs encT false (tsOf sl')] T.cuneiformref14_T) → rget rs' 1 = lst → rget rs' 5 = .ptr P' 0 → rget rs' 7 = .ptr C 0 → rget rs' 8 = .int .i64 ((i + 1 : Nat) : Int) → Rounds Try.prog plC cuneiformlaw14_TablePlays.b2 [.inBlock 0] K rs' H' Q)
    (hi : i < 100) {H : AHeap} {P M : Nat} {ord : AVal} {sl : List Sl} {rs : Regs} (h : TabS H P M room ord sl) (hroom : 1 ≤ room) (hC : C ∉ tabF P M ord sl) (hm : H[C]? = some (.cells [.int .i64 (room : Nat), recs encT false (tsOf sl)] T.cuneiformref14_T)) {f : Fr} (his : is32 f.h.s) (hfl : f.b.length ≤ 1000) {pf : Nat} (hpf : pf ∉ tabF P M ord sl) (hpC : pf ≠ C) (hf : H[pf]? = some (.cells [.int .i64 f.h.v, .int .i64 f.h.k, .int .u32 f.h.s, .int .i64 f.h.i, .int .i64 f.h.c, nums .u8 false f.b] T.frame_Frame)) (r1 : rget rs 1 = lst) (r5 : rget rs 5 = .ptr P 0) (r7 : rget rs 7 = .ptr C 0) (r8 : rget rs 8 = .int .i64 (i : Nat)) (r9 : rget rs 9 = .ptr pf 0) :
    Run Try.prog plC (.code (.seq (.region [⟨(some 94), .field 1 (.tmp 7), none⟩,
    ⟨(some 95), .load none (.tmp 94), none⟩,
    ⟨(some 96), .len .slice (.tmp 95), none⟩,
    ⟨(some 15), .mov (.tmp 96), none⟩] [1, 5, 7, 8, 9, 15])
  (.seq (.region [⟨(some 97), .load (some 2) (.tmp 7), none⟩,
    ⟨(some 98), .field 0 (.tmp 9), none⟩,
    ⟨(some 99), .field 2 (.tmp 98), none⟩,
    ⟨(some 100), .load none (.tmp 99), none⟩,
    ⟨(some 101), .call (.const (.fn F.cuneiformref14_Drop [] [])) [(.tmp 97), (.tmp 100)], none⟩,
    ⟨none, .store 2 (.tmp 7) (.tmp 101), none⟩] [1, 5, 7, 8, 9, 15])
  (.seq (.draw cuneiformlaw14_TablePlays.d1 cuneiformlaw14_TablePlays.d1b [[0, 1, 2, 3, 5, 6, 7, 8, 9, 4, 10]] [(4, 6)] [1, 5, 7, 8, 112])
  (.cond (.tmp 112) (.seq (.region [⟨(some 4), .mov (.const (.bool false)), none⟩] [4])
  (.ret)) (.skip))))) :: (.inBlock 2 :: .code (.seq (.region [⟨(some 134), .mov (.tmp 5), none⟩,
    ⟨(some 135), .eq false .ptr (.tmp 134) (.const .nilp), none⟩,
    ⟨(some 136), .mov (.tmp 135), none⟩,
    ⟨(some 137), .mov (.tmp 5), some (136, false)⟩,
    ⟨(some 138), .load (some 2) (.tmp 7), some (136, false)⟩,
    ⟨(some 139), .call (.const (.fn F.cuneiformlaw14_Alike [] [])) [(.tmp 137), (.tmp 138)], some (136, false)⟩,
    ⟨(some 140), .un .not (.tmp 139), some (136, false)⟩,
    ⟨(some 141), .pick (.tmp 136) (.const (.bool true)) (.tmp 140), none⟩] [1, 5, 7, 8, 141])
  (.cond (.tmp 141) (.seq (.region [⟨(some 4), .mov (.const (.bool false)), none⟩] [4])
  (.ret)) (.skip))) :: .inBlock 1 :: .code (.region [⟨(some 53), .mov (.tmp 8), none⟩,
    ⟨(some 54), .bin .add (.tmp 53) (.const (.int .i64 1)), none⟩,
    ⟨(some 8), .mov (.tmp 54), none⟩] [1, 5, 7, 8]) :: .inLoop cuneiformlaw14_TablePlays.b2 :: .inBlock 0 :: K)) rs H Q := by
  have hcast : (i : Int) + 1 = ((i + 1 : Nat) : Int) := by omega
  have hCl := (List.getElem?_eq_some_iff.1 hm).1
  have hpl := (List.getElem?_eq_some_iff.1 hf).1
  have hft := h.foot
  have hr := h.r
  have htl : (tsOf sl).length = sl.length := by simp [tsOf]
  have hs1 : slen (recs encT false (tsOf sl)) = some sl.length := by rw [← htl]; rfl
  have hs2 : slen (recs encT false (dropT (tsOf sl) f.h.s)) = some (dropT (tsOf sl) f.h.s).length := rfl
  refine run_V0 60 ?_
  simp (disch := first | omega | (simp only [lnx]; omega)) only [stdh, stdx, ↓reduceIte, seval, r1, r5, r7, r8, r9, hm, hf, hs1]
  refine callK_fn (rdrop_ok (room := room) (ts := tsOf sl) _ (by omega) _ ?_)
  refine runL_V 60 ?_
  have hft1 : ∀ X, TabS (H.set C X) P M room ord sl := fun X => h.keep fun m hm => List.getElem?_set_ne fun e => hC (by rw [e]; exact hm)
  have hf1 : ∀ X, (H.set C X)[pf]? = _ := fun X => (List.getElem?_set_ne (fun e => hpC e.symm)).trans hf
  have hm1 : ∀ X, (H.set C X)[C]? = some X := fun X => List.getElem?_set_self hCl
  have hl1 : ∀ X, (H.set C X).length = H.length := fun X => by simp
  simp (disch := first | omega | (simp only [lnx]; omega)) only [stdh, stdx, ↓reduceIte, seval, refA, r1, r5, r7, r8, r9, hm, hf1, hm1, cuneiformlaw14_TablePlays.d1]
  refine callD_fn (drop_any (hft1 _) _ _ ?_)
  intro H2 ord2 sl2 bb t2 h2 hts2 hbb
  have hl2 := t2.le
  rw [hl1] at hl2
  have hm2 := (t2.kept C (by rw [hl1]; exact hCl) hC).trans (hm1 _)
  have hf2 := (t2.kept pf (by rw [hl1]; exact hpl) hpf).trans (hf1 _)
  have hC2 : C ∉ tabF P M ord2 sl2 := fun hm => by
    rcases t2.feet C hm with hh | hh
    · exact hC hh
    · rw [hl1] at hh; omega
  refine ⟨by simp (disch := first | omega | (simp only [lnx]; omega)) only [stdh, stdx, ↓reduceIte, seval, r1, r5, r7, r8, r9, hm1, hf1, hm2, hf2, hs2], ?_⟩
  refine runD_V 60 ?_
  have hbd : decide (((dropT (tsOf sl) f.h.s).length : Int) < (sl.length : Nat)) = bb := by rw [hbb, decide_eq_decide]; omega
  cases bb
  · simp (disch := first | omega | (simp only [lnx]; omega)) only [stdh, stdx, ↓reduceIte, seval, r1, r5, r7, r8, r9, hm2, hf2, hs2, hbd]
    rw [← hts2]
    refine callK_fn (alike14_ok h2 _ ?_)
    refine runL_V 60 ?_
    simp (disch := first | omega | (simp only [lnx]; omega)) only [stdh, stdx, ↓reduceIte, seval, r1, r5, r7, r8]
    rw [hcast]
    try rw [List.append_nil]
    exact hnext H2 P M ord2 sl2 _ h2 hC2 (by rw [hts2]; exact hm2) rfl rfl rfl rfl
  · simp (disch := first | omega | (simp only [lnx]; omega)) only [stdh, stdx, ↓reduceIte, seval, r1, r5, r7, r8, r9, hm2, hf2, hs2, hbd]
    rw [← hts2]
    refine callK_fn (alike14_ok h2 _ ?_)
    refine runL_V 60 ?_
    simp (disch := first | omega | (simp only [lnx]; omega)) only [stdh, stdx, ↓reduceIte, seval, r1, r5, r7, r8]
    rw [hcast]
    try rw [List.append_nil]
    exact hnext H2 P M ord2 sl2 _ h2 hC2 (by rw [hts2]; exact hm2) rfl rfl rfl rfl

set_option maxRecDepth 10000 in
set_option maxHeartbeats 8000000 in
/-- Put, behind the document's. -/
theorem pl0r (hnext : ∀ H' P' M' ord' sl' rs', TabS H' P' M' room ord' sl' → C ∉ tabF P' M' ord' sl' → H'[C]? = some (.cells [.int .i64 (room : Nat), recs encT false (tsOf sl')] T.cuneiformref14_T) → rget rs' 1 = lst → rget rs' 5 = .ptr P' 0 → rget rs' 7 = .ptr C 0 → rget rs' 8 = .int .i64 ((i + 1 : Nat) : Int) → Rounds Try.prog plC cuneiformlaw14_TablePlays.b2 [.inBlock 0] K rs' H' Q)
    (hi : i < 100) {H : AHeap} {P M : Nat} {ord : AVal} {sl : List Sl} {rs : Regs} (h : TabS H P M room ord sl) (hroom : 1 ≤ room) (hC : C ∉ tabF P M ord sl) (hm : H[C]? = some (.cells [.int .i64 (room : Nat), recs encT false (tsOf sl)] T.cuneiformref14_T)) {f : Fr} (his : is32 f.h.s) (hfl : f.b.length ≤ 1000) {pf : Nat} (hpf : pf ∉ tabF P M ord sl) (hpC : pf ≠ C) (hf : H[pf]? = some (.cells [.int .i64 f.h.v, .int .i64 f.h.k, .int .u32 f.h.s, .int .i64 f.h.i, .int .i64 f.h.c, nums .u8 false f.b] T.frame_Frame)) (r1 : rget rs 1 = lst) (r5 : rget rs 5 = .ptr P 0) (r7 : rget rs 7 = .ptr C 0) (r8 : rget rs 8 = .int .i64 (i : Nat)) (r9 : rget rs 9 = .ptr pf 0) {p10 p11 : Nat} {res : Ts × OutT × Nat} (hres : res = putT room (tsOf sl) f) (g10 : H[p10]? = some (.cells [.int .i64 (room : Nat), recs encT false res.1] T.cuneiformref14_T)) (g11 : H[p11]? = some (.cells (encOut res.2.1) T.cuneiformref14_Out)) (n10 : p10 ∉ tabF P M ord sl) (n11 : p11 ∉ tabF P M ord sl) (n10C : p10 ≠ C) (n11C : p11 ≠ C) (r10 : rget rs 10 = .ptr p10 0) (r11 : rget rs 11 = .ptr p11 0) (r12 : rget rs 12 = .int .i64 (res.2.2 : Nat)) :
    Run Try.prog plC (.code (.seq (.region [⟨(some 77), .mov (.tmp 5), none⟩,
    ⟨(some 78), .load (some 6) (.tmp 9), none⟩,
    ⟨(some 79), .call (.const (.fn F.table_Table_Put [] [])) [(.tmp 77), (.tmp 78)], none⟩,
    ⟨(some 76), .mov (.tmp 79), none⟩,
    ⟨(some 80), .extract (.tmp 76) 0, none⟩,
    ⟨(some 81), .extract (.tmp 76) 1, none⟩,
    ⟨(some 13), .alloc T.table_Out [.nils, (.bool false), (.bool false), (.int .u32 0)], none⟩,
    ⟨none, .store 4 (.tmp 13) (.tmp 80), none⟩,
    ⟨(some 14), .mov (.tmp 81), none⟩] [1, 5, 7, 8, 10, 11, 12, 13, 14])
  (.seq (.region [⟨(some 82), .load (some 2) (.tmp 10), none⟩,
    ⟨none, .store 2 (.tmp 7) (.tmp 82), none⟩] [1, 5, 7, 8, 11, 12, 13, 14])
  (.seq (.region [⟨(some 83), .mov (.tmp 14), none⟩,
    ⟨(some 84), .mov (.tmp 12), none⟩,
    ⟨(some 85), .bin .neq (.tmp 83) (.tmp 84), none⟩,
    ⟨(some 86), .mov (.tmp 85), none⟩,
    ⟨(some 87), .load (some 4) (.tmp 13), some (86, false)⟩,
    ⟨(some 88), .load (some 4) (.tmp 11), some (86, false)⟩,
    ⟨(some 89), .call (.const (.fn F.cuneiformlaw14_Outs [] [])) [(.tmp 87), (.tmp 88)], some (86, false)⟩,
    ⟨(some 90), .un .not (.tmp 89), some (86, false)⟩,
    ⟨(some 91), .pick (.tmp 86) (.const (.bool true)) (.tmp 90), none⟩] [1, 5, 7, 8, 91])
  (.cond (.tmp 91) (.seq (.region [⟨(some 4), .mov (.const (.bool false)), none⟩] [4])
  (.ret)) (.skip))))) :: (.inBlock 2 :: .code (.seq (.region [⟨(some 134), .mov (.tmp 5), none⟩,
    ⟨(some 135), .eq false .ptr (.tmp 134) (.const .nilp), none⟩,
    ⟨(some 136), .mov (.tmp 135), none⟩,
    ⟨(some 137), .mov (.tmp 5), some (136, false)⟩,
    ⟨(some 138), .load (some 2) (.tmp 7), some (136, false)⟩,
    ⟨(some 139), .call (.const (.fn F.cuneiformlaw14_Alike [] [])) [(.tmp 137), (.tmp 138)], some (136, false)⟩,
    ⟨(some 140), .un .not (.tmp 139), some (136, false)⟩,
    ⟨(some 141), .pick (.tmp 136) (.const (.bool true)) (.tmp 140), none⟩] [1, 5, 7, 8, 141])
  (.cond (.tmp 141) (.seq (.region [⟨(some 4), .mov (.const (.bool false)), none⟩] [4])
  (.ret)) (.skip))) :: .inBlock 1 :: .code (.region [⟨(some 53), .mov (.tmp 8), none⟩,
    ⟨(some 54), .bin .add (.tmp 53) (.const (.int .i64 1)), none⟩,
    ⟨(some 8), .mov (.tmp 54), none⟩] [1, 5, 7, 8]) :: .inLoop cuneiformlaw14_TablePlays.b2 :: .inBlock 0 :: K)) rs H Q := by
  have hcast : (i : Int) + 1 = ((i + 1 : Nat) : Int) := by omega
  have hCl := (List.getElem?_eq_some_iff.1 hm).1
  have hpl := (List.getElem?_eq_some_iff.1 hf).1
  have h10l := (List.getElem?_eq_some_iff.1 g10).1
  have h11l := (List.getElem?_eq_some_iff.1 g11).1
  have htl : (tsOf sl).length ≤ room := by simpa [tsOf] using h.r.1
  have hlaw := putT_law htl f
  refine run_V0 60 ?_
  simp (disch := first | omega | (simp only [lnx]; omega)) only [stdh, stdx, ↓reduceIte, seval, r1, r5, r7, r8, r9, r10, r11, r12, hf]
  refine callK_fn (tput_ok h f his hfl hroom _ ?_)
  intro H1 ord1 sl1 tt h1' hts
  rw [← hres] at hts hlaw ⊢
  clear hres
  obtain ⟨ts', ⟨body, whole, ev, old⟩, e⟩ := res
  simp only at hts hlaw g10 g11 r12
  have hl1 := tt.le
  have k10 := (tt.kept p10 h10l n10).trans g10
  have k11 := (tt.kept p11 h11l n11).trans g11
  have kC := (tt.kept C hCl hC).trans hm
  have hC1 : C ∉ tabF P M ord1 sl1 := fun hh => by
    rcases tt.feet C hh with hh | hh
    · exact hC hh
    · omega
  have hbc : (if whole = true then nums .u8 false body else .nils).cellish = true := by cases whole <;> rfl
  have hout : ∀ H, ∀ Q, Q (.bool true) H → FunOK Try.prog F.cuneiformlaw14_Outs [.agg [if whole = true then nums .u8 false body else .nils, .bool whole, .bool ev, .int .u32 old], .agg [if whole = true then nums .u8 false body else .nils, .bool whole, .bool ev, .int .u32 old]] H Q := fun H Q hq => outs_ok H ⟨body, whole, ev, old⟩ (fun hw => by have := hlaw.2.1 hw; show body.length ≤ 1000000; omega) Q hq
  simp only [encOut] at k11 ⊢
  generalize (if whole = true then nums IntKind.u8 false body else AVal.nils) = bv at *
  have x10 : ∀ X, (H1 ++ X)[p10]? = _ := fun X => (at_low (by omega)).trans k10
  have x11 : ∀ X, (H1 ++ X)[p11]? = _ := fun X => (at_low (by omega)).trans k11
  have xC : ∀ X, (H1 ++ X)[C]? = _ := fun X => (at_low (by omega)).trans kC
  have y11 : ∀ b X, ((H1.set C b) ++ X)[p11]? = _ := fun b X => (at_low (by simp; omega)).trans ((List.getElem?_set_ne (fun e => n11C e.symm)).trans k11)
  have yO : ∀ b X, ((H1.set C b) ++ X)[H1.length]? = X[0]? := fun b X => at_0s
  have yC : ∀ b X, ((H1.set C b) ++ X)[C]? = some b := fun b X => (at_low (by simp; omega)).trans (List.getElem?_set_self (by omega))
  have hset : ∀ b X, (H1 ++ X).set C b = H1.set C b ++ X := fun b X => set_low (by omega)
  refine runL_V 60 ?_
  simp (disch := first | omega | (simp only [lnx]; omega)) only [stdh, stdx, ↓reduceIte, seval, r1, r5, r7, r8, r9, r10, r11, r12, hbc, x10, x11, xC, y11, yO, yC, hset]
  refine callK_fn (hout _ _ ?_)
  refine runL_V 60 ?_
  have h2 : ∀ b X, TabS (H1.set C b ++ X) P M room ord1 sl1 := fun b X => h1'.keep fun m hm => by
    have := h1'.foot m hm
    rw [at_low (by simpa using this), List.getElem?_set_ne (fun e => hC1 (by rw [e]; exact hm))]
  simp (disch := first | omega | (simp only [lnx]; omega)) only [stdh, stdx, ↓reduceIte, seval, r1, r5, r7, r8, eqA, yC]
  rw [← hts]
  refine callK_fn (alike14_ok (h2 _ _) _ ?_)
  refine runL_V 60 ?_
  simp (disch := first | omega | (simp only [lnx]; omega)) only [stdh, stdx, ↓reduceIte, seval, r1, r5, r7, r8]
  rw [hcast]
  try rw [List.append_nil]
  exact hnext _ P M ord1 sl1 _ (h2 _ _) hC1 (yC _ _) rfl rfl rfl rfl
end
end Go.Proofs.Ytamcfgdnhgmkpaa

namespace Go.Proofs.Ytamcfgdnhgmkpaa
open Go Go.Am
set_option linter.unusedSimpArgs false
set_option linter.unusedVariables false

section
variable {room C i : Nat} {lst : AVal} (K : List AItem) (Q : AVal → AHeap → Prop)

theorem TabS.in14 {H : AHeap} {P M : Nat} {ord : AVal} {sl : List Sl} (h : TabS H P M room ord sl) : (∀ t ∈ tsOf sl, SlotW t.1 t.2) ∧ (seqsT (tsOf sl)).Nodup ∧ (∀ q ∈ seqsT (tsOf sl), is32 q) ∧ (tsOf sl).length ≤ room := by
  have e : seqsT (tsOf sl) = sl.map fun x => x.h.s := by simp [seqsT, tsOf]
  refine ⟨fun t ht => ?_, by rw [e]; exact h.n, fun q hq => ?_, by simpa [tsOf] using h.r.1⟩
  · obtain ⟨x, hx, rfl⟩ := List.mem_map.1 ht
    exact (h.s x hx).2.1
  · rw [e] at hq
    obtain ⟨x, hx, rfl⟩ := List.mem_map.1 hq
    exact (h.s x hx).2.2

set_option maxRecDepth 10000 in
set_option maxHeartbeats 16000000 in
theorem pl0 (hnext : ∀ H' P' M' ord' sl' rs', TabS H' P' M' room ord' sl' → C ∉ tabF P' M' ord' sl' → H'[C]? = some (.cells [.int .i64 (room : Nat), recs encT false (tsOf sl')] T.cuneiformref14_T) → rget rs' 1 = lst → rget rs' 5 = .ptr P' 0 → rget rs' 7 = .ptr C 0 → rget rs' 8 = .int .i64 ((i + 1 : Nat) : Int) → Rounds Try.prog plC cuneiformlaw14_TablePlays.b2 [.inBlock 0] K rs' H' Q)
    (hi : i < 100) {H : AHeap} {P M : Nat} {ord : AVal} {sl : List Sl} {rs : Regs} (h : TabS H P M room ord sl) (hroom : 1 ≤ room) (hC : C ∉ tabF P M ord sl) (hm : H[C]? = some (.cells [.int .i64 (room : Nat), recs encT false (tsOf sl)] T.cuneiformref14_T)) {f : Fr} (his : is32 f.h.s) (hfl : f.b.length ≤ 1000) {pf : Nat} (hpf : pf ∉ tabF P M ord sl) (hpC : pf ≠ C) (hf : H[pf]? = some (.cells [.int .i64 f.h.v, .int .i64 f.h.k, .int .u32 f.h.s, .int .i64 f.h.i, .int .i64 f.h.c, nums .u8 false f.b] T.frame_Frame)) (r1 : rget rs 1 = lst) (r5 : rget rs 5 = .ptr P 0) (r7 : rget rs 7 = .ptr C 0) (r8 : rget rs 8 = .int .i64 (i : Nat)) (r9 : rget rs 9 = .ptr pf 0) :
    Run Try.prog plC (.code (.seq (.draw cuneiformlaw14_TablePlays.d0 cuneiformlaw14_TablePlays.d0b [[0, 1, 2, 3, 4, 5, 6, 7, 8, 9, 10, 11, 12], [0, 1, 2, 3, 4, 5, 6, 7, 9, 8, 10, 11, 12], [0, 1, 2, 8, 3, 4, 5, 6, 7, 9, 10, 11, 12], [0, 1, 2, 8, 9, 3, 4, 5, 6, 7, 10, 11, 12], [0, 1, 2, 9, 3, 4, 5, 6, 7, 8, 10, 11, 12], [0, 1, 2, 9, 8, 3, 4, 5, 6, 7, 10, 11, 12], [0, 1, 8, 2, 3, 4, 5, 6, 7, 9, 10, 11, 12], [0, 1, 8, 2, 9, 3, 4, 5, 6, 7, 10, 11, 12], [0, 1, 8, 9, 2, 3, 4, 5, 6, 7, 10, 11, 12], [0, 1, 9, 2, 3, 4, 5, 6, 7, 8, 10, 11, 12], [0, 1, 9, 2, 8, 3, 4, 5, 6, 7, 10, 11, 12], [0, 1, 9, 8, 2, 3, 4, 5, 6, 7, 10, 11, 12]] [(2, 0), (8, 0), (8, 1), (9, 0), (9, 1)] [1, 5, 7, 8, 9, 10, 11, 12])
  (.seq (.region [⟨(some 77), .mov (.tmp 5), none⟩,
    ⟨(some 78), .load (some 6) (.tmp 9), none⟩,
    ⟨(some 79), .call (.const (.fn F.table_Table_Put [] [])) [(.tmp 77), (.tmp 78)], none⟩,
    ⟨(some 76), .mov (.tmp 79), none⟩,
    ⟨(some 80), .extract (.tmp 76) 0, none⟩,
    ⟨(some 81), .extract (.tmp 76) 1, none⟩,
    ⟨(some 13), .alloc T.table_Out [.nils, (.bool false), (.bool false), (.int .u32 0)], none⟩,
    ⟨none, .store 4 (.tmp 13) (.tmp 80), none⟩,
    ⟨(some 14), .mov (.tmp 81), none⟩] [1, 5, 7, 8, 10, 11, 12, 13, 14])
  (.seq (.region [⟨(some 82), .load (some 2) (.tmp 10), none⟩,
    ⟨none, .store 2 (.tmp 7) (.tmp 82), none⟩] [1, 5, 7, 8, 11, 12, 13, 14])
  (.seq (.region [⟨(some 83), .mov (.tmp 14), none⟩,
    ⟨(some 84), .mov (.tmp 12), none⟩,
    ⟨(some 85), .bin .neq (.tmp 83) (.tmp 84), none⟩,
    ⟨(some 86), .mov (.tmp 85), none⟩,
    ⟨(some 87), .load (some 4) (.tmp 13), some (86, false)⟩,
    ⟨(some 88), .load (some 4) (.tmp 11), some (86, false)⟩,
    ⟨(some 89), .call (.const (.fn F.cuneiformlaw14_Outs [] [])) [(.tmp 87), (.tmp 88)], some (86, false)⟩,
    ⟨(some 90), .un .not (.tmp 89), some (86, false)⟩,
    ⟨(some 91), .pick (.tmp 86) (.const (.bool true)) (.tmp 90), none⟩] [1, 5, 7, 8, 91])
  (.cond (.tmp 91) (.seq (.region [⟨(some 4), .mov (.const (.bool false)), none⟩] [4])
  (.ret)) (.skip)))))) :: (.inBlock 2 :: .code (.seq (.region [⟨(some 134), .mov (.tmp 5), none⟩,
    ⟨(some 135), .eq false .ptr (.tmp 134) (.const .nilp), none⟩,
    ⟨(some 136), .mov (.tmp 135), none⟩,
    ⟨(some 137), .mov (.tmp 5), some (136, false)⟩,
    ⟨(some 138), .load (some 2) (.tmp 7), some (136, false)⟩,
    ⟨(some 139), .call (.const (.fn F.cuneiformlaw14_Alike [] [])) [(.tmp 137), (.tmp 138)], some (136, false)⟩,
    ⟨(some 140), .un .not (.tmp 139), some (136, false)⟩,
    ⟨(some 141), .pick (.tmp 136) (.const (.bool true)) (.tmp 140), none⟩] [1, 5, 7, 8, 141])
  (.cond (.tmp 141) (.seq (.region [⟨(some 4), .mov (.const (.bool false)), none⟩] [4])
  (.ret)) (.skip))) :: .inBlock 1 :: .code (.region [⟨(some 53), .mov (.tmp 8), none⟩,
    ⟨(some 54), .bin .add (.tmp 53) (.const (.int .i64 1)), none⟩,
    ⟨(some 8), .mov (.tmp 54), none⟩] [1, 5, 7, 8]) :: .inLoop cuneiformlaw14_TablePlays.b2 :: .inBlock 0 :: K)) rs H Q := by
  have hCl := (List.getElem?_eq_some_iff.1 hm).1
  have hpl := (List.getElem?_eq_some_iff.1 hf).1
  have hft := h.foot
  obtain ⟨hw, hnd, h32, hlen⟩ := h.in14
  have xm : ∀ X, (H ++ X)[C]? = _ := fun X => (at_low hCl).trans hm
  have xf : ∀ X, (H ++ X)[pf]? = _ := fun X => (at_low hpl).trans hf
  have n0 : H.length ∉ tabF P M ord sl := fun hh => by have := hft _ hh; omega
  have n1 : H.length + 1 ∉ tabF P M ord sl := fun hh => by have := hft _ hh; omega
  have hbc : ∀ (b : Bool) (l : List Nat), (if b = true then nums .u8 false l else .nils).cellish = true := fun b l => by cases b <;> rfl
  have hrr : room ≤ 16 := h.r.2
  refine run_V0 2 ?_
  simp (disch := first | omega | (simp only [lnx]; omega)) only [stdh, stdx, ↓reduceIte, seval, r1, r5, r7, r8, r9, hm, hf]
  intro s hs
  simp only [List.mem_cons, List.not_mem_nil, or_false] at hs
  rcases hs with rfl | rfl | rfl | rfl | rfl | rfl | rfl | rfl | rfl | rfl | rfl | rfl
  · refine runD_V 60 ?_
    simp (disch := first | omega | (simp only [lnx]; omega)) only [stdh, stdx, ↓reduceIte, seval, cuneiformlaw14_TablePlays.d0, r1, r5, r7, r8, r9, hm, hf, xm, xf]
    refine callD_fn (of_ok _ f _ ?_)
    refine ⟨by simp (disch := first | omega | (simp only [lnx]; omega)) only [stdh, stdx, ↓reduceIte, seval, r1, r5, r7, r8, r9, hm, hf, xm, xf], ?_⟩
    refine runD_V 60 ?_
    simp (disch := first | omega | (simp only [lnx]; omega)) only [stdh, stdx, ↓reduceIte, seval, r1, r5, r7, r8, r9, hm, hf, xm, xf]
    refine callD_fn (rput14_ok _ f hw hnd h32 his hlen ⟨hroom, hrr⟩ hfl _ ?_)
    refine ⟨by simp (disch := first | omega | (simp only [lnx]; omega)) only [stdh, stdx, ↓reduceIte, seval, r1, r5, r7, r8, r9, hm, hf, xm, xf], ?_⟩
    refine runD_V 10 ?_
    simp (disch := first | omega | (simp only [lnx]; omega)) only [stdh, stdx, ↓reduceIte, seval, r1, r5, r7, r8, r9, hm, hf, xm, xf, refA, encOut, hbc]
    rw [List.append_nil]
    refine pl0r K Q hnext hi (h.keeps (keeps_append H _)) hroom hC (xm _) his hfl hpf hpC (xf _) ?_ ?_ ?_ ?_ ?_ (p10 := H.length) (p11 := H.length + 1) (res := putT room (tsOf sl) f) rfl ?_ ?_ n0 n1 (by omega) (by omega) ?_ ?_ ?_ <;> first | rfl | exact at_0 | exact at_k
  · refine runD_V 60 ?_
    simp (disch := first | omega | (simp only [lnx]; omega)) only [stdh, stdx, ↓reduceIte, seval, cuneiformlaw14_TablePlays.d0, r1, r5, r7, r8, r9, hm, hf, xm, xf]
    refine callD_fn (of_ok _ f _ ?_)
    refine ⟨by simp (disch := first | omega | (simp only [lnx]; omega)) only [stdh, stdx, ↓reduceIte, seval, r1, r5, r7, r8, r9, hm, hf, xm, xf], ?_⟩
    refine runD_V 60 ?_
    simp (disch := first | omega | (simp only [lnx]; omega)) only [stdh, stdx, ↓reduceIte, seval, r1, r5, r7, r8, r9, hm, hf, xm, xf]
    refine callD_fn (rput14_ok _ f hw hnd h32 his hlen ⟨hroom, hrr⟩ hfl _ ?_)
    refine ⟨by simp (disch := first | omega | (simp only [lnx]; omega)) only [stdh, stdx, ↓reduceIte, seval, r1, r5, r7, r8, r9, hm, hf, xm, xf], ?_⟩
    refine runD_V 10 ?_
    simp (disch := first | omega | (simp only [lnx]; omega)) only [stdh, stdx, ↓reduceIte, seval, r1, r5, r7, r8, r9, hm, hf, xm, xf, refA, encOut, hbc]
    rw [List.append_nil]
    refine pl0r K Q hnext hi (h.keeps (keeps_append H _)) hroom hC (xm _) his hfl hpf hpC (xf _) ?_ ?_ ?_ ?_ ?_ (p10 := H.length + 1) (p11 := H.length) (res := putT room (tsOf sl) f) rfl ?_ ?_ n1 n0 (by omega) (by omega) ?_ ?_ ?_ <;> first | rfl | exact at_0 | exact at_k
  · refine runD_V 60 ?_
    simp (disch := first | omega | (simp only [lnx]; omega)) only [stdh, stdx, ↓reduceIte, seval, cuneiformlaw14_TablePlays.d0, r1, r5, r7, r8, r9, hm, hf, xm, xf]
    refine callD_fn (of_ok _ f _ ?_)
    refine ⟨by simp (disch := first | omega | (simp only [lnx]; omega)) only [stdh, stdx, ↓reduceIte, seval, r1, r5, r7, r8, r9, hm, hf, xm, xf], ?_⟩
    refine runD_V 60 ?_
    simp (disch := first | omega | (simp only [lnx]; omega)) only [stdh, stdx, ↓reduceIte, seval, r1, r5, r7, r8, r9, hm, hf, xm, xf]
    refine callD_fn (rput14_ok _ f hw hnd h32 his hlen ⟨hroom, hrr⟩ hfl _ ?_)
    refine ⟨by simp (disch := first | omega | (simp only [lnx]; omega)) only [stdh, stdx, ↓reduceIte, seval, r1, r5, r7, r8, r9, hm, hf, xm, xf], ?_⟩
    refine runD_V 9 ?_
    simp (disch := first | omega | (simp only [lnx]; omega)) only [stdh, stdx, ↓reduceIte, seval, r1, r5, r7, r8, r9, hm, hf, xm, xf, refA, encOut, hbc]
    rw [List.append_nil]
    refine pl0r K Q hnext hi (h.keeps (keeps_append H _)) hroom hC (xm _) his hfl hpf hpC (xf _) ?_ ?_ ?_ ?_ ?_ (p10 := H.length) (p11 := H.length + 1) (res := putT room (tsOf sl) f) rfl ?_ ?_ n0 n1 (by omega) (by omega) ?_ ?_ ?_ <;> first | rfl | exact at_0 | exact at_k
  · refine runD_V 60 ?_
    simp (disch := first | omega | (simp only [lnx]; omega)) only [stdh, stdx, ↓reduceIte, seval, cuneiformlaw14_TablePlays.d0, r1, r5, r7, r8, r9, hm, hf, xm, xf]
    refine callD_fn (of_ok _ f _ ?_)
    refine ⟨by simp (disch := first | omega | (simp only [lnx]; omega)) only [stdh, stdx, ↓reduceIte, seval, r1, r5, r7, r8, r9, hm, hf, xm, xf], ?_⟩
    refine runD_V 60 ?_
    simp (disch := first | omega | (simp only [lnx]; omega)) only [stdh, stdx, ↓reduceIte, seval, r1, r5, r7, r8, r9, hm, hf, xm, xf]
    refine callD_fn (rput14_ok _ f hw hnd h32 his hlen ⟨hroom, hrr⟩ hfl _ ?_)
    refine ⟨by simp (disch := first | omega | (simp only [lnx]; omega)) only [stdh, stdx, ↓reduceIte, seval, r1, r5, r7, r8, r9, hm, hf, xm, xf], ?_⟩
    refine runD_V 8 ?_
    simp (disch := first | omega | (simp only [lnx]; omega)) only [stdh, stdx, ↓reduceIte, seval, r1, r5, r7, r8, r9, hm, hf, xm, xf, refA, encOut, hbc]
    rw [List.append_nil]
    refine pl0r K Q hnext hi (h.keeps (keeps_append H _)) hroom hC (xm _) his hfl hpf hpC (xf _) ?_ ?_ ?_ ?_ ?_ (p10 := H.length) (p11 := H.length + 1) (res := putT room (tsOf sl) f) rfl ?_ ?_ n0 n1 (by omega) (by omega) ?_ ?_ ?_ <;> first | rfl | exact at_0 | exact at_k
  · refine runD_V 60 ?_
    simp (disch := first | omega | (simp only [lnx]; omega)) only [stdh, stdx, ↓reduceIte, seval, cuneiformlaw14_TablePlays.d0, r1, r5, r7, r8, r9, hm, hf, xm, xf]
    refine callD_fn (of_ok _ f _ ?_)
    refine ⟨by simp (disch := first | omega | (simp only [lnx]; omega)) only [stdh, stdx, ↓reduceIte, seval, r1, r5, r7, r8, r9, hm, hf, xm, xf], ?_⟩
    refine runD_V 60 ?_
    simp (disch := first | omega | (simp only [lnx]; omega)) only [stdh, stdx, ↓reduceIte, seval, r1, r5, r7, r8, r9, hm, hf, xm, xf]
    refine callD_fn (rput14_ok _ f hw hnd h32 his hlen ⟨hroom, hrr⟩ hfl _ ?_)
    refine ⟨by simp (disch := first | omega | (simp only [lnx]; omega)) only [stdh, stdx, ↓reduceIte, seval, r1, r5, r7, r8, r9, hm, hf, xm, xf], ?_⟩
    refine runD_V 9 ?_
    simp (disch := first | omega | (simp only [lnx]; omega)) only [stdh, stdx, ↓reduceIte, seval, r1, r5, r7, r8, r9, hm, hf, xm, xf, refA, encOut, hbc]
    rw [List.append_nil]
    refine pl0r K Q hnext hi (h.keeps (keeps_append H _)) hroom hC (xm _) his hfl hpf hpC (xf _) ?_ ?_ ?_ ?_ ?_ (p10 := H.length + 1) (p11 := H.length) (res := putT room (tsOf sl) f) rfl ?_ ?_ n1 n0 (by omega) (by omega) ?_ ?_ ?_ <;> first | rfl | exact at_0 | exact at_k
  · refine runD_V 60 ?_
    simp (disch := first | omega | (simp only [lnx]; omega)) only [stdh, stdx, ↓reduceIte, seval, cuneiformlaw14_TablePlays.d0, r1, r5, r7, r8, r9, hm, hf, xm, xf]
    refine callD_fn (of_ok _ f _ ?_)
    refine ⟨by simp (disch := first | omega | (simp only [lnx]; omega)) only [stdh, stdx, ↓reduceIte, seval, r1, r5, r7, r8, r9, hm, hf, xm, xf], ?_⟩
    refine runD_V 60 ?_
    simp (disch := first | omega | (simp only [lnx]; omega)) only [stdh, stdx, ↓reduceIte, seval, r1, r5, r7, r8, r9, hm, hf, xm, xf]
    refine callD_fn (rput14_ok _ f hw hnd h32 his hlen ⟨hroom, hrr⟩ hfl _ ?_)
    refine ⟨by simp (disch := first | omega | (simp only [lnx]; omega)) only [stdh, stdx, ↓reduceIte, seval, r1, r5, r7, r8, r9, hm, hf, xm, xf], ?_⟩
    refine runD_V 8 ?_
    simp (disch := first | omega | (simp only [lnx]; omega)) only [stdh, stdx, ↓reduceIte, seval, r1, r5, r7, r8, r9, hm, hf, xm, xf, refA, encOut, hbc]
    rw [List.append_nil]
    refine pl0r K Q hnext hi (h.keeps (keeps_append H _)) hroom hC (xm _) his hfl hpf hpC (xf _) ?_ ?_ ?_ ?_ ?_ (p10 := H.length + 1) (p11 := H.length) (res := putT room (tsOf sl) f) rfl ?_ ?_ n1 n0 (by omega) (by omega) ?_ ?_ ?_ <;> first | rfl | exact at_0 | exact at_k
  · refine runD_V 60 ?_
    simp (disch := first | omega | (simp only [lnx]; omega)) only [stdh, stdx, ↓reduceIte, seval, cuneiformlaw14_TablePlays.d0, r1, r5, r7, r8, r9, hm, hf, xm, xf]
    refine callD_fn (of_ok _ f _ ?_)
    refine ⟨by simp (disch := first | omega | (simp only [lnx]; omega)) only [stdh, stdx, ↓reduceIte, seval, r1, r5, r7, r8, r9, hm, hf, xm, xf], ?_⟩
    refine runD_V 60 ?_
    simp (disch := first | omega | (simp only [lnx]; omega)) only [stdh, stdx, ↓reduceIte, seval, r1, r5, r7, r8, r9, hm, hf, xm, xf]
    refine callD_fn (rput14_ok _ f hw hnd h32 his hlen ⟨hroom, hrr⟩ hfl _ ?_)
    refine ⟨by simp (disch := first | omega | (simp only [lnx]; omega)) only [stdh, stdx, ↓reduceIte, seval, r1, r5, r7, r8, r9, hm, hf, xm, xf], ?_⟩
    refine runD_V 9 ?_
    simp (disch := first | omega | (simp only [lnx]; omega)) only [stdh, stdx, ↓reduceIte, seval, r1, r5, r7, r8, r9, hm, hf, xm, xf, refA, encOut, hbc]
    rw [List.append_nil]
    refine pl0r K Q hnext hi (h.keeps (keeps_append H _)) hroom hC (xm _) his hfl hpf hpC (xf _) ?_ ?_ ?_ ?_ ?_ (p10 := H.length) (p11 := H.length + 1) (res := putT room (tsOf sl) f) rfl ?_ ?_ n0 n1 (by omega) (by omega) ?_ ?_ ?_ <;> first | rfl | exact at_0 | exact at_k
  · refine runD_V 60 ?_
    simp (disch := first | omega | (simp only [lnx]; omega)) only [stdh, stdx, ↓reduceIte, seval, cuneiformlaw14_TablePlays.d0, r1, r5, r7, r8, r9, hm, hf, xm, xf]
    refine callD_fn (of_ok _ f _ ?_)
    refine ⟨by simp (disch := first | omega | (simp only [lnx]; omega)) only [stdh, stdx, ↓reduceIte, seval, r1, r5, r7, r8, r9, hm, hf, xm, xf], ?_⟩
    refine runD_V 60 ?_
    simp (disch := first | omega | (simp only [lnx]; omega)) only [stdh, stdx, ↓reduceIte, seval, r1, r5, r7, r8, r9, hm, hf, xm, xf]
    refine callD_fn (rput14_ok _ f hw hnd h32 his hlen ⟨hroom, hrr⟩ hfl _ ?_)
    refine ⟨by simp (disch := first | omega | (simp only [lnx]; omega)) only [stdh, stdx, ↓reduceIte, seval, r1, r5, r7, r8, r9, hm, hf, xm, xf], ?_⟩
    refine runD_V 8 ?_
    simp (disch := first | omega | (simp only [lnx]; omega)) only [stdh, stdx, ↓reduceIte, seval, r1, r5, r7, r8, r9, hm, hf, xm, xf, refA, encOut, hbc]
    rw [List.append_nil]
    refine pl0r K Q hnext hi (h.keeps (keeps_append H _)) hroom hC (xm _) his hfl hpf hpC (xf _) ?_ ?_ ?_ ?_ ?_ (p10 := H.length) (p11 := H.length + 1) (res := putT room (tsOf sl) f) rfl ?_ ?_ n0 n1 (by omega) (by omega) ?_ ?_ ?_ <;> first | rfl | exact at_0 | exact at_k
  · refine runD_V 60 ?_
    simp (disch := first | omega | (simp only [lnx]; omega)) only [stdh, stdx, ↓reduceIte, seval, cuneiformlaw14_TablePlays.d0, r1, r5, r7, r8, r9, hm, hf, xm, xf]
    refine callD_fn (of_ok _ f _ ?_)
    refine ⟨by simp (disch := first | omega | (simp only [lnx]; omega)) only [stdh, stdx, ↓reduceIte, seval, r1, r5, r7, r8, r9, hm, hf, xm, xf], ?_⟩
    refine runD_V 60 ?_
    simp (disch := first | omega | (simp only [lnx]; omega)) only [stdh, stdx, ↓reduceIte, seval, r1, r5, r7, r8, r9, hm, hf, xm, xf]
    refine callD_fn (rput14_ok _ f hw hnd h32 his hlen ⟨hroom, hrr⟩ hfl _ ?_)
    refine ⟨by simp (disch := first | omega | (simp only [lnx]; omega)) only [stdh, stdx, ↓reduceIte, seval, r1, r5, r7, r8, r9, hm, hf, xm, xf], ?_⟩
    refine runD_V 8 ?_
    simp (disch := first | omega | (simp only [lnx]; omega)) only [stdh, stdx, ↓reduceIte, seval, r1, r5, r7, r8, r9, hm, hf, xm, xf, refA, encOut, hbc]
    rw [List.append_nil]
    refine pl0r K Q hnext hi (h.keeps (keeps_append H _)) hroom hC (xm _) his hfl hpf hpC (xf _) ?_ ?_ ?_ ?_ ?_ (p10 := H.length) (p11 := H.length + 1) (res := putT room (tsOf sl) f) rfl ?_ ?_ n0 n1 (by omega) (by omega) ?_ ?_ ?_ <;> first | rfl | exact at_0 | exact at_k
  · refine runD_V 60 ?_
    simp (disch := first | omega | (simp only [lnx]; omega)) only [stdh, stdx, ↓reduceIte, seval, cuneiformlaw14_TablePlays.d0, r1, r5, r7, r8, r9, hm, hf, xm, xf]
    refine callD_fn (of_ok _ f _ ?_)
    refine ⟨by simp (disch := first | omega | (simp only [lnx]; omega)) only [stdh, stdx, ↓reduceIte, seval, r1, r5, r7, r8, r9, hm, hf, xm, xf], ?_⟩
    refine runD_V 60 ?_
    simp (disch := first | omega | (simp only [lnx]; omega)) only [stdh, stdx, ↓reduceIte, seval, r1, r5, r7, r8, r9, hm, hf, xm, xf]
    refine callD_fn (rput14_ok _ f hw hnd h32 his hlen ⟨hroom, hrr⟩ hfl _ ?_)
    refine ⟨by simp (disch := first | omega | (simp only [lnx]; omega)) only [stdh, stdx, ↓reduceIte, seval, r1, r5, r7, r8, r9, hm, hf, xm, xf], ?_⟩
    refine runD_V 9 ?_
    simp (disch := first | omega | (simp only [lnx]; omega)) only [stdh, stdx, ↓reduceIte, seval, r1, r5, r7, r8, r9, hm, hf, xm, xf, refA, encOut, hbc]
    rw [List.append_nil]
    refine pl0r K Q hnext hi (h.keeps (keeps_append H _)) hroom hC (xm _) his hfl hpf hpC (xf _) ?_ ?_ ?_ ?_ ?_ (p10 := H.length + 1) (p11 := H.length) (res := putT room (tsOf sl) f) rfl ?_ ?_ n1 n0 (by omega) (by omega) ?_ ?_ ?_ <;> first | rfl | exact at_0 | exact at_k
  · refine runD_V 60 ?_
    simp (disch := first | omega | (simp only [lnx]; omega)) only [stdh, stdx, ↓reduceIte, seval, cuneiformlaw14_TablePlays.d0, r1, r5, r7, r8, r9, hm, hf, xm, xf]
    refine callD_fn (of_ok _ f _ ?_)
    refine ⟨by simp (disch := first | omega | (simp only [lnx]; omega)) only [stdh, stdx, ↓reduceIte, seval, r1, r5, r7, r8, r9, hm, hf, xm, xf], ?_⟩
    refine runD_V 60 ?_
    simp (disch := first | omega | (simp only [lnx]; omega)) only [stdh, stdx, ↓reduceIte, seval, r1, r5, r7, r8, r9, hm, hf, xm, xf]
    refine callD_fn (rput14_ok _ f hw hnd h32 his hlen ⟨hroom, hrr⟩ hfl _ ?_)
    refine ⟨by simp (disch := first | omega | (simp only [lnx]; omega)) only [stdh, stdx, ↓reduceIte, seval, r1, r5, r7, r8, r9, hm, hf, xm, xf], ?_⟩
    refine runD_V 8 ?_
    simp (disch := first | omega | (simp only [lnx]; omega)) only [stdh, stdx, ↓reduceIte, seval, r1, r5, r7, r8, r9, hm, hf, xm, xf, refA, encOut, hbc]
    rw [List.append_nil]
    refine pl0r K Q hnext hi (h.keeps (keeps_append H _)) hroom hC (xm _) his hfl hpf hpC (xf _) ?_ ?_ ?_ ?_ ?_ (p10 := H.length + 1) (p11 := H.length) (res := putT room (tsOf sl) f) rfl ?_ ?_ n1 n0 (by omega) (by omega) ?_ ?_ ?_ <;> first | rfl | exact at_0 | exact at_k
  · refine runD_V 60 ?_
    simp (disch := first | omega | (simp only [lnx]; omega)) only [stdh, stdx, ↓reduceIte, seval, cuneiformlaw14_TablePlays.d0, r1, r5, r7, r8, r9, hm, hf, xm, xf]
    refine callD_fn (of_ok _ f _ ?_)
    refine ⟨by simp (disch := first | omega | (simp only [lnx]; omega)) only [stdh, stdx, ↓reduceIte, seval, r1, r5, r7, r8, r9, hm, hf, xm, xf], ?_⟩
    refine runD_V 60 ?_
    simp (disch := first | omega | (simp only [lnx]; omega)) only [stdh, stdx, ↓reduceIte, seval, r1, r5, r7, r8, r9, hm, hf, xm, xf]
    refine callD_fn (rput14_ok _ f hw hnd h32 his hlen ⟨hroom, hrr⟩ hfl _ ?_)
    refine ⟨by simp (disch := first | omega | (simp only [lnx]; omega)) only [stdh, stdx, ↓reduceIte, seval, r1, r5, r7, r8, r9, hm, hf, xm, xf], ?_⟩
    refine runD_V 8 ?_
    simp (disch := first | omega | (simp only [lnx]; omega)) only [stdh, stdx, ↓reduceIte, seval, r1, r5, r7, r8, r9, hm, hf, xm, xf, refA, encOut, hbc]
    rw [List.append_nil]
    refine pl0r K Q hnext hi (h.keeps (keeps_append H _)) hroom hC (xm _) his hfl hpf hpC (xf _) ?_ ?_ ?_ ?_ ?_ (p10 := H.length + 1) (p11 := H.length) (res := putT room (tsOf sl) f) rfl ?_ ?_ n1 n0 (by omega) (by omega) ?_ ?_ ?_ <;> first | rfl | exact at_0 | exact at_k
end
end Go.Proofs.Ytamcfgdnhgmkpaa
