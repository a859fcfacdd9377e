/-
  Lemmas on the way to the statements of this seat. By an AI agent. No person has read it.
-/
import Derived.Test.YtamcfgdnhgmkpaaTABF
set_option linter.unusedSimpArgs false
set_option linter.unusedVariables false

namespace Go.Proofs.Ytamcfgdnhgmkpaa
open Go Go.Am
set_option linter.unusedSimpArgs false
set_option linter.unusedVariables false

section
variable {H : AHeap} {P M room : Nat} {ord : AVal} {sl : List Sl}

/-- A clone with one owner. -/
theorem sclone_own {n : Nat} {cs : List AVal} (ho : Own 1 T.uint32 0 H ord n cs) (hn : n ≤ 1000) (hc : cs.all AVal.cellish = true) (Q : AVal → AHeap → Prop) (hq : ∀ H' a, Keeps H H' → Own 1 T.uint32 H.length H' a n cs → Q a H') : FunOK Try.prog F.slices_Clone_uint32_uint32 [ord] H Q := by
  have hcs := ho.len
  have none_ok : n = 0 → ∀ H', Keeps H H' → Q .nils H' := fun h0 H' hk => by
    have : cs = [] := List.length_eq_zero_iff.1 (by omega)
    subst this h0
    exact hq H' .nils hk Own.nil
  rcases ho.is with ⟨rfl, h0⟩ | ⟨L, _, rfl, hL⟩
  · refine fun_V 60 slices_Clone_uint32_uint32_code rfl ?_
    simp (disch := first | omega | (simp only [lnx]; omega)) only [stdh, stdx, ↓reduceIte, seval, slices_Clone_uint32_uint32, slices_Clone_uint32_uint32.body, eqA]
    exact none_ok h0 _ (Keeps.refl _)
  · have hLl := (List.getElem?_eq_some_iff.1 hL).1
    refine fun_V 8 slices_Clone_uint32_uint32_code rfl ?_
    simp (disch := first | omega | (simp only [lnx]; omega)) only [stdh, stdx, ↓reduceIte, seval, slices_Clone_uint32_uint32, slices_Clone_uint32_uint32.body]
    refine runL_slcnil (n := L) (off := 0) (l := n) (z := 1) rfl rfl (alive_vec hL) fun b hb => ?_
    refine runL_V 60 ?_
    have hvw : ∀ X, srcCells (H ++ X) (.slc L 0 n 1) = some cs := fun X => by
      have := (at_low (L := X) hLl).trans hL
      simp [srcCells, view, this, content, hcs]
      first | exact List.take_of_length_le (by omega) | (rw [List.take_of_length_le (by omega)]; done)
    cases b
    · obtain ⟨p, a1, hp⟩ := Own.append3 (H := H ++ [ABlk.vec [] T.uint32 1]) (a := .slc H.length 0 0 1) (x := .slc L 0 n 1) (w := 1) (el := T.uint32) (B := 0) (n := 0) (cs := []) (k := n) (ys := cs) ⟨rfl, .inr ⟨_, Nat.zero_le _, rfl, at_0⟩⟩ 4 rfl (hvw _) hcs (by omega) (by omega) (by omega) hc
      simp (disch := first | omega | (simp only [lnx]; omega)) only [stdh, stdx, ↓reduceIte, seval, a1, hp, killA, set_0]
      exact hq _ _ (keeps_append _ _) ⟨hcs, .inr ⟨H.length + 1, by omega, by simp, by simp⟩⟩
    · simp (disch := first | omega | (simp only [lnx]; omega)) only [stdh, stdx, ↓reduceIte, seval]
      exact none_ok (hb rfl) _ (Keeps.refl _)
theorem tseqs_own (h : TabS H P M room ord sl) (Q : AVal → AHeap → Prop) (hq : ∀ H' a, Keeps H H' → Own 1 T.uint32 H.length H' a sl.length (seqV sl) → Q a H') : FunOK Try.prog F.table_Table_Seqs [.ptr P 0] H Q := by
  have hr := h.r
  refine fun_V 60 table_Table_Seqs_code rfl ?_
  simp (disch := first | omega | (simp only [lnx]; omega)) only [stdh, stdx, ↓reduceIte, seval, table_Table_Seqs, table_Table_Seqs.body, eqA, h.p]
  refine callK_fn (sclone_own h.o (by omega) (seqV_all sl) _ ?_)
  intro H' a hk ho
  refine runL_V 60 ?_
  simp (disch := first | omega | (simp only [lnx]; omega)) only [stdh, stdx, ↓reduceIte, seval]
  exact hq H' a hk ho

abbrev tcC : Ctx := ⟨F.table_Table_Copy, 28, [.tmp 2], none⟩
theorem seqV_ts {a b : List Sl} (h : tsOf a = tsOf b) : seqV a = seqV b := by
  have := congrArg seqsT h
  rw [seqs_of, seqs_of] at this
  unfold seqV; rw [this]
theorem ts_len {a b : List Sl} (h : tsOf a = tsOf b) : a.length = b.length := by simpa [tsOf] using congrArg List.length h

set_option maxRecDepth 10000 in
set_option maxHeartbeats 8000000 in
theorem copytail {G : AHeap} (h : TabS H P M room ord sl) (hk : Keeps H G) {P' M' C : Nat} {a : AVal} (hP' : G[P']? = some (.cells [.int .i64 (room : Nat), a, .mapv M'] T.table_Table)) (hM' : G[M']? = some (.map [])) (hC : G[C]? = some (.cells [.ptr P' 0] T.p_table_Table))
    (ha : Own 1 T.uint32 H.length G a sl.length (seqV sl)) (l1 : H.length ≤ P') (l2 : H.length ≤ M') (l3 : H.length ≤ C) (Q : AVal → AHeap → Prop)
    (hq : ∀ H' P' M' ord' sl', Keeps H H' → TabS H' P' M' room ord' sl' → tsOf sl' = tsOf sl → (∀ m ∈ tabF P' M' ord' sl', H.length ≤ m) → Q (.ptr P' 0) H') :
    Run Try.prog tcC [.code (.seq (.seq (.region [⟨(some 17), .mov (.tmp 0), none⟩,
    ⟨(some 18), .call (.const (.fn F.table_Table_All [] [])) [(.tmp 17)], none⟩] [2, 3, 18])
  (.block 0 (.range (.tmp 18) [19, 20] table_Table_Copy.a1 table_Table_Copy.b1)))
  (.seq (.region [⟨(some 27), .load none (.tmp 3), none⟩,
    ⟨(some 2), .mov (.tmp 27), none⟩] [2])
  (.ret)))] [(0, .ptr P 0), (2, .nilp), (3, .ptr C 0)] G Q := by
  have hr := h.r
  have hft := h.foot
  have hG := h.keeps hk
  have hkl := hk.1
  have hPl := (List.getElem?_eq_some_iff.1 hP').1
  have hMl := (List.getElem?_eq_some_iff.1 hM').1
  have hCl := (List.getElem?_eq_some_iff.1 hC).1
  have n1 : P' ≠ M' := fun e => by rw [e, hM'] at hP'; cases hP'
  have n2 : C ≠ M' := fun e => by rw [e, hM'] at hC; cases hC
  have n3 : C ≠ P' := fun e => by
    rw [e, hP'] at hC
    have := congrArg (fun b : Option ABlk => match b with | some (.cells cs _) => cs.length | _ => 0) hC
    simp at this
  have han : ∀ m ∈ a.names, H.length ≤ m ∧ m < G.length ∧ m ≠ P' ∧ m ≠ M' ∧ m ≠ C ∧ G[m]? = some (.vec (seqV sl) T.uint32 1) := fun m hm => by
    rcases ha.is with ⟨e, _⟩ | ⟨k, hk1, e, hk2⟩
    · rw [e] at hm; simp [AVal.names] at hm
    · rw [e] at hm; simp [AVal.names] at hm; subst hm
      refine ⟨hk1, (List.getElem?_eq_some_iff.1 hk2).1, ?_, ?_, ?_, hk2⟩
      · rintro rfl; rw [hP'] at hk2; cases hk2
      · rintro rfl; rw [hM'] at hk2; cases hk2
      · rintro rfl; rw [hC] at hk2; cases hk2
  refine run_V0 60 ?_
  simp (disch := first | omega | (simp only [lnx]; omega)) only [stdh, stdx, ↓reduceIte, seval]
  refine callK_fn (all_ok hG _ ?_)
  refine runL_V 60 ?_
  simp (disch := first | omega | (simp only [lnx]; omega)) only [stdh, stdx, ↓reduceIte, seval]
  let J : Nat → List Nat → AHeap → Prop := fun j fp H' => ∃ cs : List Sl, tsOf cs = tsOf (sl.take j) ∧ fp = C :: P' :: M' :: (a.names ++ slF cs) ∧ H'[C]? = some (.cells [.ptr P' 0] T.p_table_Table) ∧ H'[P']? = some (.cells [.int .i64 (room : Nat), a, .mapv M'] T.table_Table) ∧ H'[M']? = some (.map (cs.map entT)) ∧ (∀ m ∈ a.names, H'[m]? = some (.vec (seqV sl) T.uint32 1)) ∧ (∀ x ∈ cs, SlotS H' x.s x.m x.h x.fs) ∧ (M' :: slF cs).Nodup ∧ (∀ m ∈ slF cs, G.length ≤ m)
  have hJ : ∀ j, Foot (J j) := fun j => {
    lt := by
      rintro fp H' ⟨cs, c1, rfl, c2, c3, c4, c5, c6, c7, c8⟩ m hm
      simp only [List.mem_cons, List.mem_append] at hm
      rcases hm with rfl | rfl | rfl | hm | hm
      · exact (List.getElem?_eq_some_iff.1 c2).1
      · exact (List.getElem?_eq_some_iff.1 c3).1
      · exact (List.getElem?_eq_some_iff.1 c4).1
      · exact (List.getElem?_eq_some_iff.1 (c5 m hm)).1
      · obtain ⟨x, hx, rfl | rfl⟩ := slF_mem.1 hm
        · exact (c6 x hx).lt.1
        · exact (c6 x hx).lt.2
    stable := by
      rintro fp H' H2 ⟨cs, c1, rfl, c2, c3, c4, c5, c6, c7, c8⟩ hle hk
      refine ⟨cs, c1, rfl, (hk _ (by simp)).trans c2, (hk _ (by simp)).trans c3, (hk _ (by simp)).trans c4, fun m hm => (hk m (by simp [hm])).trans (c5 m hm), fun x hx => ?_, c7, c8⟩
      have i1 : x.s ∈ slF cs := slF_mem.2 ⟨x, hx, .inl rfl⟩
      have i2 : x.m ∈ slF cs := slF_mem.2 ⟨x, hx, .inr rfl⟩
      exact ⟨(hk _ (by simp [i1])).trans (c6 x hx).s, (hk _ (by simp [i2])).trans (c6 x hx).m⟩ }
  refine range_ofX (g := F.table_Table_All_1) (first := []) (captured := [cell (.ptr P 0)]) rfl (by intro n hn; cases hn) (item := allItem (G.length + 1) sl) (len := sl.length) (by rintro j args gv H ⟨S, M, rfl, _⟩; rfl)
    J (fun _ _ _ _ => False) hJ (fun _ _ => ⟨fun _ _ h => h.elim, fun _ _ _ h => h.elim⟩) (fp0 := C :: P' :: M' :: a.names) ⟨[], rfl, by simp [slF], hC, hP', hM', fun m hm => (han m hm).2.2.2.2.2, by simp, by simp [slF], by simp [slF]⟩ ?_ (tabF P M ord sl) (fun m hm => ?_) (fun H1 h1 h2' => by have := all1_iter (n := G.length) (hG.keep (H' := H1) fun m hm => h2' m (by have := hft m hm; omega)); rw [h1] at this; exact this) ?_ (fun _ _ _ _ _ _ hh => hh.elim)
  · rintro as' bd' j fp H1 args gv hj hn hl hrec ⟨cs, c1, rfl, c2, c3, c4, c5, c6, c7, c8⟩ ⟨S', M2, rfl, rfl, hsl, hSB, hMB⟩ hgv
    have hxm := getD_mem hj
    have hjt : tsOf (sl.take (j + 1)) = tsOf (sl.take j) ++ [((sl.getD j default).h, (sl.getD j default).fs)] := by
      rw [List.take_succ_eq_append_getElem hj, show sl.getD j default = sl[j] by simp [List.getD_eq_getElem?_getD, hj]]
      simp only [tsOf, List.map_append, List.map_cons, List.map_nil]
    have hno : ∀ y ∈ cs, y.h.s ≠ (sl.getD j default).h.s := by
      intro y hy e
      have h1 : (y.h, y.fs) ∈ tsOf (sl.take j) := by rw [← c1]; exact List.mem_map.2 ⟨y, hy, rfl⟩
      obtain ⟨z, hz, ez⟩ := List.mem_map.1 h1
      have ez1 : z.h = y.h := congrArg Prod.fst ez
      obtain ⟨i, hi, rfl⟩ := List.mem_iff_getElem.1 hz
      rw [List.length_take] at hi
      rw [List.getElem_take] at ez1
      have hnd := List.pairwise_iff_getElem.1 h.n i j (by simp; omega) (by simpa using hj) (by omega)
      rw [show sl.getD j default = sl[j] by simp [List.getD_eq_getElem?_getD, hj]] at e
      simp only [List.getElem_map] at hnd
      exact hnd (by rw [ez1]; exact e)
    have hu := updT (v := .ptr S' 0) hno
    have hko := keyT (q := (sl.getD j default).h.s) (sl := cs)
    generalize sl.getD j default = x at *
    obtain ⟨hS1, hS2, hS3⟩ := hgv S' (by simp)
    obtain ⟨hM1, hM2, hM3⟩ := hgv M2 (by simp)
    simp only [List.mem_cons, List.mem_append, not_or] at hS1 hM1
    have hSM := hsl.ne
    refine run_V0 60 ?_
    simp (disch := first | omega | (simp only [lnx]; omega)) only [stdh, stdx, ↓reduceIte, seval, table_Table_Copy.a1, table_Table_Copy.b1, hrec, c2, c3, c4, hu, hko, kindA, List.zip_cons_cons, List.zip_nil_left, List.reverse_cons, List.reverse_nil, List.getElem?_set_self, List.getElem?_set_ne]
    refine round_fin (n := G.length) rfl (by simp (disch := first | omega | (simp only [lnx]; omega)) only [List.getElem?_set_ne, List.getElem?_set_self, List.length_set, ne_eq, not_false_eq_true]; first | done | exact List.getElem?_set_self (by omega) | rfl) ?_
    have hF : slF (cs ++ [⟨S', M2, x.h, x.fs⟩]) = slF cs ++ [S', M2] := by simp [slF]
    have kk : ∀ b1 b2 b3 m, m ≠ G.length → m ≠ M' → (((H1.set G.length b1).set M' b2).set G.length b3)[m]? = H1[m]? := fun b1 b2 b3 m m1 m2 => by
      rw [List.getElem?_set_ne (fun e => m1 e.symm), List.getElem?_set_ne (fun e => m2 e.symm), List.getElem?_set_ne (fun e => m1 e.symm)]
    refine ⟨C :: P' :: M' :: (a.names ++ slF (cs ++ [⟨S', M2, x.h, x.fs⟩])), ⟨by simp, fun m hm => ?_, fun m m1 m2 => ?_⟩, ?_, .inl ⟨rfl, ?_, cs ++ [⟨S', M2, x.h, x.fs⟩], ?_, rfl, ?_, ?_, ?_, fun m hm => ?_, fun y hy => ?_, ?_, fun m hm => ?_⟩⟩
    · rw [hF] at hm
      simp only [List.mem_cons, List.mem_append] at hm ⊢
      exact .inl hm
    · simp only [List.mem_cons, List.mem_append, not_or] at m2
      exact kk _ _ _ m m2.1 m2.2.2.2.1
    · rw [hF]
      simp only [List.mem_cons, List.mem_append, not_or, List.not_mem_nil, not_false_eq_true, and_true]
      refine ⟨by omega, by omega, by omega, fun hh => ?_, fun hh => ?_, by omega, by omega⟩
      · have := (han _ hh).2.1; omega
      · simp only [List.mem_cons, List.mem_append, not_or] at hn
        exact hn.2.2.2.2 hh
    · rw [List.getElem?_set_self (by (first | omega | (simp only [lnx]; omega)))]; rfl
    · rw [hjt, ← c1]; simp [tsOf]
    · rw [kk _ _ _ C (by omega) n2]; exact c2
    · rw [kk _ _ _ P' (by omega) n1]; exact c3
    · rw [List.getElem?_set_ne (by omega), List.getElem?_set_self (by (first | omega | (simp only [lnx]; omega)))]; simp [entT]
    · rw [kk _ _ _ m (by have := (han m hm).2.1; omega) (han m hm).2.2.2.1]; exact c5 m hm
    · rw [List.mem_append, List.mem_singleton] at hy
      rcases hy with hy | rfl
      · have i1 : y.s ∈ slF cs := slF_mem.2 ⟨y, hy, .inl rfl⟩
        have i2 : y.m ∈ slF cs := slF_mem.2 ⟨y, hy, .inr rfl⟩
        have g1 := c8 _ i1
        have g2 := c8 _ i2
        have hn2 := hn
        simp only [List.mem_cons, List.mem_append, not_or] at hn2
        exact ⟨by rw [kk _ _ _ _ (fun e => hn2.2.2.2.2 (e ▸ i1)) (by omega)]; exact (c6 y hy).s, by rw [kk _ _ _ _ (fun e => hn2.2.2.2.2 (e ▸ i2)) (by omega)]; exact (c6 y hy).m⟩
      · exact ⟨by rw [kk _ _ _ _ (by omega) hS1.2.2.1]; exact hsl.s, by rw [kk _ _ _ _ (by omega) hM1.2.2.1]; exact hsl.m⟩
    · rw [hF, ← List.cons_append, List.nodup_append]
      refine ⟨c7, by simp [hSM], fun u hu1 v hv e => ?_⟩
      simp only [List.mem_cons, List.not_mem_nil, or_false] at hu1 hv
      rw [e] at hu1
      rcases hv with hv | hv
      · rw [hv] at hu1
        rcases hu1 with hu1 | hu1
        · exact hS1.2.2.1 hu1
        · exact hS1.2.2.2.2 hu1
      · rw [hv] at hu1
        rcases hu1 with hu1 | hu1
        · exact hM1.2.2.1 hu1
        · exact hM1.2.2.2.2 hu1
    · rw [hF] at hm
      simp only [List.mem_cons, List.mem_append, List.not_mem_nil, or_false] at hm
      rcases hm with hm | rfl | rfl
      · exact c8 m hm
      · omega
      · omega
  · have := hft m hm
    refine ⟨by omega, fun hh => ?_⟩
    simp only [List.mem_cons] at hh
    rcases hh with hh | hh | hh | hh
    · omega
    · omega
    · omega
    · have := (han m hh).1; omega
  · rintro fp H' hl hk' ⟨cs, c1, rfl, c2, c3, c4, c5, c6, c7, c8⟩
    rw [List.take_length] at c1
    have hcl := ts_len c1
    refine run_V0 60 ?_
    simp (disch := first | omega | (simp only [lnx]; omega)) only [stdh, stdx, ↓reduceIte, seval, c2]
    refine hq H' P' M' a cs ⟨by omega, fun m hm => ?_⟩ ⟨c3, c4, ?_, fun x hx => ?_, c7, ?_, by omega⟩ c1 (fun m hm => ?_)
    · rw [hk' m (by omega) (fun hh => ?_), hk.2 m hm]
      simp only [List.mem_cons] at hh
      rcases hh with hh | hh | hh | hh
      · omega
      · omega
      · omega
      · have := (han m hh).1; omega
    · refine ⟨by simp [seqV], ?_⟩
      rw [hcl, seqV_ts c1]
      rcases ha.is with hz | ⟨k, k1, k2, k3⟩
      · exact .inl hz
      · exact .inr ⟨k, Nat.zero_le _, k2, c5 k (by rw [k2]; simp [AVal.names])⟩
    · have hmem : (x.h, x.fs) ∈ tsOf sl := by rw [← c1]; exact List.mem_map.2 ⟨x, hx, rfl⟩
      obtain ⟨y, hy, e⟩ := List.mem_map.1 hmem
      have e1 : y.h = x.h := congrArg Prod.fst e
      have e2 : y.fs = x.fs := congrArg Prod.snd e
      have := (h.s y hy).2
      rw [e1, e2] at this
      exact ⟨c6 x hx, this⟩
    · have := h.n
      rw [← seqs_of] at this ⊢
      rwa [c1]
    · simp only [tabF, List.mem_cons, List.mem_append] at hm
      rcases hm with rfl | rfl | hm | hm
      · exact l1
      · exact l2
      · exact (han m hm).1
      · have := c8 m hm; omega
end
end Go.Proofs.Ytamcfgdnhgmkpaa

namespace Go.Proofs.Ytamcfgdnhgmkpaa
open Go Go.Am
set_option linter.unusedSimpArgs false
set_option linter.unusedVariables false

theorem own_same4 {w : Nat} {el : TypeId} {B : Nat} {H H' : AHeap} {a : AVal} {n : Nat} {cs : List AVal} (h : Own w el B H a n cs) (hk : ∀ m, B ≤ m → m < H.length → H'[m]? = H[m]?) : Own w el B H' a n cs := by
  refine ⟨h.len, ?_⟩
  rcases h.is with h | ⟨m, h1, h2, h3⟩
  · exact .inl h
  · exact .inr ⟨m, h1, h2, (hk m h1 (List.getElem?_eq_some_iff.1 h3).1).trans h3⟩
section
variable {H : AHeap} {P M room : Nat} {ord : AVal} {sl : List Sl}
set_option maxRecDepth 10000 in
set_option maxHeartbeats 8000000 in
theorem tcopy_ok (h : TabS H P M room ord sl) (Q : AVal → AHeap → Prop)
    (hq : ∀ H' P' M' ord' sl', Keeps H H' → TabS H' P' M' room ord' sl' → tsOf sl' = tsOf sl → (∀ m ∈ tabF P' M' ord' sl', H.length ≤ m) → Q (.ptr P' 0) H') : FunOK Try.prog F.table_Table_Copy [.ptr P 0] H Q := by
  refine fun_V 14 table_Table_Copy_code rfl ?_
  simp (disch := first | omega | (simp only [lnx]; omega)) only [stdh, stdx, ↓reduceIte, seval, table_Table_Copy, table_Table_Copy.body, eqA]
  have px : ∀ X, (H ++ X)[P]? = _ := fun X => (at_low ((List.getElem?_eq_some_iff.1 h.p).1)).trans h.p
  intro s hs
  simp only [List.mem_cons, List.not_mem_nil, or_false] at hs
  rcases hs with rfl | rfl | rfl | rfl | rfl | rfl | rfl | rfl
  · refine runD_V 60 ?_
    simp (disch := first | omega | (simp only [lnx]; omega)) only [stdh, stdx, ↓reduceIte, seval, table_Table_Copy.d0, h.p, px]
    refine callD_fn (tseqs_own (h) _ ?_)
    intro H1 a hk1 ho1
    have hkk : Keeps H H1 := hk1
    have hp1 := hkk.get h.p
    have hPl1 := (List.getElem?_eq_some_iff.1 hp1).1
    have px1 : ∀ X, (H1 ++ X)[P]? = _ := fun X => (at_low hPl1).trans hp1
    have hl1 := hk1.1
    refine ⟨by simp (disch := first | omega | (simp only [lnx]; omega)) only [stdh, stdx, ↓reduceIte, seval, h.p, px, hp1, px1], ?_⟩
    refine runD_V 6 ?_
    have hac : a.cellish = true := by rcases ho1.is with ⟨rfl, _⟩ | ⟨m, _, rfl, _⟩ <;> rfl
    have hcl : a.cells = [a] := by rcases ho1.is with ⟨rfl, _⟩ | ⟨m, _, rfl, _⟩ <;> rfl
    simp (disch := first | omega | (simp only [lnx]; omega)) only [stdh, stdx, ↓reduceIte, seval, hac, hcl, hp1, px1, set_low]
    exact copytail (P' := H1.length + 1) (M' := H1.length) (C := H1.length + 2) h (hkk.trans (keeps_append _ _)) at_k at_0 at_k (own_lower (own_same4 ho1 fun m h1 h2 => at_low h2) (by simp)) (by omega) (by omega) (by omega) Q hq
  · refine runD_V 60 ?_
    simp (disch := first | omega | (simp only [lnx]; omega)) only [stdh, stdx, ↓reduceIte, seval, table_Table_Copy.d0, h.p, px]
    refine callD_fn (tseqs_own (h) _ ?_)
    intro H1 a hk1 ho1
    have hkk : Keeps H H1 := hk1
    have hp1 := hkk.get h.p
    have hPl1 := (List.getElem?_eq_some_iff.1 hp1).1
    have px1 : ∀ X, (H1 ++ X)[P]? = _ := fun X => (at_low hPl1).trans hp1
    have hl1 := hk1.1
    refine ⟨by simp (disch := first | omega | (simp only [lnx]; omega)) only [stdh, stdx, ↓reduceIte, seval, h.p, px, hp1, px1], ?_⟩
    refine runD_V 6 ?_
    have hac : a.cellish = true := by rcases ho1.is with ⟨rfl, _⟩ | ⟨m, _, rfl, _⟩ <;> rfl
    have hcl : a.cells = [a] := by rcases ho1.is with ⟨rfl, _⟩ | ⟨m, _, rfl, _⟩ <;> rfl
    simp (disch := first | omega | (simp only [lnx]; omega)) only [stdh, stdx, ↓reduceIte, seval, hac, hcl, hp1, px1, set_low]
    exact copytail (P' := H1.length + 2) (M' := H1.length) (C := H1.length + 1) h (hkk.trans (keeps_append _ _)) at_k at_0 at_k (own_lower (own_same4 ho1 fun m h1 h2 => at_low h2) (by simp)) (by omega) (by omega) (by omega) Q hq
  · refine runD_V 60 ?_
    simp (disch := first | omega | (simp only [lnx]; omega)) only [stdh, stdx, ↓reduceIte, seval, table_Table_Copy.d0, h.p, px]
    refine callD_fn (tseqs_own (h) _ ?_)
    intro H1 a hk1 ho1
    have hkk : Keeps H H1 := hk1
    have hp1 := hkk.get h.p
    have hPl1 := (List.getElem?_eq_some_iff.1 hp1).1
    have px1 : ∀ X, (H1 ++ X)[P]? = _ := fun X => (at_low hPl1).trans hp1
    have hl1 := hk1.1
    refine ⟨by simp (disch := first | omega | (simp only [lnx]; omega)) only [stdh, stdx, ↓reduceIte, seval, h.p, px, hp1, px1], ?_⟩
    refine runD_V 6 ?_
    have hac : a.cellish = true := by rcases ho1.is with ⟨rfl, _⟩ | ⟨m, _, rfl, _⟩ <;> rfl
    have hcl : a.cells = [a] := by rcases ho1.is with ⟨rfl, _⟩ | ⟨m, _, rfl, _⟩ <;> rfl
    simp (disch := first | omega | (simp only [lnx]; omega)) only [stdh, stdx, ↓reduceIte, seval, hac, hcl, hp1, px1, set_low]
    exact copytail (P' := H1.length + 2) (M' := H1.length + 1) (C := H1.length) h (hkk.trans (keeps_append _ _)) at_k at_k at_0 (own_lower (own_same4 ho1 fun m h1 h2 => at_low h2) (by simp)) (by omega) (by omega) (by omega) Q hq
  · refine runD_V 60 ?_
    simp (disch := first | omega | (simp only [lnx]; omega)) only [stdh, stdx, ↓reduceIte, seval, table_Table_Copy.d0, h.p, px]
    refine callD_fn (tseqs_own (h.keeps (keeps_append H _)) _ ?_)
    intro H1 a hk1 ho1
    have hkk : Keeps H H1 := (keeps_append H _).trans hk1
    have hp1 := hkk.get h.p
    have hPl1 := (List.getElem?_eq_some_iff.1 hp1).1
    have px1 : ∀ X, (H1 ++ X)[P]? = _ := fun X => (at_low hPl1).trans hp1
    have hl1 := hk1.1
    simp only [List.length_append, List.length_cons, List.length_nil] at hl1
    have gM : H1[H.length]? = some (ABlk.map []) := hk1.get at_0
    have gMx : ∀ X, (H1 ++ X)[H.length]? = _ := fun X => (at_low (by omega)).trans gM
    refine ⟨by simp (disch := first | omega | (simp only [lnx]; omega)) only [stdh, stdx, ↓reduceIte, seval, h.p, px, hp1, px1], ?_⟩
    refine runD_V 5 ?_
    have hac : a.cellish = true := by rcases ho1.is with ⟨rfl, _⟩ | ⟨m, _, rfl, _⟩ <;> rfl
    have hcl : a.cells = [a] := by rcases ho1.is with ⟨rfl, _⟩ | ⟨m, _, rfl, _⟩ <;> rfl
    simp (disch := first | omega | (simp only [lnx]; omega)) only [stdh, stdx, ↓reduceIte, seval, hac, hcl, hp1, px1, set_low, gM, gMx]
    exact copytail (P' := H1.length) (M' := H.length) (C := H1.length + 1) h (hkk.trans (keeps_append _ _)) at_0 (gMx _) at_k (own_lower (own_same4 ho1 fun m h1 h2 => at_low h2) (by simp)) (by omega) (by omega) (by omega) Q hq
  · refine runD_V 60 ?_
    simp (disch := first | omega | (simp only [lnx]; omega)) only [stdh, stdx, ↓reduceIte, seval, table_Table_Copy.d0, h.p, px]
    refine callD_fn (tseqs_own (h.keeps (keeps_append H _)) _ ?_)
    intro H1 a hk1 ho1
    have hkk : Keeps H H1 := (keeps_append H _).trans hk1
    have hp1 := hkk.get h.p
    have hPl1 := (List.getElem?_eq_some_iff.1 hp1).1
    have px1 : ∀ X, (H1 ++ X)[P]? = _ := fun X => (at_low hPl1).trans hp1
    have hl1 := hk1.1
    simp only [List.length_append, List.length_cons, List.length_nil] at hl1
    have gM : H1[H.length]? = some (ABlk.map []) := hk1.get at_0
    have gMx : ∀ X, (H1 ++ X)[H.length]? = _ := fun X => (at_low (by omega)).trans gM
    refine ⟨by simp (disch := first | omega | (simp only [lnx]; omega)) only [stdh, stdx, ↓reduceIte, seval, h.p, px, hp1, px1], ?_⟩
    refine runD_V 5 ?_
    have hac : a.cellish = true := by rcases ho1.is with ⟨rfl, _⟩ | ⟨m, _, rfl, _⟩ <;> rfl
    have hcl : a.cells = [a] := by rcases ho1.is with ⟨rfl, _⟩ | ⟨m, _, rfl, _⟩ <;> rfl
    simp (disch := first | omega | (simp only [lnx]; omega)) only [stdh, stdx, ↓reduceIte, seval, hac, hcl, hp1, px1, set_low, gM, gMx]
    exact copytail (P' := H1.length + 1) (M' := H.length) (C := H1.length) h (hkk.trans (keeps_append _ _)) at_k (gMx _) at_0 (own_lower (own_same4 ho1 fun m h1 h2 => at_low h2) (by simp)) (by omega) (by omega) (by omega) Q hq
  · refine runD_V 60 ?_
    simp (disch := first | omega | (simp only [lnx]; omega)) only [stdh, stdx, ↓reduceIte, seval, table_Table_Copy.d0, h.p, px]
    refine callD_fn (tseqs_own (h.keeps (keeps_append H _)) _ ?_)
    intro H1 a hk1 ho1
    have hkk : Keeps H H1 := (keeps_append H _).trans hk1
    have hp1 := hkk.get h.p
    have hPl1 := (List.getElem?_eq_some_iff.1 hp1).1
    have px1 : ∀ X, (H1 ++ X)[P]? = _ := fun X => (at_low hPl1).trans hp1
    have hl1 := hk1.1
    simp only [List.length_append, List.length_cons, List.length_nil] at hl1
    have gM : H1[H.length]? = some (ABlk.map []) := hk1.get at_0
    have gMx : ∀ X, (H1 ++ X)[H.length]? = _ := fun X => (at_low (by omega)).trans gM
    have gC : H1[H.length + 1]? = some (ABlk.cells [.nilp] T.p_table_Table) := hk1.get at_k
    have gCx : ∀ X, (H1 ++ X)[H.length + 1]? = _ := fun X => (at_low (by omega)).trans gC
    refine ⟨by simp (disch := first | omega | (simp only [lnx]; omega)) only [stdh, stdx, ↓reduceIte, seval, h.p, px, hp1, px1], ?_⟩
    refine runD_V 4 ?_
    have hac : a.cellish = true := by rcases ho1.is with ⟨rfl, _⟩ | ⟨m, _, rfl, _⟩ <;> rfl
    have hcl : a.cells = [a] := by rcases ho1.is with ⟨rfl, _⟩ | ⟨m, _, rfl, _⟩ <;> rfl
    simp (disch := first | omega | (simp only [lnx]; omega)) only [stdh, stdx, ↓reduceIte, seval, hac, hcl, hp1, px1, set_low, gM, gMx, gC, gCx]
    exact copytail (P' := H1.length) (M' := H.length) (C := H.length + 1) h ⟨by simp; omega, fun m hm => by rw [at_low (by simp; omega), List.getElem?_set_ne (by omega)]; exact hkk.2 m hm⟩ at_0s ((at_low (by simp; omega)).trans ((List.getElem?_set_ne (by omega)).trans gM)) ((at_low (by simp; omega)).trans (List.getElem?_set_self (by omega))) (own_lower (own_same4 ho1 fun m h1 h2 => by simp only [List.length_append, List.length_cons, List.length_nil] at h1; rw [at_low (by simpa using h2), List.getElem?_set_ne (by omega)]) (by simp)) (by omega) (by omega) (by omega) Q hq
  · refine runD_V 60 ?_
    simp (disch := first | omega | (simp only [lnx]; omega)) only [stdh, stdx, ↓reduceIte, seval, table_Table_Copy.d0, h.p, px]
    refine callD_fn (tseqs_own (h.keeps (keeps_append H _)) _ ?_)
    intro H1 a hk1 ho1
    have hkk : Keeps H H1 := (keeps_append H _).trans hk1
    have hp1 := hkk.get h.p
    have hPl1 := (List.getElem?_eq_some_iff.1 hp1).1
    have px1 : ∀ X, (H1 ++ X)[P]? = _ := fun X => (at_low hPl1).trans hp1
    have hl1 := hk1.1
    simp only [List.length_append, List.length_cons, List.length_nil] at hl1
    have gC : H1[H.length]? = some (ABlk.cells [.nilp] T.p_table_Table) := hk1.get at_0
    have gCx : ∀ X, (H1 ++ X)[H.length]? = _ := fun X => (at_low (by omega)).trans gC
    refine ⟨by simp (disch := first | omega | (simp only [lnx]; omega)) only [stdh, stdx, ↓reduceIte, seval, h.p, px, hp1, px1], ?_⟩
    refine runD_V 5 ?_
    have hac : a.cellish = true := by rcases ho1.is with ⟨rfl, _⟩ | ⟨m, _, rfl, _⟩ <;> rfl
    have hcl : a.cells = [a] := by rcases ho1.is with ⟨rfl, _⟩ | ⟨m, _, rfl, _⟩ <;> rfl
    simp (disch := first | omega | (simp only [lnx]; omega)) only [stdh, stdx, ↓reduceIte, seval, hac, hcl, hp1, px1, set_low, gC, gCx]
    exact copytail (P' := H1.length + 1) (M' := H1.length) (C := H.length) h ⟨by simp; omega, fun m hm => by rw [at_low (by simp; omega), List.getElem?_set_ne (by omega)]; exact hkk.2 m hm⟩ at_ks at_0s ((at_low (by simp; omega)).trans (List.getElem?_set_self (by omega))) (own_lower (own_same4 ho1 fun m h1 h2 => by simp only [List.length_append, List.length_cons, List.length_nil] at h1; rw [at_low (by simpa using h2), List.getElem?_set_ne (by omega)]) (by simp)) (by omega) (by omega) (by omega) Q hq
  · refine runD_V 60 ?_
    simp (disch := first | omega | (simp only [lnx]; omega)) only [stdh, stdx, ↓reduceIte, seval, table_Table_Copy.d0, h.p, px]
    refine callD_fn (tseqs_own (h.keeps (keeps_append H _)) _ ?_)
    intro H1 a hk1 ho1
    have hkk : Keeps H H1 := (keeps_append H _).trans hk1
    have hp1 := hkk.get h.p
    have hPl1 := (List.getElem?_eq_some_iff.1 hp1).1
    have px1 : ∀ X, (H1 ++ X)[P]? = _ := fun X => (at_low hPl1).trans hp1
    have hl1 := hk1.1
    simp only [List.length_append, List.length_cons, List.length_nil] at hl1
    have gC : H1[H.length]? = some (ABlk.cells [.nilp] T.p_table_Table) := hk1.get at_0
    have gCx : ∀ X, (H1 ++ X)[H.length]? = _ := fun X => (at_low (by omega)).trans gC
    have gM : H1[H.length + 1]? = some (ABlk.map []) := hk1.get at_k
    have gMx : ∀ X, (H1 ++ X)[H.length + 1]? = _ := fun X => (at_low (by omega)).trans gM
    refine ⟨by simp (disch := first | omega | (simp only [lnx]; omega)) only [stdh, stdx, ↓reduceIte, seval, h.p, px, hp1, px1], ?_⟩
    refine runD_V 4 ?_
    have hac : a.cellish = true := by rcases ho1.is with ⟨rfl, _⟩ | ⟨m, _, rfl, _⟩ <;> rfl
    have hcl : a.cells = [a] := by rcases ho1.is with ⟨rfl, _⟩ | ⟨m, _, rfl, _⟩ <;> rfl
    simp (disch := first | omega | (simp only [lnx]; omega)) only [stdh, stdx, ↓reduceIte, seval, hac, hcl, hp1, px1, set_low, gC, gCx, gM, gMx]
    exact copytail (P' := H1.length) (M' := H.length + 1) (C := H.length) h ⟨by simp; omega, fun m hm => by rw [at_low (by simp; omega), List.getElem?_set_ne (by omega)]; exact hkk.2 m hm⟩ at_0s ((at_low (by simp; omega)).trans ((List.getElem?_set_ne (by omega)).trans gM)) ((at_low (by simp; omega)).trans (List.getElem?_set_self (by omega))) (own_lower (own_same4 ho1 fun m h1 h2 => by simp only [List.length_append, List.length_cons, List.length_nil] at h1; rw [at_low (by simpa using h2), List.getElem?_set_ne (by omega)]) (by simp)) (by omega) (by omega) (by omega) Q hq
end
end Go.Proofs.Ytamcfgdnhgmkpaa

namespace Go.Proofs.Ytamcfgdnhgmkpaa
open Go Go.Am
set_option linter.unusedSimpArgs false
set_option linter.unusedVariables false

/-- A list of slots, whoever has it. -/
structure TsV (H : AHeap) (l : AVal) (ts : Ts) : Prop where
  len : slen l = some ts.length
  view : view H l = some (ts.flatMap encT)
theorem TsV.keep {H H' : AHeap} {l : AVal} {ts : Ts} (h : TsV H l ts) (hk : Keeps H H') : TsV H' l ts := ⟨h.len, hk.view h.view⟩
theorem TsV.isSome {H : AHeap} {l : AVal} {ts : Ts} (h : TsV H l ts) : (Am.view H l).isSome = true := by rw [h.view]; rfl
theorem TsV.cell {H : AHeap} {l : AVal} {ts : Ts} (h : TsV H l ts) : l.cellish = true := by
  have := h.len
  cases l <;> simp_all [slen] <;> rfl
theorem TsV.cells {H : AHeap} {l : AVal} {ts : Ts} (h : TsV H l ts) : l.cells = [l] := by
  have := h.len
  cases l <;> simp_all [slen] <;> rfl
theorem TsV.src {H : AHeap} {l : AVal} {ts : Ts} (h : TsV H l ts) : srcLen l = some ts.length ∧ srcCells H l = some (ts.flatMap encT) := by
  have h1 := h.len
  have h2 := h.view
  cases l <;> simp_all [slen, srcLen, srcCells]
theorem tsv_recs {H : AHeap} {ts : Ts} : TsV H (recs encT false ts) ts := ⟨rfl, rfl⟩
theorem tsv_own {H : AHeap} {L n : Nat} {el : TypeId} {ts : Ts} (h : H[L]? = some (.vec (ts.flatMap encT) el 6)) (hn : n = ts.length) : TsV H (.slc L 0 n 6) ts := by
  subst hn
  refine ⟨rfl, ?_⟩
  have := ts_flat ts
  simp [view, h, content, this]
  exact List.take_of_length_le (by omega)
theorem TsV.seq {H : AHeap} {l : AVal} {ts : Ts} (h : TsV H l ts) {j : Nat} (hj : j < ts.length) : loadA H none (.sptr l (j * 6 + 2)) = some (True, .int .u32 (ts.getD j default).1.s) := by
  have := ts_seq (H := H) hj
  simp only [loadA, cellsAt, view_recs, h.view] at this ⊢
  exact this
theorem TsV.load {H : AHeap} {l : AVal} {ts : Ts} (h : TsV H l ts) {j : Nat} (hj : j < ts.length) : loadA H (some 6) (.sptr l (j * 6)) = some (True, .agg (encT (ts.getD j default))) := by
  have := ts_load (H := H) hj
  simp only [loadA, cellsAt, view_recs, h.view] at this ⊢
  exact this

section
variable {room : Nat} {ts : Ts}
theorem rdropV_loop {H0 : AHeap} {l : AVal} (hl : TsV H0 l ts) {q : Int} (hlen : ts.length ≤ 1000) (K : List AItem) (Q : AVal → AHeap → Prop) {p p4 : Nat} (hp : H0[p]? = some (.cells [.int .i64 (room : Nat), l] T.cuneiformref14_T))
    (hK : ∀ r H a, Keeps H0 H → Own 6 T.cuneiformref13_S H0.length H a (dropT ts q).length ((dropT ts q).flatMap encT) → rget r 2 = .ptr p 0 → rget r 4 = .ptr p4 0 → rget r 5 = a → Run Try.prog rdrC K r H Q) :
    ∀ (z j : Nat) (H : AHeap) (a : AVal), ts.length - j = z → j ≤ ts.length → Keeps H0 H → Own 6 T.cuneiformref13_S H0.length H a (dropT (ts.take j) q).length ((dropT (ts.take j) q).flatMap encT) →
    Rounds Try.prog rdrC cuneiformref14_Drop.b0 [.inBlock 0] K [(1, .int .u32 q), (2, .ptr p 0), (4, .ptr p4 0), (5, a), (6, .int .i64 (j : Nat))] H Q
  | z, j, H, a, h1, h2, hk, ho => by
    refine loop_V 100 cuneiformref14_Drop.b0.eq_1 ?_
    have hp' := hk.get hp
    have hlk := hl.keep hk
    have hsl := hlk.len
    have hvw := hlk.isSome
    have hcast : (j : Int) + 1 = ((j + 1 : Nat) : Int) := by omega
    by_cases hj : j < ts.length
    · have hld := hlk.seq hj
      have hld2 := hlk.load hj
      have e5 := drop_take (q := q) hj
      have hdl := dropT_len (ts.take j) q
      rw [List.length_take] at hdl
      generalize ts.getD j default = t at *
      by_cases he : t.1.s = q
      · have d : decide (t.1.s = q) = true := decide_eq_true he
        rw [if_pos he, List.append_nil] at e5
        simp (disch := first | omega | (simp only [lnx]; omega)) only [stdh, stdx, ↓reduceIte, seval, hp', hsl, hvw, hld, d]
        rw [hcast]
        refine rdropV_loop hl hlen K Q hp hK _ (j + 1) H a rfl (by omega) hk ?_
        rw [e5]; exact ho
      · have d : decide (t.1.s = q) = false := decide_eq_false he
        rw [if_neg he] at e5
        have ho2 : Own 6 T.cuneiformref13_S H0.length (H ++ [ABlk.vec (encT t) T.cuneiformref13_S 6]) a (dropT (ts.take j) q).length ((dropT (ts.take j) q).flatMap encT) := ho.keep (keeps_append _ _)
        obtain ⟨w, H3, pp, a1, hpp, ho3, hk3⟩ := Own.append ho2 (x := .slc H.length 0 1 6) (k := 1) (ys := encT t) 64 (H0 := H0) (hk.trans (keeps_append _ _)) rfl (by simp [srcCells, view, content, encT, encS]) rfl (by omega) (by omega) (by omega) rfl
        simp only [encT, encS] at a1 hld2
        simp (disch := first | omega | (simp only [lnx]; omega)) only [stdh, stdx, ↓reduceIte, seval, hp', hsl, hvw, hld, hld2, d, a1, hpp]
        rw [hcast]
        refine rdropV_loop hl hlen K Q hp hK _ (j + 1) H3 w rfl (by omega) hk3 ?_
        rw [e5, List.flatMap_append, List.length_append]
        simpa using ho3
    · simp (disch := first | omega | (simp only [lnx]; omega)) only [stdh, stdx, ↓reduceIte, seval, hp', hsl]
      have hj2 : j = ts.length := by omega
      subst hj2
      rw [List.take_length] at ho
      exact hK _ H a hk ho rfl rfl rfl
  termination_by z => z
theorem rdropV_ok (H : AHeap) {l : AVal} (hl : TsV H l ts) {q : Int} (hlen : ts.length ≤ 1000) (Q : AVal → AHeap → Prop) (hq : Q (.agg (refA room (dropT ts q))) H) : FunOK Try.prog F.cuneiformref14_Drop [.agg [.int .i64 (room : Nat), l], .int .u32 q] H Q := by
  refine fun_iced cuneiformref14_Drop_code fun _ => ?_
  refine fun_V 60 cuneiformref14_Drop_code rfl ?_
  have hlc := hl.cell
  have hlc2 := hl.cells
  simp (disch := first | omega | (simp only [lnx]; omega)) only [stdh, stdx, ↓reduceIte, seval, cuneiformref14_Drop, cuneiformref14_Drop.body, refA, hlc, hlc2]
  refine rdropV_loop (hl.keep (keeps_append _ _)) hlen _ _ (p := H.length) (p4 := H.length + 1) at_0 ?_ _ 0 _ .nils rfl (Nat.zero_le _) (Keeps.refl _) Own.nil
  intro r H3 a hk3 ho r2 r4 r5
  have g0 := hk3.get (n := H.length) at_0
  have g1 := hk3.get (n := H.length + 1) at_k
  have hl3 := hk3.1
  simp only [List.length_append, List.length_cons, List.length_nil] at hl3
  have hac : a.cellish = true := by rcases ho.is with ⟨rfl, _⟩ | ⟨m, _, rfl, _⟩ <;> rfl
  have hcl : a.cells = [a] := by rcases ho.is with ⟨rfl, _⟩ | ⟨m, _, rfl, _⟩ <;> rfl
  refine run_V0 60 ?_
  simp (disch := first | omega | (simp only [lnx]; omega)) only [stdh, stdx, ↓reduceIte, seval, r2, r4, r5, g0, g1, hac, hcl, List.getElem?_set_self, List.getElem?_set_ne]
  have hk5 : Keeps H ((H3.set H.length (.cells [.int .i64 (room : Nat), a] T.cuneiformref14_T)).set (H.length + 1) (.cells [.int .i64 (room : Nat), a] T.cuneiformref14_T)) := by
    refine ⟨by simp; omega, fun m hm => ?_⟩
    rw [List.getElem?_set_ne (by omega), List.getElem?_set_ne (by omega), hk3.2 m (by (first | omega | (simp only [lnx]; omega))), at_low hm]
  refine ice_agg [(.int .i64 (room : Nat), .int .i64 (room : Nat)), (a, .imm ((dropT ts q).flatMap encT) (dropT ts q).length false)] hk5 ?_ hq
  intro x hx
  simp only [List.mem_cons, List.not_mem_nil, or_false] at hx
  rcases hx with rfl | rfl
  · exact Fin.same trivial
  · refine Fin.own (w := 6) (el := T.cuneiformref13_S) (own_lower (own_same3 ho fun m hm h1 => ?_) (by simp)) (ts_closeds _ _)
    simp only [List.length_append, List.length_cons, List.length_nil] at h1
    rw [List.getElem?_set_ne (by omega), List.getElem?_set_ne (by omega)]
end

theorem ts_set {ts : Ts} : ∀ {j : Nat} (t : Hd × List Fr), j < ts.length → (ts.set j t).flatMap encT = (ts.flatMap encT).take (j * 6) ++ encT t ++ (ts.flatMap encT).drop (j * 6 + 6) := by
  intro j t hj
  rw [List.set_eq_take_append_cons_drop, if_pos hj, List.flatMap_append, List.flatMap_cons]
  have l1 : ((ts.take j).flatMap encT).length = j * 6 := by rw [ts_flat, List.length_take, Nat.min_eq_left (by omega)]
  have l2 : ((ts.take (j + 1)).flatMap encT).length = j * 6 + 6 := by rw [ts_flat, List.length_take, Nat.min_eq_left (by omega)]; omega
  have e1 : (ts.take j).flatMap encT ++ (ts.drop j).flatMap encT = ts.flatMap encT := by rw [← List.flatMap_append, List.take_append_drop]
  have e2 : (ts.take (j + 1)).flatMap encT ++ (ts.drop (j + 1)).flatMap encT = ts.flatMap encT := by rw [← List.flatMap_append, List.take_append_drop]
  have h1 : (ts.flatMap encT).take (j * 6) = (ts.take j).flatMap encT := by rw [← e1]; exact List.take_left' l1
  have h2 : (ts.flatMap encT).drop (j * 6 + 6) = (ts.drop (j + 1)).flatMap encT := by rw [← e2]; exact List.drop_left' l2
  rw [h1, h2, List.append_assoc]
theorem fillAt_split : ∀ (vs cs : List AVal) (off : Nat), off + vs.length ≤ cs.length → fillAt cs off vs = cs.take off ++ vs ++ cs.drop (off + vs.length)
  | [], cs, off, _ => by simp [fillAt]
  | v :: vs, cs, off, h => by
    simp only [List.length_cons] at h
    rw [fillAt, fillAt_split vs _ _ (by simp; omega)]
    have h1 : (cs.set off v).take (off + 1) = cs.take off ++ [v] := by
      rw [List.take_succ_eq_append_getElem (by simp; omega), List.getElem_set_self, List.take_set_of_le (Nat.le_refl _)]
    have h2 : (cs.set off v).drop (off + 1 + vs.length) = cs.drop (off + (vs.length + 1)) := by
      rw [List.drop_set_of_lt (by omega), show off + 1 + vs.length = off + (vs.length + 1) by omega]
    rw [h1, h2]
    simp
/-- One slot of a list changes. -/
theorem store_slot {H : AHeap} {L n j : Nat} {ts : Ts} {el : TypeId} (h : H[L]? = some (.vec (ts.flatMap encT) el 6)) (hn : n = ts.length) (hj : j < ts.length) (t : Hd × List Fr) : ∃ p, storeA H 6 (.sptr (.slc L 0 n 6) (j * 6)) (.agg (encT t)) = some (p, H.set L (.vec ((ts.set j t).flatMap encT) el 6)) ∧ p := by
  subst hn
  have hf := ts_flat ts
  have hc : AVal.cells (.agg (encT t)) = encT t := rfl
  refine ⟨_, by simp only [storeA, h, hc, Nat.zero_add]; rw [fillAt_split _ _ _ (by rw [encT_len]; omega), encT_len, ← ts_set t hj], ?_⟩
  refine ⟨by omega, by omega, by omega, encT_len t, rfl⟩
end Go.Proofs.Ytamcfgdnhgmkpaa

namespace Go.Proofs.Ytamcfgdnhgmkpaa
open Go Go.Am
set_option linter.unusedSimpArgs false
set_option linter.unusedVariables false

theorem ice_tup2agg {H H' : AHeap} {Q : AVal → AHeap → Prop} (l : List (AVal × AVal)) {os : List AVal} {e : AVal} (hos : closed H.length (.agg os)) (he : closed H.length e) (hk : Keeps H H') (hf : ∀ p ∈ l, Fin H H' p.1 p.2) (hq : Q (.tup [.agg (l.map (·.2)), .agg os, e]) H) : IceQ H Q (.tup [.agg (l.map (·.1)), .agg os, e]) H' := by
  have hf2 : ∀ p ∈ l ++ [(.agg os, .agg os), (e, e)], Fin H H' p.1 p.2 := by
    intro p hp
    simp only [List.mem_append, List.mem_cons, List.not_mem_nil, or_false] at hp
    rcases hp with hp | rfl | rfl
    · exact hf p hp
    · exact Fin.same hos
    · exact Fin.same he
  refine ⟨hk, icesOf H.length (l ++ [(.agg os, .agg os), (e, e)]), .tup [.agg (l.map (·.2)), .agg os, e], ice_many hf2, ?_, hq⟩
  rw [show mv (toF H.length [] (icesOf H.length (l ++ [(.agg os, .agg os), (e, e)]))) (.tup [.agg (l.map (·.1)), .agg os, e]) = .tup [mv (toF H.length [] (icesOf H.length (l ++ [(.agg os, .agg os), (e, e)]))) (.agg (l.map (·.1))), mv (toF H.length [] (icesOf H.length (l ++ [(.agg os, .agg os), (e, e)]))) (.agg os), mv (toF H.length [] (icesOf H.length (l ++ [(.agg os, .agg os), (e, e)]))) e] by simp only [mv, mvs]]
  refine Sees.tup (SeesL.cons ?_ (SeesL.cons (ice_fin1 hf2 (by simp)) (SeesL.cons (ice_fin1 hf2 (by simp)) SeesL.nil)))
  simp only [mv, mvs_map, List.map_map]
  refine Sees.agg ⟨by simp, fun i h1 h2 => ?_⟩
  simp only [List.getElem_map, Function.comp]
  exact ice_fin1 hf2 (List.mem_append_left _ (List.getElem_mem (by simpa using h1)))

abbrev rpC : Ctx := ⟨F.cuneiformref14_Put, 121, [.cell 4 (some 2), .cell 5 (some 4), .tmp 6], none⟩

set_option maxRecDepth 10000 in
set_option maxHeartbeats 16000000 in
theorem rptail2 {H G : AHeap} {room : Nat} {l : AVal} {ts1 : Ts} {j p12 : Nat} {h : Hd} {fs : List Fr} {f : Fr} {ev : Bool} {old : Int} (hk : Keeps H G) (hl : TsV G l ts1) (hj : j < ts1.length) (htl : ts1.length ≤ 100) (hw : SlotW h (fs ++ [f])) {rs : Regs}
    (r2 : rget rs 2 = .ptr H.length 0) (r3 : rget rs 3 = .ptr (H.length + 1) 0) (r4 : rget rs 4 = .ptr (H.length + 2) 0) (r5 : rget rs 5 = .ptr (H.length + 3) 0) (r8 : rget rs 8 = .ptr (H.length + 5) 0) (r9 : rget rs 9 = .int .i64 (j : Nat)) (r12 : rget rs 12 = .ptr p12 0)
    (g2 : G[H.length]? = some (.cells [.int .i64 (room : Nat), l] T.cuneiformref14_T)) (g3 : G[H.length + 1]? = some (.cells [.int .i64 f.h.v, .int .i64 f.h.k, .int .u32 f.h.s, .int .i64 f.h.i, .int .i64 f.h.c, nums .u8 false f.b] T.cuneiformref08_F)) (g4 : G[H.length + 2]? = some (.cells [.int .i64 0, .nils] T.cuneiformref14_T)) (g5 : G[H.length + 3]? = some (.cells [.nils, .bool false, .bool false, .int .u32 0] T.cuneiformref14_Out)) (g8 : G[H.length + 5]? = some (.cells [.nils, .bool false, .bool ev, .int .u32 old] T.cuneiformref14_Out))
    (g12 : G[p12]? = some (.cells [.int .i64 h.v, .int .i64 h.k, .int .u32 h.s, .int .i64 h.i, .int .i64 h.c, recs encFr false (fs ++ [f])] T.cuneiformref13_S)) (hp12 : H.length + 6 ≤ p12)
    (Q : AVal → AHeap → Prop)
    (hy1 : ((fs.length + 1 : Nat) : Int) ≠ h.c → Q (.tup [.agg (refA room (ts1.set j (h, fs ++ [f]))), .agg [.nils, .bool false, .bool ev, .int .u32 old], .int .i64 0]) H)
    (hy2 : ((fs.length + 1 : Nat) : Int) = h.c → Q (.tup [.agg (refA room (dropT (ts1.set j (h, fs ++ [f])) f.h.s)), .agg [nums .u8 false (bytesTo (fs ++ [f]) h.c.toNat), .bool true, .bool ev, .int .u32 old], .int .i64 0]) H) :
    Run Try.prog rpC [.code (.seq (.region [⟨(some 98), .lit T.cuneiformref13_S 6 0 [] [], none⟩,
    ⟨(some 99), .field 1 (.tmp 2), none⟩,
    ⟨(some 100), .load none (.tmp 99), none⟩,
    ⟨(some 101), .append T.cuneiformref13_S 6 64 (.tmp 98) (.tmp 100), none⟩,
    ⟨(some 102), .field 1 (.tmp 2), none⟩,
    ⟨none, .store 1 (.tmp 102) (.tmp 101), none⟩] [2, 3, 4, 5, 8, 9, 12])
  (.seq (.region [⟨(some 103), .field 1 (.tmp 2), none⟩,
    ⟨(some 104), .load none (.tmp 103), none⟩,
    ⟨(some 105), .mov (.tmp 9), none⟩,
    ⟨(some 106), .load (some 6) (.tmp 12), none⟩,
    ⟨(some 107), .idx 6 none (.tmp 104) (.tmp 105), none⟩,
    ⟨none, .store 6 (.tmp 107) (.tmp 106), none⟩] [2, 3, 4, 5, 8, 12])
  (.seq (.seq (.region [⟨(some 108), .load (some 6) (.tmp 12), none⟩,
    ⟨(some 109), .call (.const (.fn F.cuneiformref13_Full [] [])) [(.tmp 108)], none⟩] [2, 3, 4, 5, 8, 12, 109])
  (.cond (.tmp 109) (.seq (.region [⟨(some 110), .load (some 6) (.tmp 12), none⟩,
    ⟨(some 111), .call (.const (.fn F.cuneiformref13_Bytes [] [])) [(.tmp 110)], none⟩,
    ⟨(some 112), .field 0 (.tmp 8), none⟩,
    ⟨none, .store 1 (.tmp 112) (.tmp 111), none⟩,
    ⟨(some 113), .field 1 (.tmp 8), none⟩,
    ⟨none, .store 1 (.tmp 113) (.const (.bool true)), none⟩] [2, 3, 4, 5, 8])
  (.region [⟨(some 114), .load (some 2) (.tmp 2), none⟩,
    ⟨(some 115), .field 0 (.tmp 3), none⟩,
    ⟨(some 116), .field 2 (.tmp 115), none⟩,
    ⟨(some 117), .load none (.tmp 116), none⟩,
    ⟨(some 118), .call (.const (.fn F.cuneiformref14_Drop [] [])) [(.tmp 114), (.tmp 117)], none⟩,
    ⟨none, .store 2 (.tmp 2) (.tmp 118), none⟩] [2, 4, 5, 8])) (.skip)))
  (.seq (.draw cuneiformref14_Put.d3 cuneiformref14_Put.d3b [[0, 1, 2, 3, 4]] [(2, 1)] [4, 5, 6])
  (.ret)))))] rs G (IceQ H Q) := by
  have hsl := hl.len
  have hpl := (List.getElem?_eq_some_iff.1 g12).1
  have hlc := hl.cell
  have hlcs := hl.cells
  have hlx : ∀ X, TsV (G ++ X) l ts1 := fun X => hl.keep (keeps_append _ _)
  obtain ⟨p, a1, hp⟩ := Own.append3 (H := G ++ [ABlk.vec [] T.cuneiformref13_S 6]) (a := .slc G.length 0 0 6) (x := l) (w := 6) (el := T.cuneiformref13_S) (B := 0) (n := 0) (cs := []) (k := ts1.length) (ys := ts1.flatMap encT) ⟨rfl, .inr ⟨_, Nat.zero_le _, rfl, at_0⟩⟩ 64 hl.src.1 (hlx _).src.2 (ts_flat _) (by omega) (by omega) (by omega) (ts_all _)
  rw [show killA (G ++ [ABlk.vec [] T.cuneiformref13_S 6]) (.slc G.length 0 0 6) = G ++ [.dead] by simp [killA, set_0], show (G ++ [ABlk.vec [] T.cuneiformref13_S 6]).length = G.length + 1 by simp, Nat.zero_add, List.nil_append, List.append_assoc] at a1
  simp only [List.cons_append, List.nil_append] at a1
  have x2 : ∀ X, (G ++ X)[H.length]? = _ := fun X => (at_low (by omega)).trans g2
  refine run_V0 8 ?_
  simp (disch := first | omega | (simp only [lnx]; omega)) only [stdh, stdx, ↓reduceIte, seval, r2, r3, r4, r5, r8, r9, r12, g2, x2, a1, hp]
  obtain ⟨G2, hG2⟩ : ∃ G2, G2 = (G ++ [ABlk.dead, ABlk.vec (ts1.flatMap encT) T.cuneiformref13_S 6]).set H.length (.cells [.int .i64 (room : Nat), .slc (G.length + 1) 0 ts1.length 6] T.cuneiformref14_T) := ⟨_, rfl⟩
  have l2 : G2.length = G.length + 2 := by rw [hG2]; simp
  have k2 : ∀ m, m < G.length → m ≠ H.length → G2[m]? = G[m]? := fun m m1 m2 => by rw [hG2, List.getElem?_set_ne (fun e => m2 e.symm), at_low m1]
  have v2 : G2[H.length]? = some (.cells [.int .i64 (room : Nat), .slc (G.length + 1) 0 ts1.length 6] T.cuneiformref14_T) := by rw [hG2, List.getElem?_set_self (by simp; omega)]
  have vY : G2[G.length + 1]? = some (.vec (ts1.flatMap encT) T.cuneiformref13_S 6) := by rw [hG2, List.getElem?_set_ne (by omega)]; exact at_k
  rw [← hG2]
  have hK2 : ∀ m, m < H.length → G2[m]? = H[m]? := fun m hm => (k2 m (by have := hk.1; omega) (by omega)).trans (hk.2 m hm)
  have c3 := (k2 (H.length + 1) (by omega) (by omega)).trans g3
  have c4 := (k2 (H.length + 2) (by omega) (by omega)).trans g4
  have c5 := (k2 (H.length + 3) (by omega) (by omega)).trans g5
  have c8 := (k2 (H.length + 5) (by omega) (by omega)).trans g8
  have c12 := (k2 p12 (by omega) (by omega)).trans g12
  obtain ⟨Y, hY⟩ : ∃ Y, Y = G.length + 1 := ⟨_, rfl⟩
  rw [← hY] at v2 vY ⊢
  clear hG2 a1 k2
  obtain ⟨p2, st, hp2⟩ := store_slot vY rfl hj (h, fs ++ [f])
  have vY2 : (G2.set Y (.vec ((ts1.set j (h, fs ++ [f])).flatMap encT) T.cuneiformref13_S 6))[Y]? = some (.vec ((ts1.set j (h, fs ++ [f])).flatMap encT) T.cuneiformref13_S 6) := List.getElem?_set_self (by omega)
  have k3 : ∀ m, m ≠ Y → (G2.set Y (.vec ((ts1.set j (h, fs ++ [f])).flatMap encT) T.cuneiformref13_S 6))[m]? = G2[m]? := fun m hm => List.getElem?_set_ne fun e => hm e.symm
  have l3 : (G2.set Y (.vec ((ts1.set j (h, fs ++ [f])).flatMap encT) T.cuneiformref13_S 6)).length = G2.length := by simp
  simp only [encT, encS] at st
  have hvY : (view G2 (.slc Y 0 ts1.length 6)).isSome = true := (tsv_own vY rfl).isSome
  refine runL_V 10 ?_
  simp (disch := first | omega | (simp only [lnx]; omega)) only [stdh, stdx, ↓reduceIte, seval, r2, r3, r4, r5, r8, r9, r12, v2, c12, hvY, st, hp2]
  have d2 := (k3 H.length (by omega)).trans v2
  have d3 := (k3 (H.length + 1) (by omega)).trans c3
  have d4 := (k3 (H.length + 2) (by omega)).trans c4
  have d5 := (k3 (H.length + 3) (by omega)).trans c5
  have d8 := (k3 (H.length + 5) (by omega)).trans c8
  have d12 := (k3 p12 (by omega)).trans c12
  have hK3 : ∀ m, m < H.length → (G2.set Y (.vec ((ts1.set j (h, fs ++ [f])).flatMap encT) T.cuneiformref13_S 6))[m]? = H[m]? := fun m hm => (k3 m (by have := hk.1; omega)).trans (hK2 m hm)
  have hHl := hk.1
  clear k3 hvY st vY v2 c3 c4 c5 c8 c12
  generalize G2.set Y (.vec ((ts1.set j (h, fs ++ [f])).flatMap encT) T.cuneiformref13_S 6) = G3 at *
  have hn2 : ts1.length = (ts1.set j (h, fs ++ [f])).length := by simp
  have hlen2 : (ts1.set j (h, fs ++ [f])).length ≤ 1000 := by simp; omega
  obtain ⟨c, hc, hc0, hcl⟩ := hw.count
  have hfl := hw.len
  have hfs := hw.size
  have hll : (fs ++ [f]).length = fs.length + 1 := by simp
  generalize ts1.set j (h, fs ++ [f]) = ts2 at *
  refine run_V0 60 ?_
  simp (disch := first | omega | (simp only [lnx]; omega)) only [stdh, stdx, ↓reduceIte, seval, d2, d3, d4, d5, d8, d12]
  refine callK_fn (rfull_ok (h := h) (fs := fs ++ [f]) _ (by omega) (by omega) _ ?_)
  refine runL_V 60 ?_
  by_cases hfull : ((fs.length + 1 : Nat) : Int) = h.c
  · have dd : decide (((fs ++ [f]).length : Int) = h.c) = true := decide_eq_true (by rw [hll]; exact hfull)
    simp (disch := first | omega | (simp only [lnx]; omega)) only [stdh, stdx, ↓reduceIte, seval, dd, d2, d3, d4, d5, d8, d12]
    refine callK_fn (rbytes_ok (h := h) (fs := fs ++ [f]) _ hc (by omega) (by omega) hfs _ ?_)
    refine runL_V 60 ?_
    simp (disch := first | omega | (simp only [lnx]; omega)) only [stdh, stdx, ↓reduceIte, seval, d2, d3, d4, d5, d8, d12, List.getElem?_set_ne, List.getElem?_set_self]
    have hct : h.c.toNat = c := by omega
    rw [hct] at hy2
    have k4 : ∀ b1 b2 m, m ≠ H.length + 5 → ((G3.set (H.length + 5) b1).set (H.length + 5) b2)[m]? = G3[m]? := fun b1 b2 m hm => by rw [List.getElem?_set_ne (fun e => hm e.symm), List.getElem?_set_ne (fun e => hm e.symm)]
    have v8 : ∀ b1 b2, ((G3.set (H.length + 5) b1).set (H.length + 5) b2)[H.length + 5]? = some b2 := fun b1 b2 => List.getElem?_set_self (by simp; omega)
    have l4 : ∀ b1 b2, ((G3.set (H.length + 5) b1).set (H.length + 5) b2).length = G3.length := fun b1 b2 => by simp
    obtain ⟨G4, hG4⟩ : ∃ G4, G4 = (G3.set (H.length + 5) (.cells [nums .u8 false (bytesTo (fs ++ [f]) c), .bool false, .bool ev, .int .u32 old] T.cuneiformref14_Out)).set (H.length + 5) (.cells [nums .u8 false (bytesTo (fs ++ [f]) c), .bool true, .bool ev, .int .u32 old] T.cuneiformref14_Out) := ⟨_, rfl⟩
    have m4 : ∀ m, m ≠ H.length + 5 → G4[m]? = G3[m]? := by rw [hG4]; exact k4 _ _
    have e8 : G4[H.length + 5]? = some (.cells [nums .u8 false (bytesTo (fs ++ [f]) c), .bool true, .bool ev, .int .u32 old] T.cuneiformref14_Out) := by rw [hG4]; exact v8 _ _
    have n4 : G4.length = G3.length := by rw [hG4]; exact l4 _ _
    rw [← hG4]
    clear hG4 k4 v8 l4
    have hTY : TsV G4 (.slc Y 0 ts1.length 6) ts2 := tsv_own ((m4 Y (by omega)).trans vY2) hn2
    refine callK_fn (rdropV_ok (room := room) _ hTY hlen2 _ ?_)
    refine runL_V 60 ?_
    have e2 := (m4 H.length (by omega)).trans d2
    have e4 := (m4 (H.length + 2) (by omega)).trans d4
    have e5 := (m4 (H.length + 3) (by omega)).trans d5
    have hmc : (recs encT false (dropT ts2 f.h.s)).cellish = true := rfl
    simp (disch := first | omega | (simp only [lnx]; omega)) only [stdh, stdx, ↓reduceIte, seval, refA, e2, e4, e5, e8, cuneiformref14_Put.d3, List.getElem?_set_ne, List.getElem?_set_self]
    refine ice_keeps ⟨by simp; omega, fun m hm => ?_⟩ ?_ (hy2 hfull)
    · rw [List.getElem?_set_ne (by omega), List.getElem?_set_ne (by omega), List.getElem?_set_ne (by omega), m4 m (by omega), hK3 m hm]
    · simp only [refA, closed, closeds, true_and, and_true]
      exact ⟨ts_closeds _ _, closed_nums _ _ _⟩
  · have dd : decide (((fs ++ [f]).length : Int) = h.c) = false := decide_eq_false (by rw [hll]; exact hfull)
    simp (disch := first | omega | (simp only [lnx]; omega)) only [stdh, stdx, ↓reduceIte, seval, dd, d2, d3, d4, d5, d8, d12, cuneiformref14_Put.d3, List.getElem?_set_ne, List.getElem?_set_self]
    have hres := hy1 hfull
    rw [refA, recs, ← hn2] at hres
    refine ice_tup2agg [(.int .i64 (room : Nat), .int .i64 (room : Nat)), (.slc Y 0 ts1.length 6, .imm (ts2.flatMap encT) ts1.length false)] (by simp [closed, closeds]) trivial ⟨by simp; omega, fun m hm => by rw [List.getElem?_set_ne (by omega), List.getElem?_set_ne (by omega)]; exact hK3 m hm⟩ ?_ hres
    intro x hx
    simp only [List.mem_cons, List.not_mem_nil, or_false] at hx
    rcases hx with rfl | rfl
    · exact Fin.same trivial
    · refine Fin.own (w := 6) (el := T.cuneiformref13_S) ⟨by rw [ts_flat, hn2], .inr ⟨Y, by omega, rfl, ?_⟩⟩ (ts_closeds _ _)
      rw [List.getElem?_set_ne (by omega), List.getElem?_set_ne (by omega)]; exact vY2

set_option maxRecDepth 10000 in
set_option maxHeartbeats 16000000 in
theorem rptail {H G : AHeap} {room : Nat} {l : AVal} {ts0 ts1 : Ts} {j : Nat} {h : Hd} {fs : List Fr} {f : Fr} {ev : Bool} {old : Int} (hk : Keeps H G) (hl : TsV G l ts1) (hj : j < ts1.length) (htl : ts1.length ≤ 100) (ht : ts1.getD j default = (h, fs)) (hw : SlotW h fs) (hfl : f.b.length ≤ 1000) {rs : Regs}
    (r2 : rget rs 2 = .ptr H.length 0) (r3 : rget rs 3 = .ptr (H.length + 1) 0) (r4 : rget rs 4 = .ptr (H.length + 2) 0) (r5 : rget rs 5 = .ptr (H.length + 3) 0) (r7 : rget rs 7 = .ptr (H.length + 4) 0) (r8 : rget rs 8 = .ptr (H.length + 5) 0) (r9 : rget rs 9 = .int .i64 (j : Nat))
    (g2 : G[H.length]? = some (.cells [.int .i64 (room : Nat), l] T.cuneiformref14_T)) (g3 : G[H.length + 1]? = some (.cells [.int .i64 f.h.v, .int .i64 f.h.k, .int .u32 f.h.s, .int .i64 f.h.i, .int .i64 f.h.c, nums .u8 false f.b] T.cuneiformref08_F)) (g4 : G[H.length + 2]? = some (.cells [.int .i64 0, .nils] T.cuneiformref14_T)) (g5 : G[H.length + 3]? = some (.cells [.nils, .bool false, .bool false, .int .u32 0] T.cuneiformref14_Out)) (g7 : G[H.length + 4]? = some (.cells [.int .i64 (room : Nat), recs encT false ts0] T.cuneiformref14_T)) (g8 : G[H.length + 5]? = some (.cells [.nils, .bool false, .bool ev, .int .u32 old] T.cuneiformref14_Out))
    (Q : AVal → AHeap → Prop) (hno : putE h fs f ≠ 0 → Q (.tup [.agg (refA room ts0), .agg [.nils, .bool false, .bool false, .int .u32 0], .int .i64 (putE h fs f : Nat)]) H)
    (hy1 : putE h fs f = 0 → ((fs.length + 1 : Nat) : Int) ≠ h.c → Q (.tup [.agg (refA room (ts1.set j (h, fs ++ [f]))), .agg [.nils, .bool false, .bool ev, .int .u32 old], .int .i64 0]) H)
    (hy2 : putE h fs f = 0 → ((fs.length + 1 : Nat) : Int) = h.c → Q (.tup [.agg (refA room (dropT (ts1.set j (h, fs ++ [f])) f.h.s)), .agg [nums .u8 false (bytesTo (fs ++ [f]) h.c.toNat), .bool true, .bool ev, .int .u32 old], .int .i64 0]) H) :
    Run Try.prog rpC [.code (.seq (.draw cuneiformref14_Put.d2 cuneiformref14_Put.d2b [[0, 1, 2, 3, 4, 5, 6, 7, 8, 9, 10, 11, 12], [0, 1, 2, 3, 4, 5, 10, 6, 7, 8, 9, 11, 12]] [(10, 1), (10, 3), (10, 4), (10, 5)] [2, 3, 4, 5, 7, 8, 9, 12, 13])
  (.seq (.seq (.region [⟨(some 93), .mov (.tmp 13), none⟩,
    ⟨(some 94), .bin .neq (.tmp 93) (.const (.int .i64 0)), none⟩] [2, 3, 4, 5, 7, 8, 9, 12, 13, 94])
  (.cond (.tmp 94) (.seq (.region [⟨(some 95), .load (some 2) (.tmp 7), none⟩,
    ⟨(some 96), .build [.nils, (.bool false), (.bool false), (.int .u32 0)] [], none⟩,
    ⟨(some 97), .mov (.tmp 13), none⟩,
    ⟨none, .store 2 (.tmp 4) (.tmp 95), none⟩,
    ⟨none, .store 4 (.tmp 5) (.tmp 96), none⟩,
    ⟨(some 6), .mov (.tmp 97), none⟩] [4, 5, 6])
  (.ret)) (.skip)))
  (.seq (.region [⟨(some 98), .lit T.cuneiformref13_S 6 0 [] [], none⟩,
    ⟨(some 99), .field 1 (.tmp 2), none⟩,
    ⟨(some 100), .load none (.tmp 99), none⟩,
    ⟨(some 101), .append T.cuneiformref13_S 6 64 (.tmp 98) (.tmp 100), none⟩,
    ⟨(some 102), .field 1 (.tmp 2), none⟩,
    ⟨none, .store 1 (.tmp 102) (.tmp 101), none⟩] [2, 3, 4, 5, 8, 9, 12])
  (.seq (.region [⟨(some 103), .field 1 (.tmp 2), none⟩,
    ⟨(some 104), .load none (.tmp 103), none⟩,
    ⟨(some 105), .mov (.tmp 9), none⟩,
    ⟨(some 106), .load (some 6) (.tmp 12), none⟩,
    ⟨(some 107), .idx 6 none (.tmp 104) (.tmp 105), none⟩,
    ⟨none, .store 6 (.tmp 107) (.tmp 106), none⟩] [2, 3, 4, 5, 8, 12])
  (.seq (.seq (.region [⟨(some 108), .load (some 6) (.tmp 12), none⟩,
    ⟨(some 109), .call (.const (.fn F.cuneiformref13_Full [] [])) [(.tmp 108)], none⟩] [2, 3, 4, 5, 8, 12, 109])
  (.cond (.tmp 109) (.seq (.region [⟨(some 110), .load (some 6) (.tmp 12), none⟩,
    ⟨(some 111), .call (.const (.fn F.cuneiformref13_Bytes [] [])) [(.tmp 110)], none⟩,
    ⟨(some 112), .field 0 (.tmp 8), none⟩,
    ⟨none, .store 1 (.tmp 112) (.tmp 111), none⟩,
    ⟨(some 113), .field 1 (.tmp 8), none⟩,
    ⟨none, .store 1 (.tmp 113) (.const (.bool true)), none⟩] [2, 3, 4, 5, 8])
  (.region [⟨(some 114), .load (some 2) (.tmp 2), none⟩,
    ⟨(some 115), .field 0 (.tmp 3), none⟩,
    ⟨(some 116), .field 2 (.tmp 115), none⟩,
    ⟨(some 117), .load none (.tmp 116), none⟩,
    ⟨(some 118), .call (.const (.fn F.cuneiformref14_Drop [] [])) [(.tmp 114), (.tmp 117)], none⟩,
    ⟨none, .store 2 (.tmp 2) (.tmp 118), none⟩] [2, 4, 5, 8])) (.skip)))
  (.seq (.draw cuneiformref14_Put.d3 cuneiformref14_Put.d3b [[0, 1, 2, 3, 4]] [(2, 1)] [4, 5, 6])
  (.ret)))))))] rs G (IceQ H Q) := by
  have hS := hl.load hj
  rw [ht] at hS
  have hSe : encT (h, fs) = encS h fs := rfl
  rw [hSe] at hS
  have hvw := hl.isSome
  have hsl := hl.len
  have hGl := (List.getElem?_eq_some_iff.1 g8).1
  have x2 : ∀ X, (G ++ X)[H.length]? = _ := fun X => (at_low (by omega)).trans g2
  have x3 : ∀ X, (G ++ X)[H.length + 1]? = _ := fun X => (at_low (by omega)).trans g3
  have x4 : ∀ X, (G ++ X)[H.length + 2]? = _ := fun X => (at_low (by omega)).trans g4
  have x5 : ∀ X, (G ++ X)[H.length + 3]? = _ := fun X => (at_low (by omega)).trans g5
  have x7 : ∀ X, (G ++ X)[H.length + 4]? = _ := fun X => (at_low (by omega)).trans g7
  have x8 : ∀ X, (G ++ X)[H.length + 5]? = _ := fun X => (at_low (by omega)).trans g8
  have hlx : ∀ X, TsV (G ++ X) l ts1 := fun X => hl.keep (keeps_append _ _)
  have hSx : ∀ X, loadA (G ++ X) (some 6) (.sptr l (j * 6)) = some (True, .agg (encS h fs)) := fun X => by
    have := (hlx X).load hj
    rw [ht] at this
    exact this
  have hvx : ∀ X, (view (G ++ X) l).isSome = true := fun X => (hlx X).isSome
  have hSn : (encS h (putFs h fs f)).length = 6 := rfl
  refine run_V0 2 ?_
  simp (disch := first | omega | (simp only [lnx]; omega)) only [stdh, stdx, ↓reduceIte, seval, cuneiformref14_Put.d2]
  intro s hs
  simp only [List.mem_cons, List.not_mem_nil, or_false] at hs
  rcases hs with rfl | rfl
  · refine runD_V 60 ?_
    simp (disch := first | omega | (simp only [lnx]; omega)) only [stdh, stdx, ↓reduceIte, seval, r2, r3, r4, r5, r7, r8, r9, g2, g3, x2, x3, hS, hSx, hvw, hvx, hsl]
    refine callD_fn (rput_ok _ f hw hfl _ ?_)
    refine ⟨by simp (disch := first | omega | (simp only [lnx]; omega)) only [stdh, stdx, ↓reduceIte, seval, r2, r3, r4, r5, r7, r8, r9, g2, g3, x2, x3, hS, hSx, hvw, hvx, hsl], ?_⟩
    by_cases he : putE h fs f = 0
    case neg =>
      have d : decide ((putE h fs f : Int) = 0) = false := decide_eq_false (by omega)
      refine runD_V 60 ?_
      simp (disch := first | omega | (simp only [lnx]; omega)) only [stdh, stdx, ↓reduceIte, seval, r2, r3, r4, r5, r7, r8, r9, g2, g3, x2, x3, x4, x5, x7, hS, hSx, hvw, hvx, hsl, encS, d, List.getElem?_set_ne, List.getElem?_set_self, set_low, List.getElem?_append_left, g4, g5, g7]
      refine ice_keeps ⟨by simp; have := hk.1; omega, fun m hm => ?_⟩ (by simp only [closed, closeds, true_and, and_true]; exact ts_closeds _ _) (hno he)
      rw [at_low (by simp; omega), List.getElem?_set_ne (by omega), List.getElem?_set_ne (by omega)]
      exact hk.2 m hm
    rw [he]
    have hp : putFs h fs f = fs ++ [f] := by rw [putFs, if_pos he]
    rw [hp]
    have hw' := hw.put f
    rw [hp] at hw'
    refine runD_V 15 ?_
    simp (disch := first | omega | (simp only [lnx]; omega)) only [stdh, stdx, ↓reduceIte, seval, r2, r3, r4, r5, r7, r8, r9, g2, g3, x2, x3, x4, x5, x7, hS, hSx, hvw, hvx, hsl, encS, List.getElem?_set_ne, List.getElem?_set_self, set_low]
    exact rptail2 (f := f) (p12 := G.length) (G := G ++ [ABlk.cells [.int .i64 h.v, .int .i64 h.k, .int .u32 h.s, .int .i64 h.i, .int .i64 h.c, recs encFr false (fs ++ [f])] T.cuneiformref13_S]) (hk.trans (keeps_append _ _)) (hlx _) hj htl hw' rfl rfl rfl rfl rfl rfl rfl (x2 _) (x3 _) (x4 _) (x5 _) (x8 _) at_0 (by omega) Q (hy1 he) (hy2 he)
  · refine runD_V 60 ?_
    simp (disch := first | omega | (simp only [lnx]; omega)) only [stdh, stdx, ↓reduceIte, seval, r2, r3, r4, r5, r7, r8, r9, g2, g3, x2, x3, hS, hSx, hvw, hvx, hsl]
    refine callD_fn (rput_ok _ f hw hfl _ ?_)
    refine ⟨by simp (disch := first | omega | (simp only [lnx]; omega)) only [stdh, stdx, ↓reduceIte, seval, r2, r3, r4, r5, r7, r8, r9, g2, g3, x2, x3, hS, hSx, hvw, hvx, hsl], ?_⟩
    by_cases he : putE h fs f = 0
    case neg =>
      have d : decide ((putE h fs f : Int) = 0) = false := decide_eq_false (by omega)
      refine runD_V 60 ?_
      simp (disch := first | omega | (simp only [lnx]; omega)) only [stdh, stdx, ↓reduceIte, seval, r2, r3, r4, r5, r7, r8, r9, g2, g3, x2, x3, x4, x5, x7, hS, hSx, hvw, hvx, hsl, encS, d, List.getElem?_set_ne, List.getElem?_set_self, set_low, List.getElem?_append_left, g4, g5, g7]
      refine ice_keeps ⟨by simp; have := hk.1; omega, fun m hm => ?_⟩ (by simp only [closed, closeds, true_and, and_true]; exact ts_closeds _ _) (hno he)
      rw [at_low (by simp; omega), List.getElem?_set_ne (by omega), List.getElem?_set_ne (by omega)]
      exact hk.2 m hm
    rw [he]
    have hp : putFs h fs f = fs ++ [f] := by rw [putFs, if_pos he]
    rw [hp]
    have hw' := hw.put f
    rw [hp] at hw'
    refine runD_V 14 ?_
    simp (disch := first | omega | (simp only [lnx]; omega)) only [stdh, stdx, ↓reduceIte, seval, r2, r3, r4, r5, r7, r8, r9, g2, g3, x2, x3, x4, x5, x7, hS, hSx, hvw, hvx, hsl, encS, List.getElem?_set_ne, List.getElem?_set_self, set_low]
    exact rptail2 (f := f) (p12 := G.length) (G := G ++ [ABlk.cells [.int .i64 h.v, .int .i64 h.k, .int .u32 h.s, .int .i64 h.i, .int .i64 h.c, recs encFr false (fs ++ [f])] T.cuneiformref13_S]) (hk.trans (keeps_append _ _)) (hlx _) hj htl hw' rfl rfl rfl rfl rfl rfl rfl (x2 _) (x3 _) (x4 _) (x5 _) (x8 _) at_0 (by omega) Q (hy1 he) (hy2 he)
set_option linter.unusedSimpArgs false
set_option linter.unusedVariables false

/-! A list of slots, at one of them. -/
section
variable {a b : Ts} {t : Hd × List Fr} {q : Int}
theorem tnodup_ne (h : (seqsT (a ++ t :: b)).Nodup) : ∀ y, y ∈ a ∨ y ∈ b → y.1.s ≠ t.1.s := by
  unfold seqsT at h
  rw [List.map_append, List.map_cons, List.nodup_append] at h
  obtain ⟨h1, h2, h3⟩ := h
  rintro y (hy | hy)
  · exact h3 _ (List.mem_map.2 ⟨y, hy, rfl⟩) _ (by simp)
  · intro e
    exact (List.nodup_cons.1 h2).1 (e ▸ List.mem_map.2 ⟨y, hy, rfl⟩)
theorem tgetT (h : (seqsT (a ++ t :: b)).Nodup) (hx : t.1.s = q) : getT (a ++ t :: b) q = t := by
  subst hx
  have hn := tnodup_ne h
  unfold getT
  rw [List.find?_append, List.find?_eq_none.2 (fun y hy => by simpa using hn y (.inl hy))]
  simp
theorem tdropT (h : (seqsT (a ++ t :: b)).Nodup) (hx : t.1.s = q) (t' : Hd × List Fr) (ht' : t'.1.s = q) : dropT (a ++ t' :: b) q = a ++ b := by
  subst hx
  have hn := tnodup_ne h
  unfold dropT
  rw [List.filter_append, List.filter_cons]
  rw [List.filter_eq_self.2 (fun y hy => by simpa using hn y (.inl hy)), List.filter_eq_self.2 (fun y hy => by simpa using hn y (.inr hy))]
  simp [ht']
theorem tupdT (h : (seqsT (a ++ t :: b)).Nodup) (hx : t.1.s = q) (fs : List Fr) : updTs (a ++ t :: b) q fs = a ++ (t.1, fs) :: b := by
  subst hx
  have hn := tnodup_ne h
  unfold updTs
  rw [List.map_append, List.map_cons]
  congr 1
  · rw [List.map_congr_left (g := id) (fun y hy => by simp [hn y (.inl hy)]), List.map_id]
  · congr 1
    · simp
    · rw [List.map_congr_left (g := id) (fun y hy => by simp [hn y (.inr hy)]), List.map_id]
end
theorem ts_split {ts : Ts} {j : Nat} (hj : j < ts.length) : ∃ a b, ts = a ++ ts.getD j default :: b ∧ a.length = j := by
  refine ⟨ts.take j, ts.drop (j + 1), ?_, by simp; omega⟩
  rw [show ts.getD j default = ts[j] by simp [List.getD_eq_getElem?_getD, hj]]
  rw [← List.drop_eq_getElem_cons hj, List.take_append_drop]

/-- What taking a frame makes, told by the place. -/
theorem takeT_at {ts : Ts} {j : Nat} {h : Hd} {fs : List Fr} {f : Fr} {o : OutT} (hnd : (seqsT ts).Nodup) (hj : j < ts.length) (ht : ts.getD j default = (h, fs)) (hs : h.s = f.h.s) :
    takeT ts o f = if putE h fs f ≠ 0 then (ts, {}, putE h fs f) else if ((fs.length + 1 : Nat) : Int) = h.c then (dropT (ts.set j (h, fs ++ [f])) f.h.s, { o with body := bytesTo (fs ++ [f]) h.c.toNat, whole := true }, 0) else (ts.set j (h, fs ++ [f]), o, 0) := by
  obtain ⟨a, b, e, ha⟩ := ts_split hj
  rw [ht] at e
  subst e
  have hset : (a ++ (h, fs) :: b).set j (h, fs ++ [f]) = a ++ (h, fs ++ [f]) :: b := by
    rw [← ha, List.set_append_right _ _ (Nat.le_refl _), Nat.sub_self]; rfl
  unfold takeT
  rw [tgetT hnd hs, hset, tdropT hnd hs (h, fs ++ [f]) hs, tupdT hnd hs]
  by_cases he : putE h fs f ≠ 0
  · rw [if_pos he, if_pos he]
  · rw [if_neg he, if_neg he]
    by_cases hc : ((fs.length + 1 : Nat) : Int) = h.c
    · rw [if_pos hc, if_pos hc]
      rw [tdropT hnd hs (h, fs) hs]
    · rw [if_neg hc, if_neg hc]

theorem outs_ok (H : AHeap) (o : OutT) (hb : o.whole = true → o.body.length ≤ 1000000) (Q : AVal → AHeap → Prop) (hq : Q (.bool true) H) : FunOK Try.prog F.cuneiformlaw14_Outs [.agg (encOut o), .agg (encOut o)] H Q := by
  obtain ⟨body, whole, ev, old⟩ := o
  refine fun_iced cuneiformlaw14_Outs_code fun _ => ?_
  refine fun_V 60 cuneiformlaw14_Outs_code rfl ?_
  cases whole
  · simp (disch := first | omega | (simp only [lnx]; omega)) only [stdh, stdx, ↓reduceIte, seval, cuneiformlaw14_Outs, cuneiformlaw14_Outs.body, encOut]
    refine callK_fn (same_ok (xs := []) (ys := []) _ ⟨rfl, rfl, fun _ _ _ _ h => by cases h⟩ ⟨rfl, rfl, fun _ _ _ _ h => by cases h⟩ (by simp) _ ?_)
    rw [decide_eq_true rfl]
    refine runL_V 60 ?_
    simp (disch := first | omega | (simp only [lnx]; omega)) only [stdh, stdx, ↓reduceIte, seval, eqA]
    exact ice_none trivial hq
  · simp (disch := first | omega | (simp only [lnx]; omega)) only [stdh, stdx, ↓reduceIte, seval, cuneiformlaw14_Outs, cuneiformlaw14_Outs.body, encOut]
    refine callK_fn (same_ok _ (nums_nats _ _ _ _) (nums_nats _ _ _ _) (by have := hb rfl; simp only at this; omega) _ ?_)
    rw [decide_eq_true rfl]
    refine runL_V 60 ?_
    simp (disch := first | omega | (simp only [lnx]; omega)) only [stdh, stdx, ↓reduceIte, seval, eqA]
    exact ice_none trivial hq

theorem app_el13 {H L : AHeap} {m n k : Nat} {cs ys : List AVal} {x : AVal} (hb : (H ++ L)[m]? = some (.vec cs T.cuneiformref13_S 6)) (hcs : cs.length = n * 6) (h1 : srcLen x = some k) (h2 : srcCells (H ++ L) x = some ys) (hy : ys.length = k * 6) (hl : n + k ≤ 10000) (hc : ys.all AVal.cellish = true) :
    ∃ P, appendA (H ++ L) T.cuneiformref13_S 6 64 (.slc m 0 n 6) x = some (P, .slc (H.length + L.length) 0 (n + k) 6, (H ++ L).set m .dead ++ [.vec (cs ++ ys) T.cuneiformref13_S 6]) ∧ P := by
  refine ⟨_, by simp only [appendA, h1, h2, hb, List.length_append]; rfl, ?_⟩
  exact ⟨hy, by omega, by omega, by omega, trivial, trivial, trivial, trivial, hcs, hc⟩

set_option maxRecDepth 10000 in
set_option maxHeartbeats 16000000 in
theorem rpadd {H : AHeap} {room : Nat} {ts0 ts1 : Ts} {f : Fr} {ev : Bool} {old : Int} (htl : ts1.length ≤ 50) (hc : checkOf f.h = 0) (hb : f.b ≠ []) (h192 : f.b.length ≤ 192) (hnd : (seqsT (ts1 ++ [({ f.h with i := 0 }, [])])).Nodup) {rs : Regs}
    (r2 : rget rs 2 = .ptr H.length 0) (r3 : rget rs 3 = .ptr (H.length + 1) 0) (r4 : rget rs 4 = .ptr (H.length + 2) 0) (r5 : rget rs 5 = .ptr (H.length + 3) 0) (r7 : rget rs 7 = .ptr (H.length + 4) 0) (r8 : rget rs 8 = .ptr (H.length + 5) 0)
    (Q : AVal → AHeap → Prop) (hq : Q (.tup [.agg (refA room (takeT (ts1 ++ [({ f.h with i := 0 }, [])]) { ev := ev, old := old } f).1), .agg (encOut (takeT (ts1 ++ [({ f.h with i := 0 }, [])]) { ev := ev, old := old } f).2.1), .int .i64 ((takeT (ts1 ++ [({ f.h with i := 0 }, [])]) { ev := ev, old := old } f).2.2 : Nat)]) H) :
    Run Try.prog rpC [.code (.seq (.draw cuneiformref14_Put.d1 cuneiformref14_Put.d1b [[1, 2, 4, 5, 0, 3, 6, 7, 8, 9, 10]] [(0, 2), (0, 5), (3, 5)] [2, 3, 4, 5, 7, 8])
  (.region [⟨(some 79), .field 1 (.tmp 2), none⟩,
    ⟨(some 80), .load none (.tmp 79), none⟩,
    ⟨(some 81), .len .slice (.tmp 80), none⟩,
    ⟨(some 82), .bin .sub (.tmp 81) (.const (.int .i64 1)), none⟩,
    ⟨(some 9), .mov (.tmp 82), none⟩] [2, 3, 4, 5, 7, 8, 9])), .code (.seq (.draw cuneiformref14_Put.d2 cuneiformref14_Put.d2b [[0, 1, 2, 3, 4, 5, 6, 7, 8, 9, 10, 11, 12], [0, 1, 2, 3, 4, 5, 10, 6, 7, 8, 9, 11, 12]] [(10, 1), (10, 3), (10, 4), (10, 5)] [2, 3, 4, 5, 7, 8, 9, 12, 13])
  (.seq (.seq (.region [⟨(some 93), .mov (.tmp 13), none⟩,
    ⟨(some 94), .bin .neq (.tmp 93) (.const (.int .i64 0)), none⟩] [2, 3, 4, 5, 7, 8, 9, 12, 13, 94])
  (.cond (.tmp 94) (.seq (.region [⟨(some 95), .load (some 2) (.tmp 7), none⟩,
    ⟨(some 96), .build [.nils, (.bool false), (.bool false), (.int .u32 0)] [], none⟩,
    ⟨(some 97), .mov (.tmp 13), none⟩,
    ⟨none, .store 2 (.tmp 4) (.tmp 95), none⟩,
    ⟨none, .store 4 (.tmp 5) (.tmp 96), none⟩,
    ⟨(some 6), .mov (.tmp 97), none⟩] [4, 5, 6])
  (.ret)) (.skip)))
  (.seq (.region [⟨(some 98), .lit T.cuneiformref13_S 6 0 [] [], none⟩,
    ⟨(some 99), .field 1 (.tmp 2), none⟩,
    ⟨(some 100), .load none (.tmp 99), none⟩,
    ⟨(some 101), .append T.cuneiformref13_S 6 64 (.tmp 98) (.tmp 100), none⟩,
    ⟨(some 102), .field 1 (.tmp 2), none⟩,
    ⟨none, .store 1 (.tmp 102) (.tmp 101), none⟩] [2, 3, 4, 5, 8, 9, 12])
  (.seq (.region [⟨(some 103), .field 1 (.tmp 2), none⟩,
    ⟨(some 104), .load none (.tmp 103), none⟩,
    ⟨(some 105), .mov (.tmp 9), none⟩,
    ⟨(some 106), .load (some 6) (.tmp 12), none⟩,
    ⟨(some 107), .idx 6 none (.tmp 104) (.tmp 105), none⟩,
    ⟨none, .store 6 (.tmp 107) (.tmp 106), none⟩] [2, 3, 4, 5, 8, 12])
  (.seq (.seq (.region [⟨(some 108), .load (some 6) (.tmp 12), none⟩,
    ⟨(some 109), .call (.const (.fn F.cuneiformref13_Full [] [])) [(.tmp 108)], none⟩] [2, 3, 4, 5, 8, 12, 109])
  (.cond (.tmp 109) (.seq (.region [⟨(some 110), .load (some 6) (.tmp 12), none⟩,
    ⟨(some 111), .call (.const (.fn F.cuneiformref13_Bytes [] [])) [(.tmp 110)], none⟩,
    ⟨(some 112), .field 0 (.tmp 8), none⟩,
    ⟨none, .store 1 (.tmp 112) (.tmp 111), none⟩,
    ⟨(some 113), .field 1 (.tmp 8), none⟩,
    ⟨none, .store 1 (.tmp 113) (.const (.bool true)), none⟩] [2, 3, 4, 5, 8])
  (.region [⟨(some 114), .load (some 2) (.tmp 2), none⟩,
    ⟨(some 115), .field 0 (.tmp 3), none⟩,
    ⟨(some 116), .field 2 (.tmp 115), none⟩,
    ⟨(some 117), .load none (.tmp 116), none⟩,
    ⟨(some 118), .call (.const (.fn F.cuneiformref14_Drop [] [])) [(.tmp 114), (.tmp 117)], none⟩,
    ⟨none, .store 2 (.tmp 2) (.tmp 118), none⟩] [2, 4, 5, 8])) (.skip)))
  (.seq (.draw cuneiformref14_Put.d3 cuneiformref14_Put.d3b [[0, 1, 2, 3, 4]] [(2, 1)] [4, 5, 6])
  (.ret)))))))] rs (H ++ [.cells [.int .i64 (room : Nat), recs encT false ts1] T.cuneiformref14_T, .cells [.int .i64 f.h.v, .int .i64 f.h.k, .int .u32 f.h.s, .int .i64 f.h.i, .int .i64 f.h.c, nums .u8 false f.b] T.cuneiformref08_F, .cells [.int .i64 0, .nils] T.cuneiformref14_T, .cells [.nils, .bool false, .bool false, .int .u32 0] T.cuneiformref14_Out, .cells [.int .i64 (room : Nat), recs encT false ts0] T.cuneiformref14_T, .cells [.nils, .bool false, .bool ev, .int .u32 old] T.cuneiformref14_Out]) (IceQ H Q) := by
  have hnew : encT ({ f.h with i := 0 }, []) = [.int .i64 f.h.v, .int .i64 f.h.k, .int .u32 f.h.s, .int .i64 0, .int .i64 f.h.c, recs encFr false []] := rfl
  obtain ⟨P1, a1, p1⟩ := app_el13 (H := H) (L := [.cells [.int .i64 (room : Nat), recs encT false ts1] T.cuneiformref14_T, .cells [.int .i64 f.h.v, .int .i64 f.h.k, .int .u32 f.h.s, .int .i64 f.h.i, .int .i64 f.h.c, nums .u8 false f.b] T.cuneiformref08_F, .cells [.int .i64 0, .nils] T.cuneiformref14_T, .cells [.nils, .bool false, .bool false, .int .u32 0] T.cuneiformref14_Out, .cells [.int .i64 (room : Nat), recs encT false ts0] T.cuneiformref14_T, .cells [.nils, .bool false, .bool ev, .int .u32 old] T.cuneiformref14_Out, .vec [] T.cuneiformref13_S 6]) (m := H.length + 6) (n := 0) (cs := []) (x := recs encT false ts1) (k := ts1.length) (ys := ts1.flatMap encT) at_k rfl rfl rfl (ts_flat _) (by omega) (ts_all _)
  obtain ⟨P2, a2, p2⟩ := app_el13 (H := H) (L := [.cells [.int .i64 (room : Nat), recs encT false ts1] T.cuneiformref14_T, .cells [.int .i64 f.h.v, .int .i64 f.h.k, .int .u32 f.h.s, .int .i64 f.h.i, .int .i64 f.h.c, nums .u8 false f.b] T.cuneiformref08_F, .cells [.int .i64 0, .nils] T.cuneiformref14_T, .cells [.nils, .bool false, .bool false, .int .u32 0] T.cuneiformref14_Out, .cells [.int .i64 (room : Nat), recs encT false ts0] T.cuneiformref14_T, .cells [.nils, .bool false, .bool ev, .int .u32 old] T.cuneiformref14_Out, .dead, .vec (ts1.flatMap encT) T.cuneiformref13_S 6, .vec [.int .i64 f.h.v, .int .i64 f.h.k, .int .u32 f.h.s, .int .i64 0, .int .i64 f.h.c, recs encFr false []] T.cuneiformref13_S 6]) (m := H.length + 7) (n := ts1.length) (cs := ts1.flatMap encT) (x := .slc (H.length + 8) 0 1 6) (k := 1) (ys := [.int .i64 f.h.v, .int .i64 f.h.k, .int .u32 f.h.s, .int .i64 0, .int .i64 f.h.c, recs encFr false []]) at_k (ts_flat _) rfl (by simp [srcCells, view, content, at_k]) rfl (by omega) rfl
  simp [set_k] at a1 a2
  have hs1 : slen (recs encT false ts1) = some ts1.length := rfl
  refine run_V0 60 ?_
  simp (disch := first | omega | (simp only [lnx]; omega)) only [stdh, stdx, ↓reduceIte, seval, cuneiformref14_Put.d1, r2, r3, r4, r5, r7, r8, a1, p1, hs1]
  refine callD_fn (rnew2_ok _ f.h _ ?_)
  have hre : encS { f.h with i := 0 } [] = [.int .i64 f.h.v, .int .i64 f.h.k, .int .u32 f.h.s, .int .i64 0, .int .i64 f.h.c, recs encFr false []] := rfl
  rw [hre]
  refine ⟨by simp (disch := first | omega | (simp only [lnx]; omega)) only [stdh, stdx, ↓reduceIte, seval, r2, r3], ?_⟩
  refine runD_V 12 ?_
  simp (disch := first | omega | (simp only [lnx]; omega)) only [stdh, stdx, ↓reduceIte, seval, r2, r3, r4, r5, r7, r8, a2, p2]
  rw [show (((ts1.length + 1 : Nat) : Nat) : Int) - 1 = (ts1.length : Nat) by omega]
  have hfm : ts1.flatMap encT ++ [.int .i64 f.h.v, .int .i64 f.h.k, .int .u32 f.h.s, .int .i64 0, .int .i64 f.h.c, recs encFr false []] = (ts1 ++ [({ f.h with i := 0 }, [])]).flatMap encT := by
    rw [List.flatMap_append, List.flatMap_cons, List.flatMap_nil, List.append_nil]; rfl
  have hlen1 : ts1.length + 1 = (ts1 ++ [(({ f.h with i := 0 } : Hd), ([] : List Fr))]).length := by simp
  have hat : (ts1 ++ [(({ f.h with i := 0 } : Hd), ([] : List Fr))]).getD ts1.length default = ({ f.h with i := 0 }, []) := by simp [List.getD_eq_getElem?_getD]
  rw [hfm]
  have hp0 := (takeT_new (ts := []) (o := {}) (f := f) rfl hc hb h192).1
  have hta := takeT_at (o := { ev := ev, old := old }) (f := f) hnd (j := ts1.length) (by simp) hat rfl
  rw [hta] at hq
  have hw0 : SlotW { f.h with i := 0 } [] := slotW_new hc
  refine rptail (H := H) (ts0 := ts0) (ts1 := ts1 ++ [({ f.h with i := 0 }, [])]) (j := ts1.length) (keeps_append _ _) (tsv_own at_k hlen1) (by simp) (by simp; omega) hat hw0 (by omega) rfl rfl rfl rfl rfl rfl rfl at_0 at_k at_k at_k at_k at_k Q (fun he => absurd hp0 he) (fun he hc2 => ?_) (fun he hc2 => ?_)
  · rw [if_neg (by omega), if_neg hc2] at hq; exact hq
  · rw [if_neg (by omega), if_pos hc2] at hq; exact hq

set_option maxRecDepth 10000 in
set_option maxHeartbeats 16000000 in
theorem rput14_ok (H : AHeap) {room : Nat} {ts : Ts} (f : Fr) (hw : ∀ t ∈ ts, SlotW t.1 t.2) (hnd : (seqsT ts).Nodup) (h32 : ∀ q ∈ seqsT ts, is32 q) (his : is32 f.h.s) (hlen : ts.length ≤ room) (hroom : 1 ≤ room ∧ room ≤ 16) (hfl : f.b.length ≤ 1000) (Q : AVal → AHeap → Prop)
    (hq : Q (.tup [.agg (refA room (putT room ts f).1), .agg (encOut (putT room ts f).2.1), .int .i64 ((putT room ts f).2.2 : Nat)]) H) :
    FunOK Try.prog F.cuneiformref14_Put [.agg (refA room ts), .agg (encFr f)] H Q := by
  have hcl : closed H.length (.agg (refA room ts)) := refA_closed _ _ _
  -- refused
  have bad : ∀ (e : Nat) (H' : AHeap), Keeps H H' → putT room ts f = (ts, {}, e) → IceQ H Q (.tup [.agg [.int .i64 (room : Nat), recs encT false ts], .agg [.nils, .bool false, .bool false, .int .u32 0], .int .i64 (e : Nat)]) H' := fun e H' hk he => by
    rw [he] at hq
    exact ice_keeps hk (by simp only [closed, closeds, true_and, and_true]; exact ts_closeds _ _) hq
  have hs1 : slen (recs encT false ts) = some ts.length := rfl
  refine fun_iced cuneiformref14_Put_code fun _ => ?_
  refine fun_V 100 cuneiformref14_Put_code rfl ?_
  simp (disch := first | omega | (simp only [lnx]; omega)) only [stdh, stdx, ↓reduceIte, seval, cuneiformref14_Put, cuneiformref14_Put.body, encFr, refA]
  refine callK_fn (rcheck_ok _ f.h _ ?_)
  refine runL_V 60 ?_
  by_cases hc : checkOf f.h = 0
  case neg =>
    have d : decide ((checkOf f.h : Int) = 0) = false := decide_eq_false (by omega)
    simp (disch := first | omega | (simp only [lnx]; omega)) only [stdh, stdx, ↓reduceIte, seval, d, cuneiformref14_Put.d0]
    refine callD_fn (rcheck_ok _ f.h _ ?_)
    refine ⟨by simp (disch := first | omega | (simp only [lnx]; omega)) only [stdh, stdx, ↓reduceIte, seval], ?_⟩
    refine runD_V 60 ?_
    simp (disch := first | omega | (simp only [lnx]; omega)) only [stdh, stdx, ↓reduceIte, seval, List.getElem?_set_ne, List.getElem?_set_self]
    exact bad _ _ (keeps_append _ _) (by rw [putT, if_pos hc])
  rw [hc]
  by_cases hb : f.b = []
  · have d : decide ((f.b.length : Int) = 0) = true := decide_eq_true (by rw [hb]; rfl)
    simp (disch := first | omega | (simp only [lnx]; omega)) only [stdh, stdx, ↓reduceIte, seval, d]
    exact bad 13 _ (keeps_append _ _) (by rw [putT, if_neg (by omega), if_pos hb])
  have hbl : 0 < f.b.length := List.length_pos_iff.2 hb
  have d0 : decide ((f.b.length : Int) = 0) = false := decide_eq_false (by omega)
  simp (disch := first | omega | (simp only [lnx]; omega)) only [stdh, stdx, ↓reduceIte, seval, d0]
  refine callK_fn (rfind_ok (room := room) (ts := ts) _ (by omega) _ fun r hr => ?_)
  rcases hr with ⟨rfl, hno⟩ | ⟨j, rfl, hj, hjs, hyes⟩
  case inr =>
    have hpt : putT room ts f = takeT ts {} f := by rw [putT, if_neg (by omega), if_neg hb, if_pos hyes]
    obtain ⟨h, fs, hhf⟩ : ∃ h fs, ts.getD j default = (h, fs) := ⟨_, _, rfl⟩
    have hwj : SlotW h fs := by
      have := hw (ts.getD j default) (by rw [show ts.getD j default = ts[j] by simp [List.getD_eq_getElem?_getD, hj]]; exact List.getElem_mem hj)
      rw [hhf] at this; exact this
    have hss : h.s = f.h.s := by rw [hhf] at hjs; exact hjs
    rw [hpt, takeT_at hnd hj hhf hss] at hq
    refine runL_V 10 ?_
    simp (disch := first | omega | (simp only [lnx]; omega)) only [stdh, stdx, ↓reduceIte, seval]
    refine rptail (H := H) (ts0 := ts) (keeps_append _ _) tsv_recs hj (by omega) hhf hwj hfl rfl rfl rfl rfl rfl rfl rfl at_0 at_k at_k at_k at_k at_k Q (fun he => ?_) (fun he hc2 => ?_) (fun he hc2 => ?_)
    · rw [if_pos he] at hq; exact hq
    · rw [if_neg (by omega), if_neg hc2] at hq; exact hq
    · rw [if_neg (by omega), if_pos hc2] at hq; exact hq
  · by_cases h192 : 192 < f.b.length
    · have d1 : decide ((192 : Int) < (f.b.length : Nat)) = true := decide_eq_true (by omega)
      have d2 : decide (((f.b.length : Nat) : Int) > 192) = true := decide_eq_true (by omega)
      refine runL_V 60 ?_
      simp (disch := first | omega | (simp only [lnx]; omega)) only [stdh, stdx, ↓reduceIte, seval, d1, d2]
      exact bad 6 _ (keeps_append _ _) (by rw [putT, if_neg (by omega), if_neg hb, if_neg (by simp [hno]), if_pos h192])
    have d1 : decide ((192 : Int) < (f.b.length : Nat)) = false := decide_eq_false (by omega)
    have d2 : decide (((f.b.length : Nat) : Int) > 192) = false := decide_eq_false (by omega)
    have nodup_new : ∀ ts1 : Ts, (seqsT ts1).Nodup → hasT ts1 f.h.s = false → (seqsT (ts1 ++ [(({ f.h with i := 0 } : Hd), ([] : List Fr))])).Nodup := fun ts1 h1 h2 => by
      have e : seqsT (ts1 ++ [(({ f.h with i := 0 } : Hd), ([] : List Fr))]) = seqsT ts1 ++ [f.h.s] := by simp [seqsT]
      rw [e, List.nodup_append]
      refine ⟨h1, by simp, fun x hx y hy e2 => ?_⟩
      simp only [List.mem_singleton] at hy
      rw [e2, hy] at hx
      rw [hasT_iff.2 hx] at h2
      cases h2
    by_cases heq : ts.length = room
    · have d3 : decide ((ts.length : Int) = (room : Nat)) = true := decide_eq_true (by omega)
      refine runL_V 60 ?_
      simp (disch := first | omega | (simp only [lnx]; omega)) only [stdh, stdx, ↓reduceIte, seval, d1, d2, hs1, d3]
      refine callK_fn (rseqs_ok (room := room) (ts := ts) _ (by omega) _ ?_)
      refine runL_V 60 ?_
      simp (disch := first | omega | (simp only [lnx]; omega)) only [stdh, stdx, ↓reduceIte, seval]
      have hql : (seqsT ts).length = ts.length := by simp [seqsT]
      have hne : seqsT ts ≠ [] := fun e => by rw [e] at hql; simp at hql; omega
      refine callK_fn (rbest_ok _ h32 (by omega) (by omega) _ ?_)
      refine runL_V 60 ?_
      simp (disch := first | omega | (simp only [lnx]; omega)) only [stdh, stdx, ↓reduceIte, seval]
      refine callK_fn (raftI_ok _ his (h32 _ (oldest_mem hne)) _ ?_)
      by_cases ha : aftI f.h.s (oldest (seqsT ts)) = false
      · rw [ha]
        refine runL_V 60 ?_
        simp (disch := first | omega | (simp only [lnx]; omega)) only [stdh, stdx, ↓reduceIte, seval]
        exact bad 18 _ (keeps_append _ _) (by rw [putT, if_neg (by omega), if_neg hb, if_neg (by simp [hno]), if_neg h192, if_neg (by omega), if_pos ha])
      · have hpt : putT room ts f = takeT (dropT ts (oldest (seqsT ts)) ++ [({ f.h with i := 0 }, [])]) { ev := true, old := oldest (seqsT ts) } f := by rw [putT, if_neg (by omega), if_neg hb, if_neg (by simp [hno]), if_neg h192, if_neg (by omega), if_neg ha]
        rw [hpt] at hq
        rw [Bool.not_eq_false] at ha
        rw [ha]
        refine runL_V 60 ?_
        simp (disch := first | omega | (simp only [lnx]; omega)) only [stdh, stdx, ↓reduceIte, seval]
        refine callK_fn (rdrop_ok (room := room) (ts := ts) _ (by omega) _ ?_)
        refine runL_V 9 ?_
        simp (disch := first | omega | (simp only [lnx]; omega)) only [stdh, stdx, ↓reduceIte, seval, refA]
        have hdl := dropT_len ts (oldest (seqsT ts))
        have hdn : (seqsT (dropT ts (oldest (seqsT ts)))).Nodup := List.Sublist.nodup (List.Sublist.map _ List.filter_sublist) hnd
        exact rpadd (f := f) (ts0 := ts) (ts1 := dropT ts (oldest (seqsT ts))) (ev := true) (old := oldest (seqsT ts)) (by omega) hc hb (by omega) (nodup_new _ hdn (hasT_drop hno)) rfl rfl rfl rfl rfl rfl Q hq
    · have d3 : decide ((ts.length : Int) = (room : Nat)) = false := decide_eq_false (by omega)
      have hpt : putT room ts f = takeT (ts ++ [({ f.h with i := 0 }, [])]) {} f := by rw [putT, if_neg (by omega), if_neg hb, if_neg (by simp [hno]), if_neg h192, if_pos (by omega)]
      rw [hpt] at hq
      refine runL_V 31 ?_
      simp (disch := first | omega | (simp only [lnx]; omega)) only [stdh, stdx, ↓reduceIte, seval, d1, d2, hs1, d3]
      exact rpadd (f := f) (ts0 := ts) (ts1 := ts) (ev := false) (old := 0) (by omega) hc hb (by omega) (nodup_new _ hnd hno) rfl rfl rfl rfl rfl rfl Q hq
end Go.Proofs.Ytamcfgdnhgmkpaa
