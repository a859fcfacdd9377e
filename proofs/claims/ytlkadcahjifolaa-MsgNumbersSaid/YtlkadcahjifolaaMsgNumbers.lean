/-
  MsgNumbersSaid: whatever the message, the name and the two numbers, the law MsgNumbers returns true, and the input reads as it did. No condition. By an AI agent. No person has read it.
-/
import Derived.Test.YtlkadcahjifolaaMSGA
import Derived.Test.YtlkadcahjifolaaMSGC
import Derived.Test.YtlkadcahjifolaaAm6
import Derived.OpenShut
import Derived.Test.YtlkadcahjifolaaRows

namespace Go.Proofs.Ytlkadcahjifolaa
open Go Go.Am
set_option linter.unusedSimpArgs false
set_option linter.unusedVariables false

/-- Where the next field is that a version has. -/
def nx (l : List Fld) (v : Int) (i : Nat) : Nat := i + ((l.drop i).takeWhile fun f => decide (v < f.since)).length
def pos (l : List Fld) (v : Int) : Nat → Nat
  | 0 => 0
  | j + 1 => nx l v (pos l v j) + 1

theorem drop_get {l : List Fld} {i : Nat} (h : i < l.length) : l.drop i = l.getD i fld0 :: l.drop (i + 1) := by
  rw [List.drop_eq_getElem_cons h]; simp [h]

theorem nx_bad {l : List Fld} {v : Int} {i : Nat} (h : i < l.length) (hb : v < (l.getD i fld0).since) : nx l v i = nx l v (i + 1) := by
  unfold nx
  rw [drop_get h, List.takeWhile_cons, if_pos (by simpa using hb), List.length_cons]; omega
theorem nx_good {l : List Fld} {v : Int} {i : Nat} (h : i < l.length) (hb : ¬ v < (l.getD i fld0).since) : nx l v i = i := by
  unfold nx
  rw [drop_get h, List.takeWhile_cons, if_neg (by simpa using hb)]; rfl
theorem nx_end {l : List Fld} {v : Int} {i : Nat} (h : ¬ i < l.length) : nx l v i = i := by
  unfold nx
  rw [List.drop_eq_nil_of_le (by omega)]; rfl

theorem nx_spec {l : List Fld} {v : Int} : ∀ (m i : Nat), l.length - i = m → i ≤ l.length → nx l v i ≤ l.length ∧ (l.drop i).filter (fun f => decide (f.since ≤ v)) = (l.drop (nx l v i)).filter (fun f => decide (f.since ≤ v)) ∧ (nx l v i < l.length → (l.getD (nx l v i) fld0).since ≤ v)
  | m, i, h, hi => by
    by_cases h1 : i < l.length
    · by_cases h2 : v < (l.getD i fld0).since
      · obtain ⟨q1, q2, q3⟩ := nx_spec (l := l) (v := v) (m - 1) (i + 1) (by omega) (by omega)
        rw [nx_bad h1 h2]
        refine ⟨q1, ?_, q3⟩
        rw [drop_get h1, List.filter_cons, if_neg (by rw [decide_eq_true_eq]; omega), q2]
      · rw [nx_good h1 h2]; exact ⟨hi, rfl, fun _ => by omega⟩
    · rw [nx_end h1]; exact ⟨hi, rfl, fun h => absurd h h1⟩
  termination_by m => m
  decreasing_by omega

theorem pos_inv {k v : Int} : ∀ (j : Nat), j ≤ (versionFields k v).length → pos (fieldsOf k) v j ≤ (fieldsOf k).length ∧ ((fieldsOf k).drop (pos (fieldsOf k) v j)).filter (fun f => decide (f.since ≤ v)) = (versionFields k v).drop j
  | 0, _ => ⟨Nat.zero_le _, rfl⟩
  | j + 1, h => by
    obtain ⟨h1, h2⟩ := pos_inv (k := k) (v := v) j (by omega)
    obtain ⟨q1, q2, q3⟩ := nx_spec (l := fieldsOf k) (v := v) _ (pos (fieldsOf k) v j) rfl h1
    have hd : (versionFields k v).drop j = (versionFields k v).getD j fld0 :: (versionFields k v).drop (j + 1) := drop_get (by omega)
    rw [h2, hd] at q2
    have hlt : nx (fieldsOf k) v (pos (fieldsOf k) v j) < (fieldsOf k).length := by
      refine Classical.byContradiction fun hn => ?_
      rw [List.drop_eq_nil_of_le (Nat.le_of_not_lt hn)] at q2
      cases q2
    rw [drop_get hlt, List.filter_cons, if_pos (by simpa using q3 hlt)] at q2
    exact ⟨hlt, (List.cons.inj q2).2.symm⟩

theorem pos_at {k v : Int} {j : Nat} (h : j < (versionFields k v).length) : nx (fieldsOf k) v (pos (fieldsOf k) v j) < (fieldsOf k).length ∧ (fieldsOf k).getD (nx (fieldsOf k) v (pos (fieldsOf k) v j)) fld0 = (versionFields k v).getD j fld0 := by
  obtain ⟨h1, h2⟩ := pos_inv (k := k) (v := v) j (by omega)
  obtain ⟨q1, q2, q3⟩ := nx_spec (l := fieldsOf k) (v := v) _ (pos (fieldsOf k) v j) rfl h1
  have hd : (versionFields k v).drop j = (versionFields k v).getD j fld0 :: (versionFields k v).drop (j + 1) := drop_get h
  rw [h2, hd] at q2
  have hlt : nx (fieldsOf k) v (pos (fieldsOf k) v j) < (fieldsOf k).length := by
    refine Classical.byContradiction fun hn => ?_
    rw [List.drop_eq_nil_of_le (Nat.le_of_not_lt hn)] at q2
    cases q2
  rw [drop_get hlt, List.filter_cons, if_pos (by simpa using q3 hlt)] at q2
  exact ⟨hlt, (List.cons.inj q2).1.symm⟩

/-- Where a name's field is; the document's. -/
def findAt (l : List Fld) (name : ByteArray) : Option Nat := l.findIdx? fun f => decide (f.name = name)

abbrev rfindC : Ctx := ⟨F.cuneiformref16_Find, 20, [.tmp 4], none⟩

theorem rfind_loop {name : ByteArray} {l : List Fld} (hlen : l.length ≤ 6) (K : List AItem) (H : AHeap) (Q : AVal → AHeap → Prop)
    (hQ : ∀ r, (∀ i, i < l.length → (l.getD i fld0).name ≠ name) → Run Try.prog rfindC K r H Q) (hR : ∀ i, i < l.length → (l.getD i fld0).name = name → (∀ i', i' < i → (l.getD i' fld0).name ≠ name) → Q (.int .i64 (i : Nat)) H) :
    ∀ (m i : Nat), l.length - i = m → i ≤ l.length → (∀ i', i' < i → (l.getD i' fld0).name ≠ name) →
    Rounds Try.prog rfindC cuneiformref16_Find.b0 [.inBlock 0] K [(0, recs encF false l), (1, .str name), (5, .int .i64 (i : Nat))] H Q
  | m, i, h1, h2, h3 => by
    refine loop_V 100 cuneiformref16_Find.b0.eq_1 ?_
    by_cases hil : i < l.length
    · have hld : loadA H none (.sptr (recs encF false l) (i * 7 + 0)) = some (True, .str (l.getD i fld0).name) := load_rec1 (enc := encF) (t := false) encF_len hil (by omega)
      by_cases hs : (l.getD i fld0).name = name
      · have := hR i hil hs h3
        simp (disch := first | omega | (simp only [lnx]; omega)) only [stdh, stdx, ↓reduceIte, Nat.reduceEqDiff, Int.reduceToNat, Int.reducePow, Nat.reduceAdd, Nat.reduceLeDiff, Nat.reduceMul, Nat.reduceBEq, reduceCtorEq, hld, hs]
        exact this
      · simp (disch := first | omega | (simp only [lnx]; omega)) only [stdh, stdx, ↓reduceIte, Nat.reduceEqDiff, Int.reduceToNat, Int.reducePow, Nat.reduceAdd, Nat.reduceLeDiff, Nat.reduceMul, Nat.reduceBEq, reduceCtorEq, hld, hs]
        refine rfind_loop hlen K H Q hQ hR _ (i + 1) rfl (by omega) fun i' hi' => ?_
        by_cases he : i' = i
        · subst he; exact hs
        · exact h3 i' (by omega)
    · simp (disch := first | omega | (simp only [lnx]; omega)) only [stdh, stdx, ↓reduceIte, Nat.reduceEqDiff, Int.reduceToNat, Int.reducePow, Nat.reduceAdd, Nat.reduceLeDiff, Nat.reduceMul, Nat.reduceBEq, reduceCtorEq]
      exact hQ _ fun i' hi' => h3 i' (by omega)
  termination_by m => m

theorem rfind_ok {l : List Fld} (hlen : l.length ≤ 6) (H : AHeap) (name : ByteArray) (Q : AVal → AHeap → Prop)
    (h0 : (∀ i, i < l.length → (l.getD i fld0).name ≠ name) → Q (.int .i64 (-1)) H) (h1 : ∀ i, i < l.length → (l.getD i fld0).name = name → (∀ i', i' < i → (l.getD i' fld0).name ≠ name) → Q (.int .i64 (i : Nat)) H) :
    FunOK Try.prog F.cuneiformref16_Find [recs encF false l, .str name] H Q := by
  refine fun_V 100 cuneiformref16_Find_code rfl ?_
  simp (disch := first | omega | (simp only [lnx]; omega)) only [stdh, stdx, ↓reduceIte, Nat.reduceEqDiff, Int.reduceToNat, Int.reducePow, Nat.reduceAdd, Nat.reduceLeDiff, Nat.reduceMul, Nat.reduceBEq, reduceCtorEq, cuneiformref16_Find, cuneiformref16_Find.body]
  refine rfind_loop hlen _ H Q ?_ h1 _ 0 rfl (by omega) (by intro i' hi'; omega)
  intro r hr
  refine run_V0 100 ?_
  have := h0 hr
  simp (disch := first | omega | (simp only [lnx]; omega)) only [stdh, stdx, ↓reduceIte, Nat.reduceEqDiff, Int.reduceToNat, Int.reducePow, Nat.reduceAdd, Nat.reduceLeDiff, Nat.reduceMul, Nat.reduceBEq, reduceCtorEq]
  exact this
end Go.Proofs.Ytlkadcahjifolaa

namespace Go.Proofs.Ytlkadcahjifolaa
open Go Go.Am
set_option linter.unusedSimpArgs false
set_option linter.unusedVariables false

def getM (m : Mg) (name : ByteArray) : Int × Bool := match findF m.k name with
  | some f => if f.place < 0 then (0, false) else (m.num f.place, true)
  | none => (0, false)
def setM (m : Mg) (name : ByteArray) (v : Int) : Mg × Bool := match findF m.k name with
  | some f => if f.place < 0 then (m, false) else (m.put f.place v, true)
  | none => (m, false)

theorem findF_mem {k : Int} {name : ByteArray} {f : Fld} (h : findF k name = some f) : f ∈ fieldsOf k := List.mem_of_find?_eq_some h

set_option maxHeartbeats 2000000 in
theorem get_ok (H : AHeap) (m : Mg) (name : ByteArray) (Q : AVal → AHeap → Prop) (h : Q (.tup [.int .i64 (getM m name).1, .bool (getM m name).2]) H) : FunOK Try.prog F.msg_Get [.agg (encM m), .str name] H Q := by
  refine fun_iced msg_Get_code fun _ => ?_
  refine fun_V 100 msg_Get_code rfl ?_
  simp (disch := first | omega | (simp only [lnx]; omega)) only [stdh, stdx, ↓reduceIte, Nat.reduceEqDiff, Int.reduceToNat, Int.reducePow, Nat.reduceAdd, Nat.reduceLeDiff, Nat.reduceMul, Nat.reduceBEq, reduceCtorEq, msg_Get, msg_Get.body, encM]
  refine callK_fn (ffind_ok _ _ _ _ ?_)
  refine runL_V 100 ?_
  unfold getM at h
  cases hf : findF m.k name with
  | none =>
    rw [hf] at h
    simp (disch := first | omega | (simp only [lnx]; omega)) only [stdh, stdx, ↓reduceIte, Nat.reduceEqDiff, Int.reduceToNat, Int.reducePow, Nat.reduceAdd, Nat.reduceLeDiff, Nat.reduceMul, Nat.reduceBEq, reduceCtorEq, Option.getD_none, Option.isSome_none, encF, fld0]
    exact ice_none ⟨trivial, trivial, trivial⟩ h
  | some f =>
    rw [hf] at h
    obtain ⟨_, p | p | p | p | p | p | p⟩ := fieldsOf_ok2 f (findF_mem hf)
    all_goals
      simp only [p, Int.reduceNeg, Int.reduceLT, if_true, if_false, Mg.num, Int.reduceEq] at h
      simp (disch := first | omega | (simp only [lnx]; omega)) only [stdh, stdx, ↓reduceIte, Nat.reduceEqDiff, Int.reduceToNat, Int.reducePow, Nat.reduceAdd, Nat.reduceLeDiff, Nat.reduceMul, Nat.reduceBEq, reduceCtorEq, Option.getD_some, Option.isSome_some, encF, p]
      exact ice_none ⟨trivial, trivial, trivial⟩ h

set_option maxHeartbeats 2000000 in
theorem set_ok (H : AHeap) (m : Mg) (hm : m.small) (name : ByteArray) (v : Int) (Q : AVal → AHeap → Prop) (h : Q (.tup [.agg (encM (setM m name v).1), .bool (setM m name v).2]) H) : FunOK Try.prog F.msg_Set [.agg (encM m), .str name, .int .i64 v] H Q := by
  refine fun_iced msg_Set_code fun _ => ?_
  refine fun_V 100 msg_Set_code rfl ?_
  simp (disch := first | omega | (simp only [lnx]; omega)) only [stdh, stdx, ↓reduceIte, Nat.reduceEqDiff, Int.reduceToNat, Int.reducePow, Nat.reduceAdd, Nat.reduceLeDiff, Nat.reduceMul, Nat.reduceBEq, reduceCtorEq, msg_Set, msg_Set.body, encM]
  refine callK_fn (copy_ok _ m hm _ ?_)
  refine runL_V 100 ?_
  simp (disch := first | omega | (simp only [lnx]; omega)) only [stdh, stdx, ↓reduceIte, Nat.reduceEqDiff, Int.reduceToNat, Int.reducePow, Nat.reduceAdd, Nat.reduceLeDiff, Nat.reduceMul, Nat.reduceBEq, reduceCtorEq, encM]
  refine callK_fn (ffind_ok _ _ _ _ ?_)
  refine runL_V 100 ?_
  unfold setM at h
  cases hf : findF m.k name with
  | none =>
    rw [hf] at h
    simp (disch := first | omega | (simp only [lnx]; omega)) only [stdh, stdx, ↓reduceIte, Nat.reduceEqDiff, Int.reduceToNat, Int.reducePow, Nat.reduceAdd, Nat.reduceLeDiff, Nat.reduceMul, Nat.reduceBEq, reduceCtorEq, Option.getD_none, Option.isSome_none, encF, fld0]
    exact ice_none ⟨closeds_encM m, trivial, trivial⟩ h
  | some f =>
    rw [hf] at h
    obtain ⟨_, p | p | p | p | p | p | p⟩ := fieldsOf_ok2 f (findF_mem hf)
    all_goals
      simp only [p, Int.reduceNeg, Int.reduceLT, if_true, if_false, Mg.put, Int.reduceEq] at h
      simp (disch := first | omega | (simp only [lnx]; omega)) only [stdh, stdx, ↓reduceIte, Nat.reduceEqDiff, Int.reduceToNat, Int.reducePow, Nat.reduceAdd, Nat.reduceLeDiff, Nat.reduceMul, Nat.reduceBEq, reduceCtorEq, Option.getD_some, Option.isSome_some, encF, p]
      exact ice_none ⟨closeds_encM _, trivial, trivial⟩ h
end Go.Proofs.Ytlkadcahjifolaa

namespace Go.Proofs.Ytlkadcahjifolaa
open Go Go.Am
set_option linter.unusedSimpArgs false
set_option linter.unusedVariables false

/-- The fields that are numbers. -/
def numFields (k : Int) : List Fld := (fieldsOf k).filter fun f => decide (0 ≤ f.place)
def numArgs (m : Mg) (L : List Fld) (j : Nat) : List AVal := [.str (L.getD j fld0).name, .int .i64 (m.num (L.getD j fld0).place)]

abbrev nums1C : Ctx := ⟨F.msg_Numbers_1, 29, [], none⟩

set_option maxHeartbeats 1000000 in
theorem nums1_loop {n : Nat} {m : Mg} {l : List Fld} (hlen : l.length ≤ 6) (hok : ∀ f ∈ l, f.ok2) {L : List Fld} {I : Bool → Nat → List Nat → AHeap → Prop} (hI : Fed Try.prog n (numArgs m L) L.length I)
    (K : List AItem) (Q : AVal → AHeap → Prop) {H0 : AHeap} {fp0 : List Nat}
    (hQ : ∀ b j fp H r, H0.length ≤ H.length → (∀ m, m < H0.length → m ∉ fp0 → H[m]? = H0[m]?) → (b = true → j = L.length) → I b j fp H → Run Try.prog nums1C K r H Q) :
    ∀ (z i j : Nat) (H : AHeap) (fp : List Nat), l.length - i = z → i ≤ l.length → j ≤ L.length → L.drop j = (l.drop i).filter (fun f => decide (0 ≤ f.place)) → Touches fp0 H0 fp H → I true j fp H →
    Rounds Try.prog nums1C msg_Numbers_1.b1 [.inBlock 0] (.inScope :: K) [(0, .yld n), (1, cellN (encM m)), (7, recs encF false l), (8, .int .i64 l.length), (9, .int .i64 i)] H Q
  | z, i, j, H, fp, h1, h2, h3, h4, ht, hi => by
    refine loop_V 100 msg_Numbers_1.b1.eq_1 ?_
    by_cases hil : i < l.length
    · rw [drop_getF hil, List.filter_cons] at h4
      have hld : ∀ H, loadA H (some 7) (.sptr (recs encF false l) (i * 7)) = some (True, .agg (encF (l.getD i fld0))) := fun H => load_recs (enc := encF) (t := false) encF_len hil
      have hfo := hok _ (getD_mem hil)
      generalize hx : l.getD i fld0 = x at *
      by_cases hs : x.place < 0
      · rw [if_neg (by simpa using hs)] at h4
        simp (disch := first | omega | (simp only [lnx]; omega)) only [stdh, stdx, ↓reduceIte, Nat.reduceEqDiff, Int.reduceToNat, Int.reducePow, Nat.reduceAdd, Nat.reduceLeDiff, Nat.reduceMul, Nat.reduceBEq, reduceCtorEq, hld, encF, hs]
        have hk1 : Touches fp0 H0 fp (H ++ [ABlk.cells (encF x) T.field_Field]) := ht.trans ⟨by simp, fun m hm => .inl hm, fun m hm _ => List.getElem?_append_left hm⟩
        have hi1 : I true j fp (H ++ [ABlk.cells (encF x) T.field_Field]) := (hI.foot true j).stable _ _ _ hi (by simp) fun m hm => List.getElem?_append_left ((hI.foot true j).lt _ _ hi m hm)
        exact nums1_loop hlen hok hI K Q hQ _ (i + 1) j _ fp rfl (by omega) h3 h4 hk1 hi1
      · rw [if_pos (by simp; omega)] at h4
        have hj : j < L.length := by
          refine Classical.byContradiction fun hn => ?_
          rw [List.drop_eq_nil_of_le (by omega : L.length ≤ j)] at h4
          cases h4
        have hdj := List.drop_eq_getElem_cons hj
        rw [hdj] at h4
        obtain ⟨h5, h6⟩ := List.cons.inj h4
        have hargs : numArgs m L j = [.str x.name, .int .i64 (m.num x.place)] := by
          simp [numArgs, List.getD_eq_getElem?_getD, hj, h5]
        have hk1 : Touches fp0 H0 fp (H ++ [ABlk.cells (encF x) T.field_Field]) := ht.trans ⟨by simp, fun m hm => .inl hm, fun m hm _ => List.getElem?_append_left hm⟩
        have hi1 : I true j fp (H ++ [ABlk.cells (encF x) T.field_Field]) := (hI.foot true j).stable _ _ _ hi (by simp) fun m hm => List.getElem?_append_left ((hI.foot true j).lt _ _ hi m hm)
        have hstep := hI.step j fp _ hj hi1
        rw [hargs] at hstep
        obtain ⟨_, p | p | p | p | p | p | p⟩ := hfo
        · omega
        all_goals
          rw [p] at hstep
          simp only [Mg.num, if_true, if_false, Int.reduceEq, encF, p] at hstep hk1
          simp (disch := first | omega | (simp only [lnx]; omega)) only [stdh, stdx, ↓reduceIte, Nat.reduceEqDiff, Int.reduceToNat, Int.reducePow, Nat.reduceAdd, Nat.reduceLeDiff, Nat.reduceMul, Nat.reduceBEq, reduceCtorEq, hld, encF, p, msg_Numbers_1.d0, cellN, encM, load_imm]
          refine CallV.mono hstep fun av H' hh => ?_
          obtain ⟨fp', ht', hh⟩ := hh
          have ht2 : Touches fp0 H0 fp' H' := hk1.trans ht'
          refine ⟨by simp (disch := first | omega | (simp only [lnx]; omega)) only [stdh, stdx, ↓reduceIte, Nat.reduceEqDiff, Int.reduceToNat, Int.reducePow, Nat.reduceAdd, Nat.reduceLeDiff, Nat.reduceMul, Nat.reduceBEq, reduceCtorEq], ?_⟩
          refine runD_V 40 ?_
          rcases hh with ⟨rfl, hi'⟩ | ⟨rfl, hi'⟩
          · simp (disch := first | omega | (simp only [lnx]; omega)) only [stdh, stdx, ↓reduceIte, Nat.reduceEqDiff, Int.reduceToNat, Int.reducePow, Nat.reduceAdd, Nat.reduceLeDiff, Nat.reduceMul, Nat.reduceBEq, reduceCtorEq]
            exact nums1_loop hlen hok hI K Q hQ _ (i + 1) (j + 1) H' fp' rfl (by omega) (by omega) h6 ht2 hi'
          · simp (disch := first | omega | (simp only [lnx]; omega)) only [stdh, stdx, ↓reduceIte, Nat.reduceEqDiff, Int.reduceToNat, Int.reducePow, Nat.reduceAdd, Nat.reduceLeDiff, Nat.reduceMul, Nat.reduceBEq, reduceCtorEq]
            refine run_inScope ?_
            exact hQ false _ fp' H' _ ht2.le ht2.kept (fun hh => by cases hh) hi'
    · rw [List.drop_eq_nil_of_le (by omega : l.length ≤ i)] at h4
      have hjl : j = L.length := by
        have := congrArg List.length h4
        simp only [List.length_drop, List.filter_nil, List.length_nil] at this; omega
      simp (disch := first | omega | (simp only [lnx]; omega)) only [stdh, stdx, ↓reduceIte, Nat.reduceEqDiff, Int.reduceToNat, Int.reducePow, Nat.reduceAdd, Nat.reduceLeDiff, Nat.reduceMul, Nat.reduceBEq, reduceCtorEq]
      refine run_inScope ?_
      exact hQ true j fp H _ ht.le ht.kept (fun _ => hjl) hi
  termination_by z => z

theorem nums1_iter {H : AHeap} {n : Nat} {m : Mg} : Iter Try.prog F.msg_Numbers_1 [.yld n, cellN (encM m)] n (numArgs m (numFields m.k)) (numFields m.k).length [] H := by
  intro I hI fp hi hown
  refine fun_V 100 msg_Numbers_1_code rfl ?_
  simp (disch := first | omega | (simp only [lnx]; omega)) only [stdh, stdx, ↓reduceIte, Nat.reduceEqDiff, Int.reduceToNat, Int.reducePow, Nat.reduceAdd, Nat.reduceLeDiff, Nat.reduceMul, Nat.reduceBEq, reduceCtorEq, msg_Numbers_1, msg_Numbers_1.body, cellN, encM, load_imm]
  refine callK_fn (of_ok _ _ _ ?_)
  refine runL_V 100 ?_
  simp (disch := first | omega | (simp only [lnx]; omega)) only [stdh, stdx, ↓reduceIte, Nat.reduceEqDiff, Int.reduceToNat, Int.reducePow, Nat.reduceAdd, Nat.reduceLeDiff, Nat.reduceMul, Nat.reduceBEq, reduceCtorEq]
  refine nums1_loop (fieldsOf_len m.k) (fun f hf => fieldsOf_ok2 f hf) hI _ _ ?_ _ 0 0 H fp rfl (by omega) (by omega) rfl (Touches.refl _ _) hi
  intro b j fp' H' r h1 h2 h3 h4
  exact run_fin rfl rfl trivial ⟨b, j, fp', h1, h2, h3, h4⟩

theorem nums_ok (H : AHeap) (m : Mg) (Q : AVal → AHeap → Prop) (h : Q (.fn F.msg_Numbers_1 [] [cellN (encM m)]) H) : FunOK Try.prog F.msg_Numbers [.agg (encM m)] H Q := by
  refine fun_iced msg_Numbers_code fun _ => ?_
  refine fun_V 40 msg_Numbers_code rfl ?_
  simp (disch := first | omega | (simp only [lnx]; omega)) only [stdh, stdx, ↓reduceIte, Nat.reduceEqDiff, Int.reduceToNat, Int.reducePow, Nat.reduceAdd, Nat.reduceLeDiff, Nat.reduceMul, Nat.reduceBEq, reduceCtorEq, msg_Numbers, msg_Numbers.body, encM]
  exact ice_cloN (closeds_encM m) h

/-- The fields that are numbers come first. -/
theorem numF_at {k : Int} : numFields k = (fieldsOf k).take (numFields k).length ∧ (∀ f ∈ numFields k, 0 ≤ f.place) ∧ ∀ f ∈ (fieldsOf k).drop (numFields k).length, f.place < 0 := by
  by_cases h1 : k = 1
  · subst h1; decide +kernel
  by_cases h2 : k = 2
  · subst h2; decide +kernel
  by_cases h3 : k = 3
  · subst h3; decide +kernel
  by_cases h4 : k = 4
  · subst h4; decide +kernel
  by_cases h5 : k = 5
  · subst h5; decide +kernel
  simp [numFields, fieldsOf, h1, h2, h3, h4, h5]
end Go.Proofs.Ytlkadcahjifolaa

namespace Go.Proofs.Ytlkadcahjifolaa
open Go Go.Am
set_option linter.unusedSimpArgs false
set_option linter.unusedVariables false

def stopN (id : Nat) (stop : Int) (j : Nat) : Option AJump := if (j : Int) = stop then some (.exit id) else none
theorem stopN_none {id : Nat} {stop : Int} {j : Nat} (h : (j : Int) ≠ stop) : stopN id stop j = none := by simp [stopN, h]
theorem stopN_some {id : Nat} {stop : Int} {j : Nat} (h : (j : Int) = stop) : stopN id stop j = some (.exit id) := by simp [stopN, h]

theorem find_first {k : Int} {name : ByteArray} {i : Nat} (hi : i < (fieldsOf k).length) (h : ((fieldsOf k).getD i fld0).name = name) (hm : ∀ i', i' < i → ((fieldsOf k).getD i' fld0).name ≠ name) : findF k name = some ((fieldsOf k).getD i fld0) := by
  unfold findF
  rw [List.find?_eq_some_iff_getElem]
  refine ⟨by simpa using h, i, hi, by simp [hi], fun j hj => ?_⟩
  have hjl : j < (fieldsOf k).length := by omega
  have := hm j hj
  simp [hjl] at this ⊢
  exact this
theorem find_none {k : Int} {name : ByteArray} (h : ∀ i, i < (fieldsOf k).length → ((fieldsOf k).getD i fld0).name ≠ name) : findF k name = none := by
  unfold findF
  rw [List.find?_eq_none]
  intro f hf hh
  obtain ⟨i, hi, rfl⟩ := List.getElem_of_mem hf
  have := h i hi
  simp [hi] at this hh
  exact this hh

def kStop (stop : Int) (j : Nat) : Int := if 0 ≤ stop ∧ stop < (j : Int) then stop else (j : Int)
theorem kStop_go {stop : Int} {j : Nat} (h : ¬ (0 ≤ stop ∧ stop < (j : Int))) : kStop stop j = (j : Int) := if_neg h
theorem kStop_in {stop : Int} {j : Nat} (h : 0 ≤ stop ∧ stop < (j : Int)) : kStop stop j = stop := if_pos h
theorem kStop_at {stop : Int} {j : Nat} (h : (j : Int) = stop) : kStop stop (j + 1) = (j : Int) := by rw [kStop_in (by omega)]; exact h.symm

abbrev mnC : Ctx := ⟨F.cuneiformlaw17_MsgNumbers, 201, [.tmp 8], none⟩

/-- The fields behind the numbers have no places. -/
theorem mn_b2 {l : List Fld} {N : Nat} (hlen : l.length ≤ 6) (hneg : ∀ f ∈ l.drop N, f.place < 0) (K : List AItem) (Q : AVal → AHeap → Prop) {v1 v2 : AVal} (H0 : AHeap) (h6 : 5 < H0.length)
    (hK : ∀ H r, H.length = H0.length → (∀ m, m < H0.length → m ≠ 4 → m ≠ 5 → H[m]? = H0[m]?) → H[5]? = some (.cells [.bool true] T.bool) → rget r 1 = v1 → rget r 2 = v2 → rget r 4 = .ptr 0 0 → rget r 7 = .ptr 1 0 → rget r 8 = .bool false → rget r 9 = .ptr 2 0 → rget r 10 = .ptr 3 0 → rget r 12 = .ptr 5 0 → Run Try.prog mnC K r H Q) (e3 : H0[3]? = some (.cells [recs encF false l] T.sl_cuneiformref16_F)) :
    ∀ (z i : Nat) (H : AHeap) (r : Regs), l.length - i = z → i ≤ l.length → N ≤ i → H.length = H0.length → (∀ m, m < H0.length → m ≠ 4 → m ≠ 5 → H[m]? = H0[m]?) → H[4]? = some (.cells [.int .i64 (i : Nat)] T.int) → H[5]? = some (.cells [.bool true] T.bool) →
    rget r 1 = v1 → rget r 2 = v2 → rget r 4 = .ptr 0 0 → rget r 7 = .ptr 1 0 → rget r 8 = .bool false → rget r 9 = .ptr 2 0 → rget r 10 = .ptr 3 0 → rget r 11 = .ptr 4 0 → rget r 12 = .ptr 5 0 →
    Rounds Try.prog mnC cuneiformlaw17_MsgNumbers.b2 [.inBlock 4] K r H Q
  | z, i, H, r, h1, h2, h3, hl, hk, e4, e5, r1, r2, r4, r7, r8, r9, r10, r11, r12 => by
    refine loop_V 100 cuneiformlaw17_MsgNumbers.b2.eq_1 ?_
    have e3' := (hk 3 (by omega) (by omega) (by omega)).trans e3
    by_cases hi : i < l.length
    · have hld : ∀ H, loadA H none (.sptr (recs encF false l) (i * 7 + 2)) = some (True, .int .i64 (l.getD i fld0).place) := fun H => load_rec1 (enc := encF) (t := false) encF_len hi (by omega)
      have hp := hneg (l.getD i fld0) (by
        have : (l.drop N).getD (i - N) fld0 = l.getD i fld0 := by simp [List.getD_eq_getElem?_getD, List.getElem?_drop, show N + (i - N) = i by omega]
        rw [← this]
        exact getD_mem (by rw [List.length_drop]; omega))
      simp (disch := first | omega | (simp only [lnx]; omega)) only [stdh, stdx, ↓reduceIte, Nat.reduceEqDiff, Int.reduceToNat, Int.reducePow, Nat.reduceAdd, Nat.reduceLeDiff, Nat.reduceMul, Nat.reduceBEq, reduceCtorEq, e3', e4, e5, hld, hp, List.getElem?_set_self, List.getElem?_set_ne, r1, r2, r4, r7, r8, r9, r10, r11, r12]
      refine mn_b2 hlen hneg K Q H0 h6 hK e3 _ (i + 1) _ _ rfl (by omega) (by omega) (by simp [hl]) ?_ ?_ ?_ rfl rfl rfl rfl rfl rfl rfl rfl rfl
      · intro m m1 m2 m3
        rw [List.getElem?_set_ne (by omega), List.getElem?_set_ne (by omega)]; exact hk m m1 m2 m3
      · rw [List.getElem?_set_self (by simp; omega)]; rfl
      · rw [List.getElem?_set_ne (by omega), List.getElem?_set_self (by omega)]
    · simp (disch := first | omega | (simp only [lnx]; omega)) only [stdh, stdx, ↓reduceIte, Nat.reduceEqDiff, Int.reduceToNat, Int.reducePow, Nat.reduceAdd, Nat.reduceLeDiff, Nat.reduceMul, Nat.reduceBEq, reduceCtorEq, e3', e4, r1, r2, r4, r7, r8, r9, r10, r11, r12]
      exact hK H _ hl hk e5 rfl rfl rfl rfl rfl rfl rfl rfl
  termination_by z => z

set_option maxRecDepth 10000 in
set_option maxHeartbeats 8000000 in
theorem msgnumbers_ok {m0 : Mg} (hm0 : m0.fine) (name : ByteArray) (v stop : Int) : FunOK Try.prog F.cuneiformlaw17_MsgNumbers [.agg (encM m0), .str name, .int .i64 v, .int .i64 stop] [] fun av _ => av = .bool true := by
  refine fun_V 60 cuneiformlaw17_MsgNumbers_code rfl ?_
  simp (disch := first | omega | (simp only [lnx]; omega)) only [stdh, stdx, ↓reduceIte, Nat.reduceEqDiff, Int.reduceToNat, Int.reducePow, Nat.reduceAdd, Nat.reduceLeDiff, Nat.reduceMul, Nat.reduceBEq, reduceCtorEq, cuneiformlaw17_MsgNumbers, cuneiformlaw17_MsgNumbers.body, encM]
  refine callK_fn (cut17_ok _ m0 hm0 _ ?_)
  refine runL_V 60 ?_
  have sm := cutM_small m0
  have fm := cutM_fine2 m0
  generalize cutM m0 = m at *
  simp (disch := first | omega | (simp only [lnx]; omega)) only [stdh, stdx, ↓reduceIte, Nat.reduceEqDiff, Int.reduceToNat, Int.reducePow, Nat.reduceAdd, Nat.reduceLeDiff, Nat.reduceMul, Nat.reduceBEq, reduceCtorEq, encM]
  refine callK_fn (copy_ok _ m sm _ ?_)
  refine runL_V 60 ?_
  simp (disch := first | omega | (simp only [lnx]; omega)) only [stdh, stdx, ↓reduceIte, Nat.reduceEqDiff, Int.reduceToNat, Int.reducePow, Nat.reduceAdd, Nat.reduceLeDiff, Nat.reduceMul, Nat.reduceBEq, reduceCtorEq, encM]
  refine callK_fn (rall16_ok _ _ _ ?_)
  refine runL_V 60 ?_
  obtain ⟨nf1, nf2, nf3⟩ := numF_at (k := m.k)
  have hlen := fieldsOf_len m.k
  have hNl : (numFields m.k).length ≤ (fieldsOf m.k).length := by
    have := congrArg List.length nf1
    rw [List.length_take] at this; omega
  simp (disch := first | omega | (simp only [lnx]; omega)) only [stdh, stdx, ↓reduceIte, Nat.reduceEqDiff, Int.reduceToNat, Int.reducePow, Nat.reduceAdd, Nat.reduceLeDiff, Nat.reduceMul, Nat.reduceBEq, reduceCtorEq]
  refine callK_fn (nums_ok _ m _ ?_)
  refine runL_V 60 ?_
  simp (disch := first | omega | (simp only [lnx]; omega)) only [stdh, stdx, ↓reduceIte, Nat.reduceEqDiff, Int.reduceToNat, Int.reducePow, Nat.reduceAdd, Nat.reduceLeDiff, Nat.reduceMul, Nat.reduceBEq, reduceCtorEq, eqA]
  generalize hH : [ABlk.cells [AVal.int IntKind.i64 m.k, AVal.int IntKind.i64 m.n0, AVal.int IntKind.i64 m.n1, AVal.int IntKind.i64 m.n2, AVal.int IntKind.i64 m.n3, AVal.int IntKind.i64 m.n4, AVal.int IntKind.i64 m.n5, recs encP false m.p, ints false m.c, AVal.str m.t, AVal.str m.g] T.msg_Msg, ABlk.cells [AVal.int IntKind.i64 stop] T.int, ABlk.cells [AVal.int IntKind.i64 m.k, AVal.int IntKind.i64 m.n0, AVal.int IntKind.i64 m.n1, AVal.int IntKind.i64 m.n2, AVal.int IntKind.i64 m.n3, AVal.int IntKind.i64 m.n4, AVal.int IntKind.i64 m.n5, recs encP false m.p, ints false m.c, AVal.str m.t, AVal.str m.g] T.msg_Msg, ABlk.cells [recs encF false (fieldsOf m.k)] T.sl_cuneiformref16_F, ABlk.cells [AVal.int IntKind.i64 0] T.int, ABlk.cells [AVal.bool true] T.bool] = H5
  have e0 : H5[0]? = some (.cells (encM m) T.msg_Msg) := by rw [← hH]; rfl
  have e1 : H5[1]? = some (.cells [.int .i64 stop] T.int) := by rw [← hH]; rfl
  have e2 : H5[2]? = some (.cells (encM m) T.msg_Msg) := by rw [← hH]; rfl
  have e3 : H5[3]? = some (.cells [recs encF false (fieldsOf m.k)] T.sl_cuneiformref16_F) := by rw [← hH]; rfl
  have e4 : H5[4]? = some (.cells [.int .i64 ((0 : Nat) : Int)] T.int) := by rw [← hH]; rfl
  have e5 : H5[5]? = some (.cells [.bool true] T.bool) := by rw [← hH]; rfl
  have el : H5.length = 6 := by rw [← hH]; rfl
  clear hH
  refine range_vars (g := F.msg_Numbers_1) (first := []) (captured := [cellN (encM m)]) rfl (by intro n hn; cases hn) (item := numArgs m (numFields m.k)) (len := (numFields m.k).length) (fun j => rfl) [(4, T.int, fun j => .int .i64 (j : Nat)), (5, T.bool, fun _ => .bool true)] (fun _ => none) (vars_cons e4 (vars_cons e5 vars_nil)) ?_ (fun _ _ _ => nums1_iter) ?_ (fun _ _ _ _ _ _ hh => by cases hh)
  · intro a' b' j H1 hj _ hl hk hrec hv
    have q0 := (hk 0 (by omega) (by simp)).trans e0
    have q3 := (hk 3 (by omega) (by simp)).trans e3
    have q4 := hv.get (c := 4) (T := T.int) (f := fun j => .int .i64 (j : Nat)) (by simp)
    have q5 := hv.get (c := 5) (T := T.bool) (f := fun _ => .bool true) (by simp)
    have hjl : j < (fieldsOf m.k).length := by omega
    have hgj : (numFields m.k).getD j fld0 = (fieldsOf m.k).getD j fld0 := by
      have hh : (numFields m.k)[j]? = (fieldsOf m.k)[j]? := by
        have := congrArg (fun l : List Fld => l[j]?) nf1
        simp only [List.getElem?_take, if_pos hj] at this
        exact this
      rw [List.getD_eq_getElem?_getD, List.getD_eq_getElem?_getD, hh]
    have hpos := nf2 _ (getD_mem hj)
    have hok := fieldsOf_ok2 _ (getD_mem hjl)
    have hld : ∀ H o, o < 7 → loadA H none (.sptr (recs encF false (fieldsOf m.k)) (j * 7 + o)) = some (True, (encF ((fieldsOf m.k).getD j fld0)).getD o .junk) := fun H o ho => load_rec1 (enc := encF) (t := false) encF_len hjl ho
    have hitem : numArgs m (numFields m.k) j = [.str ((fieldsOf m.k).getD j fld0).name, .int .i64 (m.num ((fieldsOf m.k).getD j fld0).place)] := by simp only [numArgs, hgj]
    rw [hgj] at hpos
    rw [hitem]
    generalize (fieldsOf m.k).getD j fld0 = x at *
    have l0 : ∀ H, loadA H none (.sptr (recs encF false (fieldsOf m.k)) (j * 7 + 0)) = some (True, .str x.name) := fun H => hld H 0 (by omega)
    have l2 : ∀ H, loadA H none (.sptr (recs encF false (fieldsOf m.k)) (j * 7 + 2)) = some (True, .int .i64 x.place) := fun H => hld H 2 (by omega)
    have hnp : ¬ x.place < 0 := by omega
    have q0' : H1[0]? = some (ABlk.cells [.int .i64 m.k, .int .i64 m.n0, .int .i64 m.n1, .int .i64 m.n2, .int .i64 m.n3, .int .i64 m.n4, .int .i64 m.n5, recs encP false m.p, ints false m.c, .str m.t, .str m.g] T.msg_Msg) := q0
    clear hld hitem hgj
    refine run_V0 60 ?_
    simp (disch := first | omega | (simp only [lnx]; omega)) only [stdh, stdx, ↓reduceIte, Nat.reduceEqDiff, Int.reduceToNat, Int.reducePow, Nat.reduceAdd, Nat.reduceLeDiff, Nat.reduceMul, Nat.reduceBEq, reduceCtorEq, cuneiformlaw17_MsgNumbers.a1, cuneiformlaw17_MsgNumbers.b1, hrec, List.zip_cons_cons, List.zip_nil_left, List.reverse_cons, List.reverse_nil]
    refine loop_V 100 cuneiformlaw17_MsgNumbers.b0.eq_1 ?_
    simp (disch := first | omega | (simp only [lnx]; omega)) only [stdh, stdx, ↓reduceIte, Nat.reduceEqDiff, Int.reduceToNat, Int.reducePow, Nat.reduceAdd, Nat.reduceLeDiff, Nat.reduceMul, Nat.reduceBEq, reduceCtorEq, q3, q4, l2, hnp, List.getElem?_set_ne]
    refine run_V0 60 ?_
    obtain ⟨_, p | p | p | p | p | p | p⟩ := hok
    · omega
    all_goals
      simp only [p, Mg.num, if_true, if_false, Int.reduceEq]
      simp (disch := first | omega | (simp only [lnx]; omega)) only [stdh, stdx, ↓reduceIte, Nat.reduceEqDiff, Int.reduceToNat, Int.reducePow, Nat.reduceAdd, Nat.reduceLeDiff, Nat.reduceMul, Nat.reduceBEq, reduceCtorEq, q0', q3, q4, q5, l0, l2, p, List.getElem?_set_ne, List.getElem?_set_self]
      refine round_fin (n := H5.length) (L := lrec _ _ _ a' b' .busy none) rfl (by simp (disch := first | omega | (simp only [lnx]; omega)) only [List.getElem?_set_ne, List.getElem?_set_self, List.length_set, ne_eq, not_false_eq_true]; rfl) ?_
      refine varsQ_mk rfl (by (first | omega | (simp only [lnx]; omega))) (fun m m1 m2 m3 => ?_) (vars_cons ?_ (vars_cons ?_ vars_nil)) (by simp (disch := first | omega | (simp only [lnx]; omega)) only [List.getElem?_set_ne, List.getElem?_set_self, List.length_set, ne_eq, not_false_eq_true]; rfl)
      · simp only [List.map_cons, List.map_nil, List.mem_cons, List.not_mem_nil, or_false, not_or] at m3
        have m4 := m3.1
        have m5 := m3.2
        simp (disch := first | omega | (simp only [lnx]; omega)) only [List.getElem?_set_ne, List.getElem?_set_self, List.length_set, ne_eq, not_false_eq_true]
      · show _ = some (ABlk.cells [AVal.int .i64 ((j + 1 : Nat) : Int)] T.int)
        simp (disch := first | omega | (simp only [lnx]; omega)) only [List.getElem?_set_ne, List.getElem?_set_self, List.length_set, ne_eq, not_false_eq_true]; rfl
      · show _ = some (ABlk.cells [AVal.bool true] T.bool)
        simp (disch := first | omega | (simp only [lnx]; omega)) only [List.getElem?_set_ne, List.getElem?_set_self, List.length_set, ne_eq, not_false_eq_true]
  · intro H' hl hk _ hv
    have q0 := (hk 0 (by omega) (by simp)).trans e0
    have q1 := (hk 1 (by omega) (by simp)).trans e1
    have q2 := (hk 2 (by omega) (by simp)).trans e2
    have q3 := (hk 3 (by omega) (by simp)).trans e3
    have q4 := hv.get (c := 4) (T := T.int) (f := fun j => .int .i64 (j : Nat)) (by simp)
    have q5 := hv.get (c := 5) (T := T.bool) (f := fun _ => .bool true) (by simp)
    have hl' : 6 < H'.length := by omega
    clear hk hv hl el e0 e1 e2 e3 e4 e5
    clear H5
    refine run_V0 60 ?_
    simp (disch := first | omega | (simp only [lnx]; omega)) only [stdh, stdx, ↓reduceIte, Nat.reduceEqDiff, Int.reduceToNat, Int.reducePow, Nat.reduceAdd, Nat.reduceLeDiff, Nat.reduceMul, Nat.reduceBEq, reduceCtorEq]
    refine mn_b2 (v1 := .str name) (v2 := .int .i64 v) hlen nf3 _ _ H' (by omega) ?_ q3 _ _ H' _ rfl hNl (Nat.le_refl _) rfl (fun _ _ _ _ => rfl) q4 q5 rfl rfl rfl rfl rfl rfl rfl rfl rfl
    intro H2 r h2l h2k g5 r1 r2 r4 r7 r8 r9 r10 r12
    have g0 := (h2k 0 (by omega) (by omega) (by omega)).trans q0
    have g1 := (h2k 1 (by omega) (by omega) (by omega)).trans q1
    have g2 := (h2k 2 (by omega) (by omega) (by omega)).trans q2
    have g3 := (h2k 3 (by omega) (by omega) (by omega)).trans q3
    have g0' : H2[0]? = some (ABlk.cells [.int .i64 m.k, .int .i64 m.n0, .int .i64 m.n1, .int .i64 m.n2, .int .i64 m.n3, .int .i64 m.n4, .int .i64 m.n5, recs encP false m.p, ints false m.c, .str m.t, .str m.g] T.msg_Msg) := g0
    have h2l' : 6 < H2.length := by omega
    clear h2k q0 q1 q2 q3 q4 q5 hl' h2l
    refine run_V0 60 ?_
    simp (disch := first | omega | (simp only [lnx]; omega)) only [stdh, stdx, ↓reduceIte, Nat.reduceEqDiff, Int.reduceToNat, Int.reducePow, Nat.reduceAdd, Nat.reduceLeDiff, Nat.reduceMul, Nat.reduceBEq, reduceCtorEq, r1, r2, r4, r7, r8, r9, r10, r12, at_low, g0']
    refine callK_fn (nums_ok _ m _ ?_)
    refine runL_V 60 ?_
    simp (disch := first | omega | (simp only [lnx]; omega)) only [stdh, stdx, ↓reduceIte, Nat.reduceEqDiff, Int.reduceToNat, Int.reducePow, Nat.reduceAdd, Nat.reduceLeDiff, Nat.reduceMul, Nat.reduceBEq, reduceCtorEq, r1, r2, r4, r7, r8, r9, r10, r12, eqA]
    have k0 : (H2 ++ [ABlk.cells [AVal.int IntKind.i64 0] T.int])[0]? = some (.cells (encM m) T.msg_Msg) := (at_low (by omega)).trans g0
    have k1 : (H2 ++ [ABlk.cells [AVal.int IntKind.i64 0] T.int])[1]? = some (.cells [.int .i64 stop] T.int) := (at_low (by omega)).trans g1
    have k2 : (H2 ++ [ABlk.cells [AVal.int IntKind.i64 0] T.int])[2]? = some (.cells (encM m) T.msg_Msg) := (at_low (by omega)).trans g2
    have k3 : (H2 ++ [ABlk.cells [AVal.int IntKind.i64 0] T.int])[3]? = some (.cells [recs encF false (fieldsOf m.k)] T.sl_cuneiformref16_F) := (at_low (by omega)).trans g3
    have k5 : (H2 ++ [ABlk.cells [AVal.int IntKind.i64 0] T.int])[5]? = some (.cells [.bool true] T.bool) := (at_low (by omega)).trans g5
    have k6 : (H2 ++ [ABlk.cells [AVal.int IntKind.i64 0] T.int])[H2.length]? = some (.cells [.int .i64 ((0 : Nat) : Int)] T.int) := at_0
    have kl : (H2 ++ [ABlk.cells [AVal.int IntKind.i64 0] T.int]).length = H2.length + 1 := by simp
    generalize H2 ++ [ABlk.cells [AVal.int IntKind.i64 0] T.int] = H6 at *
    generalize H2.length = c at *
    clear g0 g0' g1 g2 g3 g5
    refine range_vars (g := F.msg_Numbers_1) (first := []) (captured := [cellN (encM m)]) rfl (by intro n hn; cases hn) (item := numArgs m (numFields m.k)) (len := (numFields m.k).length) (fun j => rfl) [(c, T.int, fun j => .int .i64 (kStop stop j))] (stopN 6 stop) (vars_cons (by rw [k6, ← kStop_go (stop := stop) (j := 0) (by omega)]) vars_nil) ?_ (fun _ _ _ => nums1_iter) ?_ ?_
    · intro a' b' j H1 hj hst hl hk hrec hv
      have z1 := (hk 1 (by omega) (by simp; omega)).trans k1
      have z6 := hv.get (c := c) (T := T.int) (f := fun j => .int .i64 (kStop stop j)) (by simp)
      have hns : ¬ (0 ≤ stop ∧ stop < (j : Int)) := fun hh => by
        have := hst stop.toNat (by omega)
        rw [stopN_some (by omega)] at this
        cases this
      simp only [kStop_go hns] at z6
      refine run_V0 60 ?_
      by_cases hs : (j : Int) = stop
      · rw [stopN_some hs]
        have hsd : decide ((j : Int) = stop) = true := decide_eq_true hs
        simp (disch := first | omega | (simp only [lnx]; omega)) only [stdh, stdx, ↓reduceIte, Nat.reduceEqDiff, Int.reduceToNat, Int.reducePow, Nat.reduceAdd, Nat.reduceLeDiff, Nat.reduceMul, Nat.reduceBEq, reduceCtorEq, cuneiformlaw17_MsgNumbers.a3, cuneiformlaw17_MsgNumbers.b3, hrec, z1, z6, numArgs, List.zip_cons_cons, List.zip_nil_left, List.reverse_cons, List.reverse_nil, List.getElem?_set_self, List.getElem?_set_ne, hsd]
        refine exit_fin (n := H6.length) (L := lrec _ _ _ a' b' .busy none) rfl (by simp (disch := first | omega | (simp only [lnx]; omega)) only [List.getElem?_set_ne, List.getElem?_set_self, List.length_set, ne_eq, not_false_eq_true]; rfl) ?_
        refine varsQ_mk rfl (by (first | omega | (simp only [lnx]; omega))) (fun m m1 m2 m3 => ?_) (vars_cons ?_ vars_nil) (by simp (disch := first | omega | (simp only [lnx]; omega)) only [List.getElem?_set_ne, List.getElem?_set_self, List.length_set, ne_eq, not_false_eq_true]; rfl)
        · simp only [List.map_cons, List.map_nil, List.mem_cons, List.not_mem_nil, or_false] at m3
          simp (disch := first | omega | (simp only [lnx]; omega)) only [List.getElem?_set_ne, List.getElem?_set_self, List.length_set, ne_eq, not_false_eq_true]
        · show _ = some (ABlk.cells [AVal.int .i64 (kStop stop (j + 1))] T.int)
          simp (disch := first | omega | (simp only [lnx]; omega)) only [List.getElem?_set_ne, List.getElem?_set_self, List.length_set, ne_eq, not_false_eq_true]; rw [z6, kStop_at hs]
      · rw [stopN_none hs]
        simp (disch := first | omega | (simp only [lnx]; omega)) only [stdh, stdx, ↓reduceIte, Nat.reduceEqDiff, Int.reduceToNat, Int.reducePow, Nat.reduceAdd, Nat.reduceLeDiff, Nat.reduceMul, Nat.reduceBEq, reduceCtorEq, cuneiformlaw17_MsgNumbers.a3, cuneiformlaw17_MsgNumbers.b3, hrec, z1, z6, numArgs, List.zip_cons_cons, List.zip_nil_left, List.reverse_cons, List.reverse_nil, List.getElem?_set_self, List.getElem?_set_ne, hs]
        refine round_fin (n := H6.length) (L := lrec _ _ _ a' b' .busy none) rfl (by simp (disch := first | omega | (simp only [lnx]; omega)) only [List.getElem?_set_ne, List.getElem?_set_self, List.length_set, ne_eq, not_false_eq_true]; rfl) ?_
        refine varsQ_mk rfl (by (first | omega | (simp only [lnx]; omega))) (fun m m1 m2 m3 => ?_) (vars_cons ?_ vars_nil) (by simp (disch := first | omega | (simp only [lnx]; omega)) only [List.getElem?_set_ne, List.getElem?_set_self, List.length_set, ne_eq, not_false_eq_true]; rfl)
        · simp only [List.map_cons, List.map_nil, List.mem_cons, List.not_mem_nil, or_false] at m3
          simp (disch := first | omega | (simp only [lnx]; omega)) only [List.getElem?_set_ne, List.getElem?_set_self, List.length_set, ne_eq, not_false_eq_true]
        · show _ = some (ABlk.cells [AVal.int .i64 (kStop stop (j + 1))] T.int)
          simp (disch := first | omega | (simp only [lnx]; omega)) only [List.getElem?_set_ne, List.getElem?_set_self, List.length_set, ne_eq, not_false_eq_true]; rw [kStop_go (by omega)]; rfl
    · intro H7 hl hk hst hv
      have z0 := (hk 0 (by omega) (by simp; omega)).trans k0
      have z1 := (hk 1 (by omega) (by simp; omega)).trans k1
      have z2 := (hk 2 (by omega) (by simp; omega)).trans k2
      have z3 := (hk 3 (by omega) (by simp; omega)).trans k3
      have z5 := (hk 5 (by omega) (by simp; omega)).trans k5
      have z6 := hv.get (c := c) (T := T.int) (f := fun j => .int .i64 (kStop stop j)) (by simp)
      have hns : ¬ (0 ≤ stop ∧ stop < ((numFields m.k).length : Int)) := fun hh => by
        have := hst stop.toNat (by omega)
        rw [stopN_some (by omega)] at this
        cases this
      simp only [kStop_go hns] at z6
      have hks : stop < 0 ∨ ((numFields m.k).length : Int) ≤ stop := by omega
      have hl7 : c < H7.length := by omega
      clear hst hns hl
      have z0' : H7[0]? = some (ABlk.cells [.int .i64 m.k, .int .i64 m.n0, .int .i64 m.n1, .int .i64 m.n2, .int .i64 m.n3, .int .i64 m.n4, .int .i64 m.n5, recs encP false m.p, ints false m.c, .str m.t, .str m.g] T.msg_Msg) := z0
      have z2' : H7[2]? = some (ABlk.cells [.int .i64 m.k, .int .i64 m.n0, .int .i64 m.n1, .int .i64 m.n2, .int .i64 m.n3, .int .i64 m.n4, .int .i64 m.n5, recs encP false m.p, ints false m.c, .str m.t, .str m.g] T.msg_Msg) := z2
      refine run_V0 60 ?_
      simp (disch := first | omega | (simp only [lnx]; omega)) only [stdh, stdx, ↓reduceIte, Nat.reduceEqDiff, Int.reduceToNat, Int.reducePow, Nat.reduceAdd, Nat.reduceLeDiff, Nat.reduceMul, Nat.reduceBEq, reduceCtorEq, jumpItems, r1, r2, z3]
      clear z0 z2 k0 k1 k2 k3 k5 k6 hk hv nf1 nf2 nf3
      refine callK_fn (rfind_ok hlen _ _ _ (fun hnone => ?_) (fun i hi hname hmin => ?_))
      · have hff := find_none hnone
        refine runL_V 60 ?_
        simp (disch := first | omega | (simp only [lnx]; omega)) only [stdh, stdx, ↓reduceIte, Nat.reduceEqDiff, Int.reduceToNat, Int.reducePow, Nat.reduceAdd, Nat.reduceLeDiff, Nat.reduceMul, Nat.reduceBEq, reduceCtorEq, r1, r2, z3, z0', Int.reduceNeg, Int.reduceLE]
        refine callK_fn (get_ok _ m name _ ?_)
        rw [show getM m name = (0, false) by simp [getM, hff]]
        refine runL_V 60 ?_
        simp (disch := first | omega | (simp only [lnx]; omega)) only [stdh, stdx, ↓reduceIte, Nat.reduceEqDiff, Int.reduceToNat, Int.reducePow, Nat.reduceAdd, Nat.reduceLeDiff, Nat.reduceMul, Nat.reduceBEq, reduceCtorEq, r1, r2, z0']
        refine callK_fn (set_ok _ m sm name v _ ?_)
        rw [show setM m name v = (m, false) by simp [setM, hff]]
        refine runL_V 60 ?_
        simp (disch := first | omega | (simp only [lnx]; omega)) only [stdh, stdx, ↓reduceIte, Nat.reduceEqDiff, Int.reduceToNat, Int.reducePow, Nat.reduceAdd, Nat.reduceLeDiff, Nat.reduceMul, Nat.reduceBEq, reduceCtorEq, r1, r2, at_low, z0', encM]
        refine callK_fn (of17_ok _ m sm _ ?_)
        refine runL_V 100 ?_
        simp (disch := first | omega | (simp only [lnx]; omega)) only [stdh, stdx, ↓reduceIte, Nat.reduceEqDiff, Int.reduceToNat, Int.reducePow, Nat.reduceAdd, Nat.reduceLeDiff, Nat.reduceMul, Nat.reduceBEq, reduceCtorEq, r1, r2, at_low, z0', z5, encM, cuneiformlaw17_MsgNumbers.d4]
        refine callD_fn (known17_ok _ _ ?_)
        refine ⟨by simp (disch := first | omega | (simp only [lnx]; omega)) only [stdh, stdx, ↓reduceIte, Nat.reduceEqDiff, Int.reduceToNat, Int.reducePow, Nat.reduceAdd, Nat.reduceLeDiff, Nat.reduceMul, Nat.reduceBEq, reduceCtorEq], ?_⟩
        refine runD_V 100 ?_
        simp (disch := first | omega | (simp only [lnx]; omega)) only [stdh, stdx, ↓reduceIte, Nat.reduceEqDiff, Int.reduceToNat, Int.reducePow, Nat.reduceAdd, Nat.reduceLeDiff, Nat.reduceMul, Nat.reduceBEq, reduceCtorEq, at_low, z0', z1, z2', z3, z5, z6, eqA, encM]
        refine callD_fn (of17_ok _ m sm _ ?_)
        refine ⟨by simp (disch := first | omega | (simp only [lnx]; omega)) only [stdh, stdx, ↓reduceIte, Nat.reduceEqDiff, Int.reduceToNat, Int.reducePow, Nat.reduceAdd, Nat.reduceLeDiff, Nat.reduceMul, Nat.reduceBEq, reduceCtorEq, encM], ?_⟩
        refine runD_V 60 ?_
        simp (disch := first | omega | (simp only [lnx]; omega)) only [stdh, stdx, ↓reduceIte, Nat.reduceEqDiff, Int.reduceToNat, Int.reducePow, Nat.reduceAdd, Nat.reduceLeDiff, Nat.reduceMul, Nat.reduceBEq, reduceCtorEq, at_low, z0', z1, z2', z3, z5, z6, eqA, encM]
        refine callD_fn (rsame_ok _ m m sm.fit2 _ ?_)
        rw [decide_eq_true (rfl : m = m)]
        refine ⟨by simp (disch := first | omega | (simp only [lnx]; omega)) only [stdh, stdx, ↓reduceIte, Nat.reduceEqDiff, Int.reduceToNat, Int.reducePow, Nat.reduceAdd, Nat.reduceLeDiff, Nat.reduceMul, Nat.reduceBEq, reduceCtorEq, encM], ?_⟩
        refine runD_V 60 ?_
        simp (disch := first | omega | (simp only [lnx]; omega)) only [stdh, stdx, ↓reduceIte, Nat.reduceEqDiff, Int.reduceToNat, Int.reducePow, Nat.reduceAdd, Nat.reduceLeDiff, Nat.reduceMul, Nat.reduceBEq, reduceCtorEq, at_low, z0', z1, z2', z3, z5, z6, eqA, encM]
        refine callD_fn (same_ok _ m m sm.fits _ ?_)
        rw [decide_eq_true (rfl : m = m)]
        refine ⟨by simp (disch := first | omega | (simp only [lnx]; omega)) only [stdh, stdx, ↓reduceIte, Nat.reduceEqDiff, Int.reduceToNat, Int.reducePow, Nat.reduceAdd, Nat.reduceLeDiff, Nat.reduceMul, Nat.reduceBEq, reduceCtorEq, encM], ?_⟩
        refine runD_V 60 ?_
        by_cases hst0 : stop < 0
        · simp (disch := first | omega | (simp only [lnx]; omega)) only [stdh, stdx, ↓reduceIte, Nat.reduceEqDiff, Int.reduceToNat, Int.reducePow, Nat.reduceAdd, Nat.reduceLeDiff, Nat.reduceMul, Nat.reduceBEq, reduceCtorEq, at_low, z0', z1, z2', z3, z5, z6, eqA, encM, hst0]
        · have hks' : ((numFields m.k).length : Int) ≤ stop := by omega
          simp (disch := first | omega | (simp only [lnx]; omega)) only [stdh, stdx, ↓reduceIte, Nat.reduceEqDiff, Int.reduceToNat, Int.reducePow, Nat.reduceAdd, Nat.reduceLeDiff, Nat.reduceMul, Nat.reduceBEq, reduceCtorEq, at_low, z0', z1, z2', z3, z5, z6, eqA, encM, hst0, hks']
      · have hff := find_first hi hname hmin
        have hok := fieldsOf_ok2 _ (getD_mem hi)
        have hld : ∀ H, loadA H none (.sptr (recs encF false (fieldsOf m.k)) (i * 7 + 2)) = some (True, .int .i64 ((fieldsOf m.k).getD i fld0).place) := fun H => load_rec1 (enc := encF) (t := false) encF_len hi (by omega)
        generalize (fieldsOf m.k).getD i fld0 = x at *
        have hi0 : (0 : Int) ≤ (i : Int) := by omega
        obtain ⟨_, p | p | p | p | p | p | p⟩ := hok
        · refine runL_V 60 ?_
          simp (disch := first | omega | (simp only [lnx]; omega)) only [stdh, stdx, ↓reduceIte, Nat.reduceEqDiff, Int.reduceToNat, Int.reducePow, Nat.reduceAdd, Nat.reduceLeDiff, Nat.reduceMul, Nat.reduceBEq, reduceCtorEq, r1, r2, z3, z0', hi0, hld, p, Int.reduceNeg, Int.reduceLE]
          refine callK_fn (get_ok _ m name _ ?_)
          rw [show getM m name = (0, false) by simp [getM, hff, p]]
          refine runL_V 60 ?_
          simp (disch := first | omega | (simp only [lnx]; omega)) only [stdh, stdx, ↓reduceIte, Nat.reduceEqDiff, Int.reduceToNat, Int.reducePow, Nat.reduceAdd, Nat.reduceLeDiff, Nat.reduceMul, Nat.reduceBEq, reduceCtorEq, r1, r2, z0']
          refine callK_fn (set_ok _ m sm name v _ ?_)
          rw [show setM m name v = (m, false) by simp [setM, hff, p]]
          refine runL_V 60 ?_
          simp (disch := first | omega | (simp only [lnx]; omega)) only [stdh, stdx, ↓reduceIte, Nat.reduceEqDiff, Int.reduceToNat, Int.reducePow, Nat.reduceAdd, Nat.reduceLeDiff, Nat.reduceMul, Nat.reduceBEq, reduceCtorEq, r1, r2, at_low, z0', encM]
          refine callK_fn (of17_ok _ m sm _ ?_)
          refine runL_V 100 ?_
          simp (disch := first | omega | (simp only [lnx]; omega)) only [stdh, stdx, ↓reduceIte, Nat.reduceEqDiff, Int.reduceToNat, Int.reducePow, Nat.reduceAdd, Nat.reduceLeDiff, Nat.reduceMul, Nat.reduceBEq, reduceCtorEq, r1, r2, at_low, z0', z5, encM, cuneiformlaw17_MsgNumbers.d4]
          refine callD_fn (known17_ok _ _ ?_)
          refine ⟨by simp (disch := first | omega | (simp only [lnx]; omega)) only [stdh, stdx, ↓reduceIte, Nat.reduceEqDiff, Int.reduceToNat, Int.reducePow, Nat.reduceAdd, Nat.reduceLeDiff, Nat.reduceMul, Nat.reduceBEq, reduceCtorEq], ?_⟩
          refine runD_V 100 ?_
          simp (disch := first | omega | (simp only [lnx]; omega)) only [stdh, stdx, ↓reduceIte, Nat.reduceEqDiff, Int.reduceToNat, Int.reducePow, Nat.reduceAdd, Nat.reduceLeDiff, Nat.reduceMul, Nat.reduceBEq, reduceCtorEq, at_low, z0', z1, z2', z3, z5, z6, eqA, encM]
          refine callD_fn (of17_ok _ m sm _ ?_)
          refine ⟨by simp (disch := first | omega | (simp only [lnx]; omega)) only [stdh, stdx, ↓reduceIte, Nat.reduceEqDiff, Int.reduceToNat, Int.reducePow, Nat.reduceAdd, Nat.reduceLeDiff, Nat.reduceMul, Nat.reduceBEq, reduceCtorEq, encM], ?_⟩
          refine runD_V 60 ?_
          simp (disch := first | omega | (simp only [lnx]; omega)) only [stdh, stdx, ↓reduceIte, Nat.reduceEqDiff, Int.reduceToNat, Int.reducePow, Nat.reduceAdd, Nat.reduceLeDiff, Nat.reduceMul, Nat.reduceBEq, reduceCtorEq, at_low, z0', z1, z2', z3, z5, z6, eqA, encM]
          refine callD_fn (rsame_ok _ m m sm.fit2 _ ?_)
          rw [decide_eq_true (rfl : m = m)]
          refine ⟨by simp (disch := first | omega | (simp only [lnx]; omega)) only [stdh, stdx, ↓reduceIte, Nat.reduceEqDiff, Int.reduceToNat, Int.reducePow, Nat.reduceAdd, Nat.reduceLeDiff, Nat.reduceMul, Nat.reduceBEq, reduceCtorEq, encM], ?_⟩
          refine runD_V 60 ?_
          simp (disch := first | omega | (simp only [lnx]; omega)) only [stdh, stdx, ↓reduceIte, Nat.reduceEqDiff, Int.reduceToNat, Int.reducePow, Nat.reduceAdd, Nat.reduceLeDiff, Nat.reduceMul, Nat.reduceBEq, reduceCtorEq, at_low, z0', z1, z2', z3, z5, z6, eqA, encM]
          refine callD_fn (same_ok _ m m sm.fits _ ?_)
          rw [decide_eq_true (rfl : m = m)]
          refine ⟨by simp (disch := first | omega | (simp only [lnx]; omega)) only [stdh, stdx, ↓reduceIte, Nat.reduceEqDiff, Int.reduceToNat, Int.reducePow, Nat.reduceAdd, Nat.reduceLeDiff, Nat.reduceMul, Nat.reduceBEq, reduceCtorEq, encM], ?_⟩
          refine runD_V 60 ?_
          by_cases hst0 : stop < 0
          · simp (disch := first | omega | (simp only [lnx]; omega)) only [stdh, stdx, ↓reduceIte, Nat.reduceEqDiff, Int.reduceToNat, Int.reducePow, Nat.reduceAdd, Nat.reduceLeDiff, Nat.reduceMul, Nat.reduceBEq, reduceCtorEq, at_low, z0', z1, z2', z3, z5, z6, eqA, encM, hst0]
          · have hks' : ((numFields m.k).length : Int) ≤ stop := by omega
            simp (disch := first | omega | (simp only [lnx]; omega)) only [stdh, stdx, ↓reduceIte, Nat.reduceEqDiff, Int.reduceToNat, Int.reducePow, Nat.reduceAdd, Nat.reduceLeDiff, Nat.reduceMul, Nat.reduceBEq, reduceCtorEq, at_low, z0', z1, z2', z3, z5, z6, eqA, encM, hst0, hks']
        · refine runL_V 60 ?_
          simp (disch := first | omega | (simp only [lnx]; omega)) only [stdh, stdx, ↓reduceIte, Nat.reduceEqDiff, Int.reduceToNat, Int.reducePow, Nat.reduceAdd, Nat.reduceLeDiff, Nat.reduceMul, Nat.reduceBEq, reduceCtorEq, r1, r2, z3, z0', hi0, hld, p, Int.reduceNeg, Int.reduceLE]
          refine callK_fn (get_ok _ m name _ ?_)
          rw [show getM m name = (m.num x.place, true) by simp [getM, hff, p]]
          refine runL_V 60 ?_
          simp (disch := first | omega | (simp only [lnx]; omega)) only [stdh, stdx, ↓reduceIte, Nat.reduceEqDiff, Int.reduceToNat, Int.reducePow, Nat.reduceAdd, Nat.reduceLeDiff, Nat.reduceMul, Nat.reduceBEq, reduceCtorEq, r1, r2, z0']
          refine callK_fn (set_ok _ m sm name v _ ?_)
          rw [show setM m name v = (m.put x.place v, true) by simp [setM, hff, p]]
          refine runL_V 60 ?_
          simp only [p, Mg.num, Mg.put, if_true, if_false, Int.reduceEq]
          simp (disch := first | omega | (simp only [lnx]; omega)) only [stdh, stdx, ↓reduceIte, Nat.reduceEqDiff, Int.reduceToNat, Int.reducePow, Nat.reduceAdd, Nat.reduceLeDiff, Nat.reduceMul, Nat.reduceBEq, reduceCtorEq, r1, r2, at_low, z0', encM]
          refine callK_fn (of17_ok _ m sm _ ?_)
          refine runL_V 100 ?_
          simp (disch := first | omega | (simp only [lnx]; omega)) only [stdh, stdx, ↓reduceIte, Nat.reduceEqDiff, Int.reduceToNat, Int.reducePow, Nat.reduceAdd, Nat.reduceLeDiff, Nat.reduceMul, Nat.reduceBEq, reduceCtorEq, r1, r2, at_low, set_low, z0', z3, z5, encM, hld, p, List.getElem?_set_ne, List.getElem?_set_self, cuneiformlaw17_MsgNumbers.d4]
          refine callD_fn (known17_ok _ _ ?_)
          refine ⟨by simp (disch := first | omega | (simp only [lnx]; omega)) only [stdh, stdx, ↓reduceIte, Nat.reduceEqDiff, Int.reduceToNat, Int.reducePow, Nat.reduceAdd, Nat.reduceLeDiff, Nat.reduceMul, Nat.reduceBEq, reduceCtorEq], ?_⟩
          refine runD_V 100 ?_
          simp (disch := first | omega | (simp only [lnx]; omega)) only [stdh, stdx, ↓reduceIte, Nat.reduceEqDiff, Int.reduceToNat, Int.reducePow, Nat.reduceAdd, Nat.reduceLeDiff, Nat.reduceMul, Nat.reduceBEq, reduceCtorEq, at_low, z0', z1, z2', z3, z5, z6, eqA, encM, List.getElem?_set_ne, List.getElem?_set_self, at_0s, at_ks, eq_self]
          refine callD_fn (of17_ok _ { m with n0 := v } ⟨sm.p, sm.c⟩ _ ?_)
          refine ⟨by simp (disch := first | omega | (simp only [lnx]; omega)) only [stdh, stdx, ↓reduceIte, Nat.reduceEqDiff, Int.reduceToNat, Int.reducePow, Nat.reduceAdd, Nat.reduceLeDiff, Nat.reduceMul, Nat.reduceBEq, reduceCtorEq, at_low, z0', z1, z2', z3, z5, z6, eqA, encM, List.getElem?_set_ne, List.getElem?_set_self, at_0s, at_ks, eq_self], ?_⟩
          refine runD_V 60 ?_
          simp (disch := first | omega | (simp only [lnx]; omega)) only [stdh, stdx, ↓reduceIte, Nat.reduceEqDiff, Int.reduceToNat, Int.reducePow, Nat.reduceAdd, Nat.reduceLeDiff, Nat.reduceMul, Nat.reduceBEq, reduceCtorEq, at_low, z0', z1, z2', z3, z5, z6, eqA, encM, List.getElem?_set_ne, List.getElem?_set_self, at_0s, at_ks, eq_self]
          refine callD_fn (rsame_ok _ { m with n0 := v } { m with n0 := v } sm.fit2 _ ?_)
          refine ⟨by simp (disch := first | omega | (simp only [lnx]; omega)) only [stdh, stdx, ↓reduceIte, Nat.reduceEqDiff, Int.reduceToNat, Int.reducePow, Nat.reduceAdd, Nat.reduceLeDiff, Nat.reduceMul, Nat.reduceBEq, reduceCtorEq, at_low, z0', z1, z2', z3, z5, z6, eqA, encM, List.getElem?_set_ne, List.getElem?_set_self, at_0s, at_ks, eq_self], ?_⟩
          refine runD_V 60 ?_
          simp (disch := first | omega | (simp only [lnx]; omega)) only [stdh, stdx, ↓reduceIte, Nat.reduceEqDiff, Int.reduceToNat, Int.reducePow, Nat.reduceAdd, Nat.reduceLeDiff, Nat.reduceMul, Nat.reduceBEq, reduceCtorEq, at_low, z0', z1, z2', z3, z5, z6, eqA, encM, List.getElem?_set_ne, List.getElem?_set_self, at_0s, at_ks, eq_self]
          refine callD_fn (same_ok _ m m sm.fits _ ?_)
          refine ⟨by simp (disch := first | omega | (simp only [lnx]; omega)) only [stdh, stdx, ↓reduceIte, Nat.reduceEqDiff, Int.reduceToNat, Int.reducePow, Nat.reduceAdd, Nat.reduceLeDiff, Nat.reduceMul, Nat.reduceBEq, reduceCtorEq, at_low, z0', z1, z2', z3, z5, z6, eqA, encM, List.getElem?_set_ne, List.getElem?_set_self, at_0s, at_ks, eq_self], ?_⟩
          refine runD_V 60 ?_
          by_cases hst0 : stop < 0
          · simp (disch := first | omega | (simp only [lnx]; omega)) only [stdh, stdx, ↓reduceIte, Nat.reduceEqDiff, Int.reduceToNat, Int.reducePow, Nat.reduceAdd, Nat.reduceLeDiff, Nat.reduceMul, Nat.reduceBEq, reduceCtorEq, at_low, z0', z1, z2', z3, z5, z6, eqA, encM, List.getElem?_set_ne, List.getElem?_set_self, at_0s, at_ks, eq_self, hst0]
          · have hks' : ((numFields m.k).length : Int) ≤ stop := by omega
            simp (disch := first | omega | (simp only [lnx]; omega)) only [stdh, stdx, ↓reduceIte, Nat.reduceEqDiff, Int.reduceToNat, Int.reducePow, Nat.reduceAdd, Nat.reduceLeDiff, Nat.reduceMul, Nat.reduceBEq, reduceCtorEq, at_low, z0', z1, z2', z3, z5, z6, eqA, encM, List.getElem?_set_ne, List.getElem?_set_self, at_0s, at_ks, eq_self, hst0, hks']
        · refine runL_V 60 ?_
          simp (disch := first | omega | (simp only [lnx]; omega)) only [stdh, stdx, ↓reduceIte, Nat.reduceEqDiff, Int.reduceToNat, Int.reducePow, Nat.reduceAdd, Nat.reduceLeDiff, Nat.reduceMul, Nat.reduceBEq, reduceCtorEq, r1, r2, z3, z0', hi0, hld, p, Int.reduceNeg, Int.reduceLE]
          refine callK_fn (get_ok _ m name _ ?_)
          rw [show getM m name = (m.num x.place, true) by simp [getM, hff, p]]
          refine runL_V 60 ?_
          simp (disch := first | omega | (simp only [lnx]; omega)) only [stdh, stdx, ↓reduceIte, Nat.reduceEqDiff, Int.reduceToNat, Int.reducePow, Nat.reduceAdd, Nat.reduceLeDiff, Nat.reduceMul, Nat.reduceBEq, reduceCtorEq, r1, r2, z0']
          refine callK_fn (set_ok _ m sm name v _ ?_)
          rw [show setM m name v = (m.put x.place v, true) by simp [setM, hff, p]]
          refine runL_V 60 ?_
          simp only [p, Mg.num, Mg.put, if_true, if_false, Int.reduceEq]
          simp (disch := first | omega | (simp only [lnx]; omega)) only [stdh, stdx, ↓reduceIte, Nat.reduceEqDiff, Int.reduceToNat, Int.reducePow, Nat.reduceAdd, Nat.reduceLeDiff, Nat.reduceMul, Nat.reduceBEq, reduceCtorEq, r1, r2, at_low, z0', encM]
          refine callK_fn (of17_ok _ m sm _ ?_)
          refine runL_V 100 ?_
          simp (disch := first | omega | (simp only [lnx]; omega)) only [stdh, stdx, ↓reduceIte, Nat.reduceEqDiff, Int.reduceToNat, Int.reducePow, Nat.reduceAdd, Nat.reduceLeDiff, Nat.reduceMul, Nat.reduceBEq, reduceCtorEq, r1, r2, at_low, set_low, z0', z3, z5, encM, hld, p, List.getElem?_set_ne, List.getElem?_set_self, cuneiformlaw17_MsgNumbers.d4]
          refine callD_fn (known17_ok _ _ ?_)
          refine ⟨by simp (disch := first | omega | (simp only [lnx]; omega)) only [stdh, stdx, ↓reduceIte, Nat.reduceEqDiff, Int.reduceToNat, Int.reducePow, Nat.reduceAdd, Nat.reduceLeDiff, Nat.reduceMul, Nat.reduceBEq, reduceCtorEq], ?_⟩
          refine runD_V 100 ?_
          simp (disch := first | omega | (simp only [lnx]; omega)) only [stdh, stdx, ↓reduceIte, Nat.reduceEqDiff, Int.reduceToNat, Int.reducePow, Nat.reduceAdd, Nat.reduceLeDiff, Nat.reduceMul, Nat.reduceBEq, reduceCtorEq, at_low, z0', z1, z2', z3, z5, z6, eqA, encM, List.getElem?_set_ne, List.getElem?_set_self, at_0s, at_ks, eq_self]
          refine callD_fn (of17_ok _ { m with n1 := v } ⟨sm.p, sm.c⟩ _ ?_)
          refine ⟨by simp (disch := first | omega | (simp only [lnx]; omega)) only [stdh, stdx, ↓reduceIte, Nat.reduceEqDiff, Int.reduceToNat, Int.reducePow, Nat.reduceAdd, Nat.reduceLeDiff, Nat.reduceMul, Nat.reduceBEq, reduceCtorEq, at_low, z0', z1, z2', z3, z5, z6, eqA, encM, List.getElem?_set_ne, List.getElem?_set_self, at_0s, at_ks, eq_self], ?_⟩
          refine runD_V 60 ?_
          simp (disch := first | omega | (simp only [lnx]; omega)) only [stdh, stdx, ↓reduceIte, Nat.reduceEqDiff, Int.reduceToNat, Int.reducePow, Nat.reduceAdd, Nat.reduceLeDiff, Nat.reduceMul, Nat.reduceBEq, reduceCtorEq, at_low, z0', z1, z2', z3, z5, z6, eqA, encM, List.getElem?_set_ne, List.getElem?_set_self, at_0s, at_ks, eq_self]
          refine callD_fn (rsame_ok _ { m with n1 := v } { m with n1 := v } sm.fit2 _ ?_)
          refine ⟨by simp (disch := first | omega | (simp only [lnx]; omega)) only [stdh, stdx, ↓reduceIte, Nat.reduceEqDiff, Int.reduceToNat, Int.reducePow, Nat.reduceAdd, Nat.reduceLeDiff, Nat.reduceMul, Nat.reduceBEq, reduceCtorEq, at_low, z0', z1, z2', z3, z5, z6, eqA, encM, List.getElem?_set_ne, List.getElem?_set_self, at_0s, at_ks, eq_self], ?_⟩
          refine runD_V 60 ?_
          simp (disch := first | omega | (simp only [lnx]; omega)) only [stdh, stdx, ↓reduceIte, Nat.reduceEqDiff, Int.reduceToNat, Int.reducePow, Nat.reduceAdd, Nat.reduceLeDiff, Nat.reduceMul, Nat.reduceBEq, reduceCtorEq, at_low, z0', z1, z2', z3, z5, z6, eqA, encM, List.getElem?_set_ne, List.getElem?_set_self, at_0s, at_ks, eq_self]
          refine callD_fn (same_ok _ m m sm.fits _ ?_)
          refine ⟨by simp (disch := first | omega | (simp only [lnx]; omega)) only [stdh, stdx, ↓reduceIte, Nat.reduceEqDiff, Int.reduceToNat, Int.reducePow, Nat.reduceAdd, Nat.reduceLeDiff, Nat.reduceMul, Nat.reduceBEq, reduceCtorEq, at_low, z0', z1, z2', z3, z5, z6, eqA, encM, List.getElem?_set_ne, List.getElem?_set_self, at_0s, at_ks, eq_self], ?_⟩
          refine runD_V 60 ?_
          by_cases hst0 : stop < 0
          · simp (disch := first | omega | (simp only [lnx]; omega)) only [stdh, stdx, ↓reduceIte, Nat.reduceEqDiff, Int.reduceToNat, Int.reducePow, Nat.reduceAdd, Nat.reduceLeDiff, Nat.reduceMul, Nat.reduceBEq, reduceCtorEq, at_low, z0', z1, z2', z3, z5, z6, eqA, encM, List.getElem?_set_ne, List.getElem?_set_self, at_0s, at_ks, eq_self, hst0]
          · have hks' : ((numFields m.k).length : Int) ≤ stop := by omega
            simp (disch := first | omega | (simp only [lnx]; omega)) only [stdh, stdx, ↓reduceIte, Nat.reduceEqDiff, Int.reduceToNat, Int.reducePow, Nat.reduceAdd, Nat.reduceLeDiff, Nat.reduceMul, Nat.reduceBEq, reduceCtorEq, at_low, z0', z1, z2', z3, z5, z6, eqA, encM, List.getElem?_set_ne, List.getElem?_set_self, at_0s, at_ks, eq_self, hst0, hks']
        · refine runL_V 60 ?_
          simp (disch := first | omega | (simp only [lnx]; omega)) only [stdh, stdx, ↓reduceIte, Nat.reduceEqDiff, Int.reduceToNat, Int.reducePow, Nat.reduceAdd, Nat.reduceLeDiff, Nat.reduceMul, Nat.reduceBEq, reduceCtorEq, r1, r2, z3, z0', hi0, hld, p, Int.reduceNeg, Int.reduceLE]
          refine callK_fn (get_ok _ m name _ ?_)
          rw [show getM m name = (m.num x.place, true) by simp [getM, hff, p]]
          refine runL_V 60 ?_
          simp (disch := first | omega | (simp only [lnx]; omega)) only [stdh, stdx, ↓reduceIte, Nat.reduceEqDiff, Int.reduceToNat, Int.reducePow, Nat.reduceAdd, Nat.reduceLeDiff, Nat.reduceMul, Nat.reduceBEq, reduceCtorEq, r1, r2, z0']
          refine callK_fn (set_ok _ m sm name v _ ?_)
          rw [show setM m name v = (m.put x.place v, true) by simp [setM, hff, p]]
          refine runL_V 60 ?_
          simp only [p, Mg.num, Mg.put, if_true, if_false, Int.reduceEq]
          simp (disch := first | omega | (simp only [lnx]; omega)) only [stdh, stdx, ↓reduceIte, Nat.reduceEqDiff, Int.reduceToNat, Int.reducePow, Nat.reduceAdd, Nat.reduceLeDiff, Nat.reduceMul, Nat.reduceBEq, reduceCtorEq, r1, r2, at_low, z0', encM]
          refine callK_fn (of17_ok _ m sm _ ?_)
          refine runL_V 100 ?_
          simp (disch := first | omega | (simp only [lnx]; omega)) only [stdh, stdx, ↓reduceIte, Nat.reduceEqDiff, Int.reduceToNat, Int.reducePow, Nat.reduceAdd, Nat.reduceLeDiff, Nat.reduceMul, Nat.reduceBEq, reduceCtorEq, r1, r2, at_low, set_low, z0', z3, z5, encM, hld, p, List.getElem?_set_ne, List.getElem?_set_self, cuneiformlaw17_MsgNumbers.d4]
          refine callD_fn (known17_ok _ _ ?_)
          refine ⟨by simp (disch := first | omega | (simp only [lnx]; omega)) only [stdh, stdx, ↓reduceIte, Nat.reduceEqDiff, Int.reduceToNat, Int.reducePow, Nat.reduceAdd, Nat.reduceLeDiff, Nat.reduceMul, Nat.reduceBEq, reduceCtorEq], ?_⟩
          refine runD_V 100 ?_
          simp (disch := first | omega | (simp only [lnx]; omega)) only [stdh, stdx, ↓reduceIte, Nat.reduceEqDiff, Int.reduceToNat, Int.reducePow, Nat.reduceAdd, Nat.reduceLeDiff, Nat.reduceMul, Nat.reduceBEq, reduceCtorEq, at_low, z0', z1, z2', z3, z5, z6, eqA, encM, List.getElem?_set_ne, List.getElem?_set_self, at_0s, at_ks, eq_self]
          refine callD_fn (of17_ok _ { m with n2 := v } ⟨sm.p, sm.c⟩ _ ?_)
          refine ⟨by simp (disch := first | omega | (simp only [lnx]; omega)) only [stdh, stdx, ↓reduceIte, Nat.reduceEqDiff, Int.reduceToNat, Int.reducePow, Nat.reduceAdd, Nat.reduceLeDiff, Nat.reduceMul, Nat.reduceBEq, reduceCtorEq, at_low, z0', z1, z2', z3, z5, z6, eqA, encM, List.getElem?_set_ne, List.getElem?_set_self, at_0s, at_ks, eq_self], ?_⟩
          refine runD_V 60 ?_
          simp (disch := first | omega | (simp only [lnx]; omega)) only [stdh, stdx, ↓reduceIte, Nat.reduceEqDiff, Int.reduceToNat, Int.reducePow, Nat.reduceAdd, Nat.reduceLeDiff, Nat.reduceMul, Nat.reduceBEq, reduceCtorEq, at_low, z0', z1, z2', z3, z5, z6, eqA, encM, List.getElem?_set_ne, List.getElem?_set_self, at_0s, at_ks, eq_self]
          refine callD_fn (rsame_ok _ { m with n2 := v } { m with n2 := v } sm.fit2 _ ?_)
          refine ⟨by simp (disch := first | omega | (simp only [lnx]; omega)) only [stdh, stdx, ↓reduceIte, Nat.reduceEqDiff, Int.reduceToNat, Int.reducePow, Nat.reduceAdd, Nat.reduceLeDiff, Nat.reduceMul, Nat.reduceBEq, reduceCtorEq, at_low, z0', z1, z2', z3, z5, z6, eqA, encM, List.getElem?_set_ne, List.getElem?_set_self, at_0s, at_ks, eq_self], ?_⟩
          refine runD_V 60 ?_
          simp (disch := first | omega | (simp only [lnx]; omega)) only [stdh, stdx, ↓reduceIte, Nat.reduceEqDiff, Int.reduceToNat, Int.reducePow, Nat.reduceAdd, Nat.reduceLeDiff, Nat.reduceMul, Nat.reduceBEq, reduceCtorEq, at_low, z0', z1, z2', z3, z5, z6, eqA, encM, List.getElem?_set_ne, List.getElem?_set_self, at_0s, at_ks, eq_self]
          refine callD_fn (same_ok _ m m sm.fits _ ?_)
          refine ⟨by simp (disch := first | omega | (simp only [lnx]; omega)) only [stdh, stdx, ↓reduceIte, Nat.reduceEqDiff, Int.reduceToNat, Int.reducePow, Nat.reduceAdd, Nat.reduceLeDiff, Nat.reduceMul, Nat.reduceBEq, reduceCtorEq, at_low, z0', z1, z2', z3, z5, z6, eqA, encM, List.getElem?_set_ne, List.getElem?_set_self, at_0s, at_ks, eq_self], ?_⟩
          refine runD_V 60 ?_
          by_cases hst0 : stop < 0
          · simp (disch := first | omega | (simp only [lnx]; omega)) only [stdh, stdx, ↓reduceIte, Nat.reduceEqDiff, Int.reduceToNat, Int.reducePow, Nat.reduceAdd, Nat.reduceLeDiff, Nat.reduceMul, Nat.reduceBEq, reduceCtorEq, at_low, z0', z1, z2', z3, z5, z6, eqA, encM, List.getElem?_set_ne, List.getElem?_set_self, at_0s, at_ks, eq_self, hst0]
          · have hks' : ((numFields m.k).length : Int) ≤ stop := by omega
            simp (disch := first | omega | (simp only [lnx]; omega)) only [stdh, stdx, ↓reduceIte, Nat.reduceEqDiff, Int.reduceToNat, Int.reducePow, Nat.reduceAdd, Nat.reduceLeDiff, Nat.reduceMul, Nat.reduceBEq, reduceCtorEq, at_low, z0', z1, z2', z3, z5, z6, eqA, encM, List.getElem?_set_ne, List.getElem?_set_self, at_0s, at_ks, eq_self, hst0, hks']
        · refine runL_V 60 ?_
          simp (disch := first | omega | (simp only [lnx]; omega)) only [stdh, stdx, ↓reduceIte, Nat.reduceEqDiff, Int.reduceToNat, Int.reducePow, Nat.reduceAdd, Nat.reduceLeDiff, Nat.reduceMul, Nat.reduceBEq, reduceCtorEq, r1, r2, z3, z0', hi0, hld, p, Int.reduceNeg, Int.reduceLE]
          refine callK_fn (get_ok _ m name _ ?_)
          rw [show getM m name = (m.num x.place, true) by simp [getM, hff, p]]
          refine runL_V 60 ?_
          simp (disch := first | omega | (simp only [lnx]; omega)) only [stdh, stdx, ↓reduceIte, Nat.reduceEqDiff, Int.reduceToNat, Int.reducePow, Nat.reduceAdd, Nat.reduceLeDiff, Nat.reduceMul, Nat.reduceBEq, reduceCtorEq, r1, r2, z0']
          refine callK_fn (set_ok _ m sm name v _ ?_)
          rw [show setM m name v = (m.put x.place v, true) by simp [setM, hff, p]]
          refine runL_V 60 ?_
          simp only [p, Mg.num, Mg.put, if_true, if_false, Int.reduceEq]
          simp (disch := first | omega | (simp only [lnx]; omega)) only [stdh, stdx, ↓reduceIte, Nat.reduceEqDiff, Int.reduceToNat, Int.reducePow, Nat.reduceAdd, Nat.reduceLeDiff, Nat.reduceMul, Nat.reduceBEq, reduceCtorEq, r1, r2, at_low, z0', encM]
          refine callK_fn (of17_ok _ m sm _ ?_)
          refine runL_V 100 ?_
          simp (disch := first | omega | (simp only [lnx]; omega)) only [stdh, stdx, ↓reduceIte, Nat.reduceEqDiff, Int.reduceToNat, Int.reducePow, Nat.reduceAdd, Nat.reduceLeDiff, Nat.reduceMul, Nat.reduceBEq, reduceCtorEq, r1, r2, at_low, set_low, z0', z3, z5, encM, hld, p, List.getElem?_set_ne, List.getElem?_set_self, cuneiformlaw17_MsgNumbers.d4]
          refine callD_fn (known17_ok _ _ ?_)
          refine ⟨by simp (disch := first | omega | (simp only [lnx]; omega)) only [stdh, stdx, ↓reduceIte, Nat.reduceEqDiff, Int.reduceToNat, Int.reducePow, Nat.reduceAdd, Nat.reduceLeDiff, Nat.reduceMul, Nat.reduceBEq, reduceCtorEq], ?_⟩
          refine runD_V 100 ?_
          simp (disch := first | omega | (simp only [lnx]; omega)) only [stdh, stdx, ↓reduceIte, Nat.reduceEqDiff, Int.reduceToNat, Int.reducePow, Nat.reduceAdd, Nat.reduceLeDiff, Nat.reduceMul, Nat.reduceBEq, reduceCtorEq, at_low, z0', z1, z2', z3, z5, z6, eqA, encM, List.getElem?_set_ne, List.getElem?_set_self, at_0s, at_ks, eq_self]
          refine callD_fn (of17_ok _ { m with n3 := v } ⟨sm.p, sm.c⟩ _ ?_)
          refine ⟨by simp (disch := first | omega | (simp only [lnx]; omega)) only [stdh, stdx, ↓reduceIte, Nat.reduceEqDiff, Int.reduceToNat, Int.reducePow, Nat.reduceAdd, Nat.reduceLeDiff, Nat.reduceMul, Nat.reduceBEq, reduceCtorEq, at_low, z0', z1, z2', z3, z5, z6, eqA, encM, List.getElem?_set_ne, List.getElem?_set_self, at_0s, at_ks, eq_self], ?_⟩
          refine runD_V 60 ?_
          simp (disch := first | omega | (simp only [lnx]; omega)) only [stdh, stdx, ↓reduceIte, Nat.reduceEqDiff, Int.reduceToNat, Int.reducePow, Nat.reduceAdd, Nat.reduceLeDiff, Nat.reduceMul, Nat.reduceBEq, reduceCtorEq, at_low, z0', z1, z2', z3, z5, z6, eqA, encM, List.getElem?_set_ne, List.getElem?_set_self, at_0s, at_ks, eq_self]
          refine callD_fn (rsame_ok _ { m with n3 := v } { m with n3 := v } sm.fit2 _ ?_)
          refine ⟨by simp (disch := first | omega | (simp only [lnx]; omega)) only [stdh, stdx, ↓reduceIte, Nat.reduceEqDiff, Int.reduceToNat, Int.reducePow, Nat.reduceAdd, Nat.reduceLeDiff, Nat.reduceMul, Nat.reduceBEq, reduceCtorEq, at_low, z0', z1, z2', z3, z5, z6, eqA, encM, List.getElem?_set_ne, List.getElem?_set_self, at_0s, at_ks, eq_self], ?_⟩
          refine runD_V 60 ?_
          simp (disch := first | omega | (simp only [lnx]; omega)) only [stdh, stdx, ↓reduceIte, Nat.reduceEqDiff, Int.reduceToNat, Int.reducePow, Nat.reduceAdd, Nat.reduceLeDiff, Nat.reduceMul, Nat.reduceBEq, reduceCtorEq, at_low, z0', z1, z2', z3, z5, z6, eqA, encM, List.getElem?_set_ne, List.getElem?_set_self, at_0s, at_ks, eq_self]
          refine callD_fn (same_ok _ m m sm.fits _ ?_)
          refine ⟨by simp (disch := first | omega | (simp only [lnx]; omega)) only [stdh, stdx, ↓reduceIte, Nat.reduceEqDiff, Int.reduceToNat, Int.reducePow, Nat.reduceAdd, Nat.reduceLeDiff, Nat.reduceMul, Nat.reduceBEq, reduceCtorEq, at_low, z0', z1, z2', z3, z5, z6, eqA, encM, List.getElem?_set_ne, List.getElem?_set_self, at_0s, at_ks, eq_self], ?_⟩
          refine runD_V 60 ?_
          by_cases hst0 : stop < 0
          · simp (disch := first | omega | (simp only [lnx]; omega)) only [stdh, stdx, ↓reduceIte, Nat.reduceEqDiff, Int.reduceToNat, Int.reducePow, Nat.reduceAdd, Nat.reduceLeDiff, Nat.reduceMul, Nat.reduceBEq, reduceCtorEq, at_low, z0', z1, z2', z3, z5, z6, eqA, encM, List.getElem?_set_ne, List.getElem?_set_self, at_0s, at_ks, eq_self, hst0]
          · have hks' : ((numFields m.k).length : Int) ≤ stop := by omega
            simp (disch := first | omega | (simp only [lnx]; omega)) only [stdh, stdx, ↓reduceIte, Nat.reduceEqDiff, Int.reduceToNat, Int.reducePow, Nat.reduceAdd, Nat.reduceLeDiff, Nat.reduceMul, Nat.reduceBEq, reduceCtorEq, at_low, z0', z1, z2', z3, z5, z6, eqA, encM, List.getElem?_set_ne, List.getElem?_set_self, at_0s, at_ks, eq_self, hst0, hks']
        · refine runL_V 60 ?_
          simp (disch := first | omega | (simp only [lnx]; omega)) only [stdh, stdx, ↓reduceIte, Nat.reduceEqDiff, Int.reduceToNat, Int.reducePow, Nat.reduceAdd, Nat.reduceLeDiff, Nat.reduceMul, Nat.reduceBEq, reduceCtorEq, r1, r2, z3, z0', hi0, hld, p, Int.reduceNeg, Int.reduceLE]
          refine callK_fn (get_ok _ m name _ ?_)
          rw [show getM m name = (m.num x.place, true) by simp [getM, hff, p]]
          refine runL_V 60 ?_
          simp (disch := first | omega | (simp only [lnx]; omega)) only [stdh, stdx, ↓reduceIte, Nat.reduceEqDiff, Int.reduceToNat, Int.reducePow, Nat.reduceAdd, Nat.reduceLeDiff, Nat.reduceMul, Nat.reduceBEq, reduceCtorEq, r1, r2, z0']
          refine callK_fn (set_ok _ m sm name v _ ?_)
          rw [show setM m name v = (m.put x.place v, true) by simp [setM, hff, p]]
          refine runL_V 60 ?_
          simp only [p, Mg.num, Mg.put, if_true, if_false, Int.reduceEq]
          simp (disch := first | omega | (simp only [lnx]; omega)) only [stdh, stdx, ↓reduceIte, Nat.reduceEqDiff, Int.reduceToNat, Int.reducePow, Nat.reduceAdd, Nat.reduceLeDiff, Nat.reduceMul, Nat.reduceBEq, reduceCtorEq, r1, r2, at_low, z0', encM]
          refine callK_fn (of17_ok _ m sm _ ?_)
          refine runL_V 100 ?_
          simp (disch := first | omega | (simp only [lnx]; omega)) only [stdh, stdx, ↓reduceIte, Nat.reduceEqDiff, Int.reduceToNat, Int.reducePow, Nat.reduceAdd, Nat.reduceLeDiff, Nat.reduceMul, Nat.reduceBEq, reduceCtorEq, r1, r2, at_low, set_low, z0', z3, z5, encM, hld, p, List.getElem?_set_ne, List.getElem?_set_self, cuneiformlaw17_MsgNumbers.d4]
          refine callD_fn (known17_ok _ _ ?_)
          refine ⟨by simp (disch := first | omega | (simp only [lnx]; omega)) only [stdh, stdx, ↓reduceIte, Nat.reduceEqDiff, Int.reduceToNat, Int.reducePow, Nat.reduceAdd, Nat.reduceLeDiff, Nat.reduceMul, Nat.reduceBEq, reduceCtorEq], ?_⟩
          refine runD_V 100 ?_
          simp (disch := first | omega | (simp only [lnx]; omega)) only [stdh, stdx, ↓reduceIte, Nat.reduceEqDiff, Int.reduceToNat, Int.reducePow, Nat.reduceAdd, Nat.reduceLeDiff, Nat.reduceMul, Nat.reduceBEq, reduceCtorEq, at_low, z0', z1, z2', z3, z5, z6, eqA, encM, List.getElem?_set_ne, List.getElem?_set_self, at_0s, at_ks, eq_self]
          refine callD_fn (of17_ok _ { m with n4 := v } ⟨sm.p, sm.c⟩ _ ?_)
          refine ⟨by simp (disch := first | omega | (simp only [lnx]; omega)) only [stdh, stdx, ↓reduceIte, Nat.reduceEqDiff, Int.reduceToNat, Int.reducePow, Nat.reduceAdd, Nat.reduceLeDiff, Nat.reduceMul, Nat.reduceBEq, reduceCtorEq, at_low, z0', z1, z2', z3, z5, z6, eqA, encM, List.getElem?_set_ne, List.getElem?_set_self, at_0s, at_ks, eq_self], ?_⟩
          refine runD_V 60 ?_
          simp (disch := first | omega | (simp only [lnx]; omega)) only [stdh, stdx, ↓reduceIte, Nat.reduceEqDiff, Int.reduceToNat, Int.reducePow, Nat.reduceAdd, Nat.reduceLeDiff, Nat.reduceMul, Nat.reduceBEq, reduceCtorEq, at_low, z0', z1, z2', z3, z5, z6, eqA, encM, List.getElem?_set_ne, List.getElem?_set_self, at_0s, at_ks, eq_self]
          refine callD_fn (rsame_ok _ { m with n4 := v } { m with n4 := v } sm.fit2 _ ?_)
          refine ⟨by simp (disch := first | omega | (simp only [lnx]; omega)) only [stdh, stdx, ↓reduceIte, Nat.reduceEqDiff, Int.reduceToNat, Int.reducePow, Nat.reduceAdd, Nat.reduceLeDiff, Nat.reduceMul, Nat.reduceBEq, reduceCtorEq, at_low, z0', z1, z2', z3, z5, z6, eqA, encM, List.getElem?_set_ne, List.getElem?_set_self, at_0s, at_ks, eq_self], ?_⟩
          refine runD_V 60 ?_
          simp (disch := first | omega | (simp only [lnx]; omega)) only [stdh, stdx, ↓reduceIte, Nat.reduceEqDiff, Int.reduceToNat, Int.reducePow, Nat.reduceAdd, Nat.reduceLeDiff, Nat.reduceMul, Nat.reduceBEq, reduceCtorEq, at_low, z0', z1, z2', z3, z5, z6, eqA, encM, List.getElem?_set_ne, List.getElem?_set_self, at_0s, at_ks, eq_self]
          refine callD_fn (same_ok _ m m sm.fits _ ?_)
          refine ⟨by simp (disch := first | omega | (simp only [lnx]; omega)) only [stdh, stdx, ↓reduceIte, Nat.reduceEqDiff, Int.reduceToNat, Int.reducePow, Nat.reduceAdd, Nat.reduceLeDiff, Nat.reduceMul, Nat.reduceBEq, reduceCtorEq, at_low, z0', z1, z2', z3, z5, z6, eqA, encM, List.getElem?_set_ne, List.getElem?_set_self, at_0s, at_ks, eq_self], ?_⟩
          refine runD_V 60 ?_
          by_cases hst0 : stop < 0
          · simp (disch := first | omega | (simp only [lnx]; omega)) only [stdh, stdx, ↓reduceIte, Nat.reduceEqDiff, Int.reduceToNat, Int.reducePow, Nat.reduceAdd, Nat.reduceLeDiff, Nat.reduceMul, Nat.reduceBEq, reduceCtorEq, at_low, z0', z1, z2', z3, z5, z6, eqA, encM, List.getElem?_set_ne, List.getElem?_set_self, at_0s, at_ks, eq_self, hst0]
          · have hks' : ((numFields m.k).length : Int) ≤ stop := by omega
            simp (disch := first | omega | (simp only [lnx]; omega)) only [stdh, stdx, ↓reduceIte, Nat.reduceEqDiff, Int.reduceToNat, Int.reducePow, Nat.reduceAdd, Nat.reduceLeDiff, Nat.reduceMul, Nat.reduceBEq, reduceCtorEq, at_low, z0', z1, z2', z3, z5, z6, eqA, encM, List.getElem?_set_ne, List.getElem?_set_self, at_0s, at_ks, eq_self, hst0, hks']
        · refine runL_V 60 ?_
          simp (disch := first | omega | (simp only [lnx]; omega)) only [stdh, stdx, ↓reduceIte, Nat.reduceEqDiff, Int.reduceToNat, Int.reducePow, Nat.reduceAdd, Nat.reduceLeDiff, Nat.reduceMul, Nat.reduceBEq, reduceCtorEq, r1, r2, z3, z0', hi0, hld, p, Int.reduceNeg, Int.reduceLE]
          refine callK_fn (get_ok _ m name _ ?_)
          rw [show getM m name = (m.num x.place, true) by simp [getM, hff, p]]
          refine runL_V 60 ?_
          simp (disch := first | omega | (simp only [lnx]; omega)) only [stdh, stdx, ↓reduceIte, Nat.reduceEqDiff, Int.reduceToNat, Int.reducePow, Nat.reduceAdd, Nat.reduceLeDiff, Nat.reduceMul, Nat.reduceBEq, reduceCtorEq, r1, r2, z0']
          refine callK_fn (set_ok _ m sm name v _ ?_)
          rw [show setM m name v = (m.put x.place v, true) by simp [setM, hff, p]]
          refine runL_V 60 ?_
          simp only [p, Mg.num, Mg.put, if_true, if_false, Int.reduceEq]
          simp (disch := first | omega | (simp only [lnx]; omega)) only [stdh, stdx, ↓reduceIte, Nat.reduceEqDiff, Int.reduceToNat, Int.reducePow, Nat.reduceAdd, Nat.reduceLeDiff, Nat.reduceMul, Nat.reduceBEq, reduceCtorEq, r1, r2, at_low, z0', encM]
          refine callK_fn (of17_ok _ m sm _ ?_)
          refine runL_V 100 ?_
          simp (disch := first | omega | (simp only [lnx]; omega)) only [stdh, stdx, ↓reduceIte, Nat.reduceEqDiff, Int.reduceToNat, Int.reducePow, Nat.reduceAdd, Nat.reduceLeDiff, Nat.reduceMul, Nat.reduceBEq, reduceCtorEq, r1, r2, at_low, set_low, z0', z3, z5, encM, hld, p, List.getElem?_set_ne, List.getElem?_set_self, cuneiformlaw17_MsgNumbers.d4]
          refine callD_fn (known17_ok _ _ ?_)
          refine ⟨by simp (disch := first | omega | (simp only [lnx]; omega)) only [stdh, stdx, ↓reduceIte, Nat.reduceEqDiff, Int.reduceToNat, Int.reducePow, Nat.reduceAdd, Nat.reduceLeDiff, Nat.reduceMul, Nat.reduceBEq, reduceCtorEq], ?_⟩
          refine runD_V 100 ?_
          simp (disch := first | omega | (simp only [lnx]; omega)) only [stdh, stdx, ↓reduceIte, Nat.reduceEqDiff, Int.reduceToNat, Int.reducePow, Nat.reduceAdd, Nat.reduceLeDiff, Nat.reduceMul, Nat.reduceBEq, reduceCtorEq, at_low, z0', z1, z2', z3, z5, z6, eqA, encM, List.getElem?_set_ne, List.getElem?_set_self, at_0s, at_ks, eq_self]
          refine callD_fn (of17_ok _ { m with n5 := v } ⟨sm.p, sm.c⟩ _ ?_)
          refine ⟨by simp (disch := first | omega | (simp only [lnx]; omega)) only [stdh, stdx, ↓reduceIte, Nat.reduceEqDiff, Int.reduceToNat, Int.reducePow, Nat.reduceAdd, Nat.reduceLeDiff, Nat.reduceMul, Nat.reduceBEq, reduceCtorEq, at_low, z0', z1, z2', z3, z5, z6, eqA, encM, List.getElem?_set_ne, List.getElem?_set_self, at_0s, at_ks, eq_self], ?_⟩
          refine runD_V 60 ?_
          simp (disch := first | omega | (simp only [lnx]; omega)) only [stdh, stdx, ↓reduceIte, Nat.reduceEqDiff, Int.reduceToNat, Int.reducePow, Nat.reduceAdd, Nat.reduceLeDiff, Nat.reduceMul, Nat.reduceBEq, reduceCtorEq, at_low, z0', z1, z2', z3, z5, z6, eqA, encM, List.getElem?_set_ne, List.getElem?_set_self, at_0s, at_ks, eq_self]
          refine callD_fn (rsame_ok _ { m with n5 := v } { m with n5 := v } sm.fit2 _ ?_)
          refine ⟨by simp (disch := first | omega | (simp only [lnx]; omega)) only [stdh, stdx, ↓reduceIte, Nat.reduceEqDiff, Int.reduceToNat, Int.reducePow, Nat.reduceAdd, Nat.reduceLeDiff, Nat.reduceMul, Nat.reduceBEq, reduceCtorEq, at_low, z0', z1, z2', z3, z5, z6, eqA, encM, List.getElem?_set_ne, List.getElem?_set_self, at_0s, at_ks, eq_self], ?_⟩
          refine runD_V 60 ?_
          simp (disch := first | omega | (simp only [lnx]; omega)) only [stdh, stdx, ↓reduceIte, Nat.reduceEqDiff, Int.reduceToNat, Int.reducePow, Nat.reduceAdd, Nat.reduceLeDiff, Nat.reduceMul, Nat.reduceBEq, reduceCtorEq, at_low, z0', z1, z2', z3, z5, z6, eqA, encM, List.getElem?_set_ne, List.getElem?_set_self, at_0s, at_ks, eq_self]
          refine callD_fn (same_ok _ m m sm.fits _ ?_)
          refine ⟨by simp (disch := first | omega | (simp only [lnx]; omega)) only [stdh, stdx, ↓reduceIte, Nat.reduceEqDiff, Int.reduceToNat, Int.reducePow, Nat.reduceAdd, Nat.reduceLeDiff, Nat.reduceMul, Nat.reduceBEq, reduceCtorEq, at_low, z0', z1, z2', z3, z5, z6, eqA, encM, List.getElem?_set_ne, List.getElem?_set_self, at_0s, at_ks, eq_self], ?_⟩
          refine runD_V 60 ?_
          by_cases hst0 : stop < 0
          · simp (disch := first | omega | (simp only [lnx]; omega)) only [stdh, stdx, ↓reduceIte, Nat.reduceEqDiff, Int.reduceToNat, Int.reducePow, Nat.reduceAdd, Nat.reduceLeDiff, Nat.reduceMul, Nat.reduceBEq, reduceCtorEq, at_low, z0', z1, z2', z3, z5, z6, eqA, encM, List.getElem?_set_ne, List.getElem?_set_self, at_0s, at_ks, eq_self, hst0]
          · have hks' : ((numFields m.k).length : Int) ≤ stop := by omega
            simp (disch := first | omega | (simp only [lnx]; omega)) only [stdh, stdx, ↓reduceIte, Nat.reduceEqDiff, Int.reduceToNat, Int.reducePow, Nat.reduceAdd, Nat.reduceLeDiff, Nat.reduceMul, Nat.reduceBEq, reduceCtorEq, at_low, z0', z1, z2', z3, z5, z6, eqA, encM, List.getElem?_set_ne, List.getElem?_set_self, at_0s, at_ks, eq_self, hst0, hks']
    · intro ap j H7 hl hk hj hs hst hv
      have z0 := (hk 0 (by omega) (by simp; omega)).trans k0
      have z1 := (hk 1 (by omega) (by simp; omega)).trans k1
      have z2 := (hk 2 (by omega) (by simp; omega)).trans k2
      have z3 := (hk 3 (by omega) (by simp; omega)).trans k3
      have z5 := (hk 5 (by omega) (by simp; omega)).trans k5
      have z6 := hv.get (c := c) (T := T.int) (f := fun j => .int .i64 (kStop stop j)) (by simp)
      have hsj : (j : Int) = stop := by
        refine Classical.byContradiction fun hn => ?_
        rw [stopN_none hn] at hs; cases hs
      rw [stopN_some hsj] at hs
      cases hs
      simp only [kStop_in (show 0 ≤ stop ∧ stop < ((j + 1 : Nat) : Int) by omega)] at z6
      have hks : stop < 0 ∨ stop ≤ stop := by omega
      have hl7 : c < H7.length := by omega
      clear hst hl
      have z0' : H7[0]? = some (ABlk.cells [.int .i64 m.k, .int .i64 m.n0, .int .i64 m.n1, .int .i64 m.n2, .int .i64 m.n3, .int .i64 m.n4, .int .i64 m.n5, recs encP false m.p, ints false m.c, .str m.t, .str m.g] T.msg_Msg) := z0
      have z2' : H7[2]? = some (ABlk.cells [.int .i64 m.k, .int .i64 m.n0, .int .i64 m.n1, .int .i64 m.n2, .int .i64 m.n3, .int .i64 m.n4, .int .i64 m.n5, recs encP false m.p, ints false m.c, .str m.t, .str m.g] T.msg_Msg) := z2
      refine run_V0 60 ?_
      simp (disch := first | omega | (simp only [lnx]; omega)) only [stdh, stdx, ↓reduceIte, Nat.reduceEqDiff, Int.reduceToNat, Int.reducePow, Nat.reduceAdd, Nat.reduceLeDiff, Nat.reduceMul, Nat.reduceBEq, reduceCtorEq, jumpItems, r1, r2, z3]
      clear z0 z2 k0 k1 k2 k3 k5 k6 hk hv nf1 nf2 nf3
      refine callK_fn (rfind_ok hlen _ _ _ (fun hnone => ?_) (fun i hi hname hmin => ?_))
      · have hff := find_none hnone
        refine runL_V 60 ?_
        simp (disch := first | omega | (simp only [lnx]; omega)) only [stdh, stdx, ↓reduceIte, Nat.reduceEqDiff, Int.reduceToNat, Int.reducePow, Nat.reduceAdd, Nat.reduceLeDiff, Nat.reduceMul, Nat.reduceBEq, reduceCtorEq, r1, r2, z3, z0', Int.reduceNeg, Int.reduceLE]
        refine callK_fn (get_ok _ m name _ ?_)
        rw [show getM m name = (0, false) by simp [getM, hff]]
        refine runL_V 60 ?_
        simp (disch := first | omega | (simp only [lnx]; omega)) only [stdh, stdx, ↓reduceIte, Nat.reduceEqDiff, Int.reduceToNat, Int.reducePow, Nat.reduceAdd, Nat.reduceLeDiff, Nat.reduceMul, Nat.reduceBEq, reduceCtorEq, r1, r2, z0']
        refine callK_fn (set_ok _ m sm name v _ ?_)
        rw [show setM m name v = (m, false) by simp [setM, hff]]
        refine runL_V 60 ?_
        simp (disch := first | omega | (simp only [lnx]; omega)) only [stdh, stdx, ↓reduceIte, Nat.reduceEqDiff, Int.reduceToNat, Int.reducePow, Nat.reduceAdd, Nat.reduceLeDiff, Nat.reduceMul, Nat.reduceBEq, reduceCtorEq, r1, r2, at_low, z0', encM]
        refine callK_fn (of17_ok _ m sm _ ?_)
        refine runL_V 100 ?_
        simp (disch := first | omega | (simp only [lnx]; omega)) only [stdh, stdx, ↓reduceIte, Nat.reduceEqDiff, Int.reduceToNat, Int.reducePow, Nat.reduceAdd, Nat.reduceLeDiff, Nat.reduceMul, Nat.reduceBEq, reduceCtorEq, r1, r2, at_low, z0', z5, encM, cuneiformlaw17_MsgNumbers.d4]
        refine callD_fn (known17_ok _ _ ?_)
        refine ⟨by simp (disch := first | omega | (simp only [lnx]; omega)) only [stdh, stdx, ↓reduceIte, Nat.reduceEqDiff, Int.reduceToNat, Int.reducePow, Nat.reduceAdd, Nat.reduceLeDiff, Nat.reduceMul, Nat.reduceBEq, reduceCtorEq], ?_⟩
        refine runD_V 100 ?_
        simp (disch := first | omega | (simp only [lnx]; omega)) only [stdh, stdx, ↓reduceIte, Nat.reduceEqDiff, Int.reduceToNat, Int.reducePow, Nat.reduceAdd, Nat.reduceLeDiff, Nat.reduceMul, Nat.reduceBEq, reduceCtorEq, at_low, z0', z1, z2', z3, z5, z6, eqA, encM]
        refine callD_fn (of17_ok _ m sm _ ?_)
        refine ⟨by simp (disch := first | omega | (simp only [lnx]; omega)) only [stdh, stdx, ↓reduceIte, Nat.reduceEqDiff, Int.reduceToNat, Int.reducePow, Nat.reduceAdd, Nat.reduceLeDiff, Nat.reduceMul, Nat.reduceBEq, reduceCtorEq, encM], ?_⟩
        refine runD_V 60 ?_
        simp (disch := first | omega | (simp only [lnx]; omega)) only [stdh, stdx, ↓reduceIte, Nat.reduceEqDiff, Int.reduceToNat, Int.reducePow, Nat.reduceAdd, Nat.reduceLeDiff, Nat.reduceMul, Nat.reduceBEq, reduceCtorEq, at_low, z0', z1, z2', z3, z5, z6, eqA, encM]
        refine callD_fn (rsame_ok _ m m sm.fit2 _ ?_)
        rw [decide_eq_true (rfl : m = m)]
        refine ⟨by simp (disch := first | omega | (simp only [lnx]; omega)) only [stdh, stdx, ↓reduceIte, Nat.reduceEqDiff, Int.reduceToNat, Int.reducePow, Nat.reduceAdd, Nat.reduceLeDiff, Nat.reduceMul, Nat.reduceBEq, reduceCtorEq, encM], ?_⟩
        refine runD_V 60 ?_
        simp (disch := first | omega | (simp only [lnx]; omega)) only [stdh, stdx, ↓reduceIte, Nat.reduceEqDiff, Int.reduceToNat, Int.reducePow, Nat.reduceAdd, Nat.reduceLeDiff, Nat.reduceMul, Nat.reduceBEq, reduceCtorEq, at_low, z0', z1, z2', z3, z5, z6, eqA, encM]
        refine callD_fn (same_ok _ m m sm.fits _ ?_)
        rw [decide_eq_true (rfl : m = m)]
        refine ⟨by simp (disch := first | omega | (simp only [lnx]; omega)) only [stdh, stdx, ↓reduceIte, Nat.reduceEqDiff, Int.reduceToNat, Int.reducePow, Nat.reduceAdd, Nat.reduceLeDiff, Nat.reduceMul, Nat.reduceBEq, reduceCtorEq, encM], ?_⟩
        refine runD_V 60 ?_
        by_cases hst0 : stop < 0
        · simp (disch := first | omega | (simp only [lnx]; omega)) only [stdh, stdx, ↓reduceIte, Nat.reduceEqDiff, Int.reduceToNat, Int.reducePow, Nat.reduceAdd, Nat.reduceLeDiff, Nat.reduceMul, Nat.reduceBEq, reduceCtorEq, at_low, z0', z1, z2', z3, z5, z6, eqA, encM, hst0]
        · have hks' : stop ≤ stop := by omega
          simp (disch := first | omega | (simp only [lnx]; omega)) only [stdh, stdx, ↓reduceIte, Nat.reduceEqDiff, Int.reduceToNat, Int.reducePow, Nat.reduceAdd, Nat.reduceLeDiff, Nat.reduceMul, Nat.reduceBEq, reduceCtorEq, at_low, z0', z1, z2', z3, z5, z6, eqA, encM, hst0, hks']
      · have hff := find_first hi hname hmin
        have hok := fieldsOf_ok2 _ (getD_mem hi)
        have hld : ∀ H, loadA H none (.sptr (recs encF false (fieldsOf m.k)) (i * 7 + 2)) = some (True, .int .i64 ((fieldsOf m.k).getD i fld0).place) := fun H => load_rec1 (enc := encF) (t := false) encF_len hi (by omega)
        generalize (fieldsOf m.k).getD i fld0 = x at *
        have hi0 : (0 : Int) ≤ (i : Int) := by omega
        obtain ⟨_, p | p | p | p | p | p | p⟩ := hok
        · refine runL_V 60 ?_
          simp (disch := first | omega | (simp only [lnx]; omega)) only [stdh, stdx, ↓reduceIte, Nat.reduceEqDiff, Int.reduceToNat, Int.reducePow, Nat.reduceAdd, Nat.reduceLeDiff, Nat.reduceMul, Nat.reduceBEq, reduceCtorEq, r1, r2, z3, z0', hi0, hld, p, Int.reduceNeg, Int.reduceLE]
          refine callK_fn (get_ok _ m name _ ?_)
          rw [show getM m name = (0, false) by simp [getM, hff, p]]
          refine runL_V 60 ?_
          simp (disch := first | omega | (simp only [lnx]; omega)) only [stdh, stdx, ↓reduceIte, Nat.reduceEqDiff, Int.reduceToNat, Int.reducePow, Nat.reduceAdd, Nat.reduceLeDiff, Nat.reduceMul, Nat.reduceBEq, reduceCtorEq, r1, r2, z0']
          refine callK_fn (set_ok _ m sm name v _ ?_)
          rw [show setM m name v = (m, false) by simp [setM, hff, p]]
          refine runL_V 60 ?_
          simp (disch := first | omega | (simp only [lnx]; omega)) only [stdh, stdx, ↓reduceIte, Nat.reduceEqDiff, Int.reduceToNat, Int.reducePow, Nat.reduceAdd, Nat.reduceLeDiff, Nat.reduceMul, Nat.reduceBEq, reduceCtorEq, r1, r2, at_low, z0', encM]
          refine callK_fn (of17_ok _ m sm _ ?_)
          refine runL_V 100 ?_
          simp (disch := first | omega | (simp only [lnx]; omega)) only [stdh, stdx, ↓reduceIte, Nat.reduceEqDiff, Int.reduceToNat, Int.reducePow, Nat.reduceAdd, Nat.reduceLeDiff, Nat.reduceMul, Nat.reduceBEq, reduceCtorEq, r1, r2, at_low, z0', z5, encM, cuneiformlaw17_MsgNumbers.d4]
          refine callD_fn (known17_ok _ _ ?_)
          refine ⟨by simp (disch := first | omega | (simp only [lnx]; omega)) only [stdh, stdx, ↓reduceIte, Nat.reduceEqDiff, Int.reduceToNat, Int.reducePow, Nat.reduceAdd, Nat.reduceLeDiff, Nat.reduceMul, Nat.reduceBEq, reduceCtorEq], ?_⟩
          refine runD_V 100 ?_
          simp (disch := first | omega | (simp only [lnx]; omega)) only [stdh, stdx, ↓reduceIte, Nat.reduceEqDiff, Int.reduceToNat, Int.reducePow, Nat.reduceAdd, Nat.reduceLeDiff, Nat.reduceMul, Nat.reduceBEq, reduceCtorEq, at_low, z0', z1, z2', z3, z5, z6, eqA, encM]
          refine callD_fn (of17_ok _ m sm _ ?_)
          refine ⟨by simp (disch := first | omega | (simp only [lnx]; omega)) only [stdh, stdx, ↓reduceIte, Nat.reduceEqDiff, Int.reduceToNat, Int.reducePow, Nat.reduceAdd, Nat.reduceLeDiff, Nat.reduceMul, Nat.reduceBEq, reduceCtorEq, encM], ?_⟩
          refine runD_V 60 ?_
          simp (disch := first | omega | (simp only [lnx]; omega)) only [stdh, stdx, ↓reduceIte, Nat.reduceEqDiff, Int.reduceToNat, Int.reducePow, Nat.reduceAdd, Nat.reduceLeDiff, Nat.reduceMul, Nat.reduceBEq, reduceCtorEq, at_low, z0', z1, z2', z3, z5, z6, eqA, encM]
          refine callD_fn (rsame_ok _ m m sm.fit2 _ ?_)
          rw [decide_eq_true (rfl : m = m)]
          refine ⟨by simp (disch := first | omega | (simp only [lnx]; omega)) only [stdh, stdx, ↓reduceIte, Nat.reduceEqDiff, Int.reduceToNat, Int.reducePow, Nat.reduceAdd, Nat.reduceLeDiff, Nat.reduceMul, Nat.reduceBEq, reduceCtorEq, encM], ?_⟩
          refine runD_V 60 ?_
          simp (disch := first | omega | (simp only [lnx]; omega)) only [stdh, stdx, ↓reduceIte, Nat.reduceEqDiff, Int.reduceToNat, Int.reducePow, Nat.reduceAdd, Nat.reduceLeDiff, Nat.reduceMul, Nat.reduceBEq, reduceCtorEq, at_low, z0', z1, z2', z3, z5, z6, eqA, encM]
          refine callD_fn (same_ok _ m m sm.fits _ ?_)
          rw [decide_eq_true (rfl : m = m)]
          refine ⟨by simp (disch := first | omega | (simp only [lnx]; omega)) only [stdh, stdx, ↓reduceIte, Nat.reduceEqDiff, Int.reduceToNat, Int.reducePow, Nat.reduceAdd, Nat.reduceLeDiff, Nat.reduceMul, Nat.reduceBEq, reduceCtorEq, encM], ?_⟩
          refine runD_V 60 ?_
          by_cases hst0 : stop < 0
          · simp (disch := first | omega | (simp only [lnx]; omega)) only [stdh, stdx, ↓reduceIte, Nat.reduceEqDiff, Int.reduceToNat, Int.reducePow, Nat.reduceAdd, Nat.reduceLeDiff, Nat.reduceMul, Nat.reduceBEq, reduceCtorEq, at_low, z0', z1, z2', z3, z5, z6, eqA, encM, hst0]
          · have hks' : stop ≤ stop := by omega
            simp (disch := first | omega | (simp only [lnx]; omega)) only [stdh, stdx, ↓reduceIte, Nat.reduceEqDiff, Int.reduceToNat, Int.reducePow, Nat.reduceAdd, Nat.reduceLeDiff, Nat.reduceMul, Nat.reduceBEq, reduceCtorEq, at_low, z0', z1, z2', z3, z5, z6, eqA, encM, hst0, hks']
        · refine runL_V 60 ?_
          simp (disch := first | omega | (simp only [lnx]; omega)) only [stdh, stdx, ↓reduceIte, Nat.reduceEqDiff, Int.reduceToNat, Int.reducePow, Nat.reduceAdd, Nat.reduceLeDiff, Nat.reduceMul, Nat.reduceBEq, reduceCtorEq, r1, r2, z3, z0', hi0, hld, p, Int.reduceNeg, Int.reduceLE]
          refine callK_fn (get_ok _ m name _ ?_)
          rw [show getM m name = (m.num x.place, true) by simp [getM, hff, p]]
          refine runL_V 60 ?_
          simp (disch := first | omega | (simp only [lnx]; omega)) only [stdh, stdx, ↓reduceIte, Nat.reduceEqDiff, Int.reduceToNat, Int.reducePow, Nat.reduceAdd, Nat.reduceLeDiff, Nat.reduceMul, Nat.reduceBEq, reduceCtorEq, r1, r2, z0']
          refine callK_fn (set_ok _ m sm name v _ ?_)
          rw [show setM m name v = (m.put x.place v, true) by simp [setM, hff, p]]
          refine runL_V 60 ?_
          simp only [p, Mg.num, Mg.put, if_true, if_false, Int.reduceEq]
          simp (disch := first | omega | (simp only [lnx]; omega)) only [stdh, stdx, ↓reduceIte, Nat.reduceEqDiff, Int.reduceToNat, Int.reducePow, Nat.reduceAdd, Nat.reduceLeDiff, Nat.reduceMul, Nat.reduceBEq, reduceCtorEq, r1, r2, at_low, z0', encM]
          refine callK_fn (of17_ok _ m sm _ ?_)
          refine runL_V 100 ?_
          simp (disch := first | omega | (simp only [lnx]; omega)) only [stdh, stdx, ↓reduceIte, Nat.reduceEqDiff, Int.reduceToNat, Int.reducePow, Nat.reduceAdd, Nat.reduceLeDiff, Nat.reduceMul, Nat.reduceBEq, reduceCtorEq, r1, r2, at_low, set_low, z0', z3, z5, encM, hld, p, List.getElem?_set_ne, List.getElem?_set_self, cuneiformlaw17_MsgNumbers.d4]
          refine callD_fn (known17_ok _ _ ?_)
          refine ⟨by simp (disch := first | omega | (simp only [lnx]; omega)) only [stdh, stdx, ↓reduceIte, Nat.reduceEqDiff, Int.reduceToNat, Int.reducePow, Nat.reduceAdd, Nat.reduceLeDiff, Nat.reduceMul, Nat.reduceBEq, reduceCtorEq], ?_⟩
          refine runD_V 100 ?_
          simp (disch := first | omega | (simp only [lnx]; omega)) only [stdh, stdx, ↓reduceIte, Nat.reduceEqDiff, Int.reduceToNat, Int.reducePow, Nat.reduceAdd, Nat.reduceLeDiff, Nat.reduceMul, Nat.reduceBEq, reduceCtorEq, at_low, z0', z1, z2', z3, z5, z6, eqA, encM, List.getElem?_set_ne, List.getElem?_set_self, at_0s, at_ks, eq_self]
          refine callD_fn (of17_ok _ { m with n0 := v } ⟨sm.p, sm.c⟩ _ ?_)
          refine ⟨by simp (disch := first | omega | (simp only [lnx]; omega)) only [stdh, stdx, ↓reduceIte, Nat.reduceEqDiff, Int.reduceToNat, Int.reducePow, Nat.reduceAdd, Nat.reduceLeDiff, Nat.reduceMul, Nat.reduceBEq, reduceCtorEq, at_low, z0', z1, z2', z3, z5, z6, eqA, encM, List.getElem?_set_ne, List.getElem?_set_self, at_0s, at_ks, eq_self], ?_⟩
          refine runD_V 60 ?_
          simp (disch := first | omega | (simp only [lnx]; omega)) only [stdh, stdx, ↓reduceIte, Nat.reduceEqDiff, Int.reduceToNat, Int.reducePow, Nat.reduceAdd, Nat.reduceLeDiff, Nat.reduceMul, Nat.reduceBEq, reduceCtorEq, at_low, z0', z1, z2', z3, z5, z6, eqA, encM, List.getElem?_set_ne, List.getElem?_set_self, at_0s, at_ks, eq_self]
          refine callD_fn (rsame_ok _ { m with n0 := v } { m with n0 := v } sm.fit2 _ ?_)
          refine ⟨by simp (disch := first | omega | (simp only [lnx]; omega)) only [stdh, stdx, ↓reduceIte, Nat.reduceEqDiff, Int.reduceToNat, Int.reducePow, Nat.reduceAdd, Nat.reduceLeDiff, Nat.reduceMul, Nat.reduceBEq, reduceCtorEq, at_low, z0', z1, z2', z3, z5, z6, eqA, encM, List.getElem?_set_ne, List.getElem?_set_self, at_0s, at_ks, eq_self], ?_⟩
          refine runD_V 60 ?_
          simp (disch := first | omega | (simp only [lnx]; omega)) only [stdh, stdx, ↓reduceIte, Nat.reduceEqDiff, Int.reduceToNat, Int.reducePow, Nat.reduceAdd, Nat.reduceLeDiff, Nat.reduceMul, Nat.reduceBEq, reduceCtorEq, at_low, z0', z1, z2', z3, z5, z6, eqA, encM, List.getElem?_set_ne, List.getElem?_set_self, at_0s, at_ks, eq_self]
          refine callD_fn (same_ok _ m m sm.fits _ ?_)
          refine ⟨by simp (disch := first | omega | (simp only [lnx]; omega)) only [stdh, stdx, ↓reduceIte, Nat.reduceEqDiff, Int.reduceToNat, Int.reducePow, Nat.reduceAdd, Nat.reduceLeDiff, Nat.reduceMul, Nat.reduceBEq, reduceCtorEq, at_low, z0', z1, z2', z3, z5, z6, eqA, encM, List.getElem?_set_ne, List.getElem?_set_self, at_0s, at_ks, eq_self], ?_⟩
          refine runD_V 60 ?_
          by_cases hst0 : stop < 0
          · simp (disch := first | omega | (simp only [lnx]; omega)) only [stdh, stdx, ↓reduceIte, Nat.reduceEqDiff, Int.reduceToNat, Int.reducePow, Nat.reduceAdd, Nat.reduceLeDiff, Nat.reduceMul, Nat.reduceBEq, reduceCtorEq, at_low, z0', z1, z2', z3, z5, z6, eqA, encM, List.getElem?_set_ne, List.getElem?_set_self, at_0s, at_ks, eq_self, hst0]
          · have hks' : stop ≤ stop := by omega
            simp (disch := first | omega | (simp only [lnx]; omega)) only [stdh, stdx, ↓reduceIte, Nat.reduceEqDiff, Int.reduceToNat, Int.reducePow, Nat.reduceAdd, Nat.reduceLeDiff, Nat.reduceMul, Nat.reduceBEq, reduceCtorEq, at_low, z0', z1, z2', z3, z5, z6, eqA, encM, List.getElem?_set_ne, List.getElem?_set_self, at_0s, at_ks, eq_self, hst0, hks']
        · refine runL_V 60 ?_
          simp (disch := first | omega | (simp only [lnx]; omega)) only [stdh, stdx, ↓reduceIte, Nat.reduceEqDiff, Int.reduceToNat, Int.reducePow, Nat.reduceAdd, Nat.reduceLeDiff, Nat.reduceMul, Nat.reduceBEq, reduceCtorEq, r1, r2, z3, z0', hi0, hld, p, Int.reduceNeg, Int.reduceLE]
          refine callK_fn (get_ok _ m name _ ?_)
          rw [show getM m name = (m.num x.place, true) by simp [getM, hff, p]]
          refine runL_V 60 ?_
          simp (disch := first | omega | (simp only [lnx]; omega)) only [stdh, stdx, ↓reduceIte, Nat.reduceEqDiff, Int.reduceToNat, Int.reducePow, Nat.reduceAdd, Nat.reduceLeDiff, Nat.reduceMul, Nat.reduceBEq, reduceCtorEq, r1, r2, z0']
          refine callK_fn (set_ok _ m sm name v _ ?_)
          rw [show setM m name v = (m.put x.place v, true) by simp [setM, hff, p]]
          refine runL_V 60 ?_
          simp only [p, Mg.num, Mg.put, if_true, if_false, Int.reduceEq]
          simp (disch := first | omega | (simp only [lnx]; omega)) only [stdh, stdx, ↓reduceIte, Nat.reduceEqDiff, Int.reduceToNat, Int.reducePow, Nat.reduceAdd, Nat.reduceLeDiff, Nat.reduceMul, Nat.reduceBEq, reduceCtorEq, r1, r2, at_low, z0', encM]
          refine callK_fn (of17_ok _ m sm _ ?_)
          refine runL_V 100 ?_
          simp (disch := first | omega | (simp only [lnx]; omega)) only [stdh, stdx, ↓reduceIte, Nat.reduceEqDiff, Int.reduceToNat, Int.reducePow, Nat.reduceAdd, Nat.reduceLeDiff, Nat.reduceMul, Nat.reduceBEq, reduceCtorEq, r1, r2, at_low, set_low, z0', z3, z5, encM, hld, p, List.getElem?_set_ne, List.getElem?_set_self, cuneiformlaw17_MsgNumbers.d4]
          refine callD_fn (known17_ok _ _ ?_)
          refine ⟨by simp (disch := first | omega | (simp only [lnx]; omega)) only [stdh, stdx, ↓reduceIte, Nat.reduceEqDiff, Int.reduceToNat, Int.reducePow, Nat.reduceAdd, Nat.reduceLeDiff, Nat.reduceMul, Nat.reduceBEq, reduceCtorEq], ?_⟩
          refine runD_V 100 ?_
          simp (disch := first | omega | (simp only [lnx]; omega)) only [stdh, stdx, ↓reduceIte, Nat.reduceEqDiff, Int.reduceToNat, Int.reducePow, Nat.reduceAdd, Nat.reduceLeDiff, Nat.reduceMul, Nat.reduceBEq, reduceCtorEq, at_low, z0', z1, z2', z3, z5, z6, eqA, encM, List.getElem?_set_ne, List.getElem?_set_self, at_0s, at_ks, eq_self]
          refine callD_fn (of17_ok _ { m with n1 := v } ⟨sm.p, sm.c⟩ _ ?_)
          refine ⟨by simp (disch := first | omega | (simp only [lnx]; omega)) only [stdh, stdx, ↓reduceIte, Nat.reduceEqDiff, Int.reduceToNat, Int.reducePow, Nat.reduceAdd, Nat.reduceLeDiff, Nat.reduceMul, Nat.reduceBEq, reduceCtorEq, at_low, z0', z1, z2', z3, z5, z6, eqA, encM, List.getElem?_set_ne, List.getElem?_set_self, at_0s, at_ks, eq_self], ?_⟩
          refine runD_V 60 ?_
          simp (disch := first | omega | (simp only [lnx]; omega)) only [stdh, stdx, ↓reduceIte, Nat.reduceEqDiff, Int.reduceToNat, Int.reducePow, Nat.reduceAdd, Nat.reduceLeDiff, Nat.reduceMul, Nat.reduceBEq, reduceCtorEq, at_low, z0', z1, z2', z3, z5, z6, eqA, encM, List.getElem?_set_ne, List.getElem?_set_self, at_0s, at_ks, eq_self]
          refine callD_fn (rsame_ok _ { m with n1 := v } { m with n1 := v } sm.fit2 _ ?_)
          refine ⟨by simp (disch := first | omega | (simp only [lnx]; omega)) only [stdh, stdx, ↓reduceIte, Nat.reduceEqDiff, Int.reduceToNat, Int.reducePow, Nat.reduceAdd, Nat.reduceLeDiff, Nat.reduceMul, Nat.reduceBEq, reduceCtorEq, at_low, z0', z1, z2', z3, z5, z6, eqA, encM, List.getElem?_set_ne, List.getElem?_set_self, at_0s, at_ks, eq_self], ?_⟩
          refine runD_V 60 ?_
          simp (disch := first | omega | (simp only [lnx]; omega)) only [stdh, stdx, ↓reduceIte, Nat.reduceEqDiff, Int.reduceToNat, Int.reducePow, Nat.reduceAdd, Nat.reduceLeDiff, Nat.reduceMul, Nat.reduceBEq, reduceCtorEq, at_low, z0', z1, z2', z3, z5, z6, eqA, encM, List.getElem?_set_ne, List.getElem?_set_self, at_0s, at_ks, eq_self]
          refine callD_fn (same_ok _ m m sm.fits _ ?_)
          refine ⟨by simp (disch := first | omega | (simp only [lnx]; omega)) only [stdh, stdx, ↓reduceIte, Nat.reduceEqDiff, Int.reduceToNat, Int.reducePow, Nat.reduceAdd, Nat.reduceLeDiff, Nat.reduceMul, Nat.reduceBEq, reduceCtorEq, at_low, z0', z1, z2', z3, z5, z6, eqA, encM, List.getElem?_set_ne, List.getElem?_set_self, at_0s, at_ks, eq_self], ?_⟩
          refine runD_V 60 ?_
          by_cases hst0 : stop < 0
          · simp (disch := first | omega | (simp only [lnx]; omega)) only [stdh, stdx, ↓reduceIte, Nat.reduceEqDiff, Int.reduceToNat, Int.reducePow, Nat.reduceAdd, Nat.reduceLeDiff, Nat.reduceMul, Nat.reduceBEq, reduceCtorEq, at_low, z0', z1, z2', z3, z5, z6, eqA, encM, List.getElem?_set_ne, List.getElem?_set_self, at_0s, at_ks, eq_self, hst0]
          · have hks' : stop ≤ stop := by omega
            simp (disch := first | omega | (simp only [lnx]; omega)) only [stdh, stdx, ↓reduceIte, Nat.reduceEqDiff, Int.reduceToNat, Int.reducePow, Nat.reduceAdd, Nat.reduceLeDiff, Nat.reduceMul, Nat.reduceBEq, reduceCtorEq, at_low, z0', z1, z2', z3, z5, z6, eqA, encM, List.getElem?_set_ne, List.getElem?_set_self, at_0s, at_ks, eq_self, hst0, hks']
        · refine runL_V 60 ?_
          simp (disch := first | omega | (simp only [lnx]; omega)) only [stdh, stdx, ↓reduceIte, Nat.reduceEqDiff, Int.reduceToNat, Int.reducePow, Nat.reduceAdd, Nat.reduceLeDiff, Nat.reduceMul, Nat.reduceBEq, reduceCtorEq, r1, r2, z3, z0', hi0, hld, p, Int.reduceNeg, Int.reduceLE]
          refine callK_fn (get_ok _ m name _ ?_)
          rw [show getM m name = (m.num x.place, true) by simp [getM, hff, p]]
          refine runL_V 60 ?_
          simp (disch := first | omega | (simp only [lnx]; omega)) only [stdh, stdx, ↓reduceIte, Nat.reduceEqDiff, Int.reduceToNat, Int.reducePow, Nat.reduceAdd, Nat.reduceLeDiff, Nat.reduceMul, Nat.reduceBEq, reduceCtorEq, r1, r2, z0']
          refine callK_fn (set_ok _ m sm name v _ ?_)
          rw [show setM m name v = (m.put x.place v, true) by simp [setM, hff, p]]
          refine runL_V 60 ?_
          simp only [p, Mg.num, Mg.put, if_true, if_false, Int.reduceEq]
          simp (disch := first | omega | (simp only [lnx]; omega)) only [stdh, stdx, ↓reduceIte, Nat.reduceEqDiff, Int.reduceToNat, Int.reducePow, Nat.reduceAdd, Nat.reduceLeDiff, Nat.reduceMul, Nat.reduceBEq, reduceCtorEq, r1, r2, at_low, z0', encM]
          refine callK_fn (of17_ok _ m sm _ ?_)
          refine runL_V 100 ?_
          simp (disch := first | omega | (simp only [lnx]; omega)) only [stdh, stdx, ↓reduceIte, Nat.reduceEqDiff, Int.reduceToNat, Int.reducePow, Nat.reduceAdd, Nat.reduceLeDiff, Nat.reduceMul, Nat.reduceBEq, reduceCtorEq, r1, r2, at_low, set_low, z0', z3, z5, encM, hld, p, List.getElem?_set_ne, List.getElem?_set_self, cuneiformlaw17_MsgNumbers.d4]
          refine callD_fn (known17_ok _ _ ?_)
          refine ⟨by simp (disch := first | omega | (simp only [lnx]; omega)) only [stdh, stdx, ↓reduceIte, Nat.reduceEqDiff, Int.reduceToNat, Int.reducePow, Nat.reduceAdd, Nat.reduceLeDiff, Nat.reduceMul, Nat.reduceBEq, reduceCtorEq], ?_⟩
          refine runD_V 100 ?_
          simp (disch := first | omega | (simp only [lnx]; omega)) only [stdh, stdx, ↓reduceIte, Nat.reduceEqDiff, Int.reduceToNat, Int.reducePow, Nat.reduceAdd, Nat.reduceLeDiff, Nat.reduceMul, Nat.reduceBEq, reduceCtorEq, at_low, z0', z1, z2', z3, z5, z6, eqA, encM, List.getElem?_set_ne, List.getElem?_set_self, at_0s, at_ks, eq_self]
          refine callD_fn (of17_ok _ { m with n2 := v } ⟨sm.p, sm.c⟩ _ ?_)
          refine ⟨by simp (disch := first | omega | (simp only [lnx]; omega)) only [stdh, stdx, ↓reduceIte, Nat.reduceEqDiff, Int.reduceToNat, Int.reducePow, Nat.reduceAdd, Nat.reduceLeDiff, Nat.reduceMul, Nat.reduceBEq, reduceCtorEq, at_low, z0', z1, z2', z3, z5, z6, eqA, encM, List.getElem?_set_ne, List.getElem?_set_self, at_0s, at_ks, eq_self], ?_⟩
          refine runD_V 60 ?_
          simp (disch := first | omega | (simp only [lnx]; omega)) only [stdh, stdx, ↓reduceIte, Nat.reduceEqDiff, Int.reduceToNat, Int.reducePow, Nat.reduceAdd, Nat.reduceLeDiff, Nat.reduceMul, Nat.reduceBEq, reduceCtorEq, at_low, z0', z1, z2', z3, z5, z6, eqA, encM, List.getElem?_set_ne, List.getElem?_set_self, at_0s, at_ks, eq_self]
          refine callD_fn (rsame_ok _ { m with n2 := v } { m with n2 := v } sm.fit2 _ ?_)
          refine ⟨by simp (disch := first | omega | (simp only [lnx]; omega)) only [stdh, stdx, ↓reduceIte, Nat.reduceEqDiff, Int.reduceToNat, Int.reducePow, Nat.reduceAdd, Nat.reduceLeDiff, Nat.reduceMul, Nat.reduceBEq, reduceCtorEq, at_low, z0', z1, z2', z3, z5, z6, eqA, encM, List.getElem?_set_ne, List.getElem?_set_self, at_0s, at_ks, eq_self], ?_⟩
          refine runD_V 60 ?_
          simp (disch := first | omega | (simp only [lnx]; omega)) only [stdh, stdx, ↓reduceIte, Nat.reduceEqDiff, Int.reduceToNat, Int.reducePow, Nat.reduceAdd, Nat.reduceLeDiff, Nat.reduceMul, Nat.reduceBEq, reduceCtorEq, at_low, z0', z1, z2', z3, z5, z6, eqA, encM, List.getElem?_set_ne, List.getElem?_set_self, at_0s, at_ks, eq_self]
          refine callD_fn (same_ok _ m m sm.fits _ ?_)
          refine ⟨by simp (disch := first | omega | (simp only [lnx]; omega)) only [stdh, stdx, ↓reduceIte, Nat.reduceEqDiff, Int.reduceToNat, Int.reducePow, Nat.reduceAdd, Nat.reduceLeDiff, Nat.reduceMul, Nat.reduceBEq, reduceCtorEq, at_low, z0', z1, z2', z3, z5, z6, eqA, encM, List.getElem?_set_ne, List.getElem?_set_self, at_0s, at_ks, eq_self], ?_⟩
          refine runD_V 60 ?_
          by_cases hst0 : stop < 0
          · simp (disch := first | omega | (simp only [lnx]; omega)) only [stdh, stdx, ↓reduceIte, Nat.reduceEqDiff, Int.reduceToNat, Int.reducePow, Nat.reduceAdd, Nat.reduceLeDiff, Nat.reduceMul, Nat.reduceBEq, reduceCtorEq, at_low, z0', z1, z2', z3, z5, z6, eqA, encM, List.getElem?_set_ne, List.getElem?_set_self, at_0s, at_ks, eq_self, hst0]
          · have hks' : stop ≤ stop := by omega
            simp (disch := first | omega | (simp only [lnx]; omega)) only [stdh, stdx, ↓reduceIte, Nat.reduceEqDiff, Int.reduceToNat, Int.reducePow, Nat.reduceAdd, Nat.reduceLeDiff, Nat.reduceMul, Nat.reduceBEq, reduceCtorEq, at_low, z0', z1, z2', z3, z5, z6, eqA, encM, List.getElem?_set_ne, List.getElem?_set_self, at_0s, at_ks, eq_self, hst0, hks']
        · refine runL_V 60 ?_
          simp (disch := first | omega | (simp only [lnx]; omega)) only [stdh, stdx, ↓reduceIte, Nat.reduceEqDiff, Int.reduceToNat, Int.reducePow, Nat.reduceAdd, Nat.reduceLeDiff, Nat.reduceMul, Nat.reduceBEq, reduceCtorEq, r1, r2, z3, z0', hi0, hld, p, Int.reduceNeg, Int.reduceLE]
          refine callK_fn (get_ok _ m name _ ?_)
          rw [show getM m name = (m.num x.place, true) by simp [getM, hff, p]]
          refine runL_V 60 ?_
          simp (disch := first | omega | (simp only [lnx]; omega)) only [stdh, stdx, ↓reduceIte, Nat.reduceEqDiff, Int.reduceToNat, Int.reducePow, Nat.reduceAdd, Nat.reduceLeDiff, Nat.reduceMul, Nat.reduceBEq, reduceCtorEq, r1, r2, z0']
          refine callK_fn (set_ok _ m sm name v _ ?_)
          rw [show setM m name v = (m.put x.place v, true) by simp [setM, hff, p]]
          refine runL_V 60 ?_
          simp only [p, Mg.num, Mg.put, if_true, if_false, Int.reduceEq]
          simp (disch := first | omega | (simp only [lnx]; omega)) only [stdh, stdx, ↓reduceIte, Nat.reduceEqDiff, Int.reduceToNat, Int.reducePow, Nat.reduceAdd, Nat.reduceLeDiff, Nat.reduceMul, Nat.reduceBEq, reduceCtorEq, r1, r2, at_low, z0', encM]
          refine callK_fn (of17_ok _ m sm _ ?_)
          refine runL_V 100 ?_
          simp (disch := first | omega | (simp only [lnx]; omega)) only [stdh, stdx, ↓reduceIte, Nat.reduceEqDiff, Int.reduceToNat, Int.reducePow, Nat.reduceAdd, Nat.reduceLeDiff, Nat.reduceMul, Nat.reduceBEq, reduceCtorEq, r1, r2, at_low, set_low, z0', z3, z5, encM, hld, p, List.getElem?_set_ne, List.getElem?_set_self, cuneiformlaw17_MsgNumbers.d4]
          refine callD_fn (known17_ok _ _ ?_)
          refine ⟨by simp (disch := first | omega | (simp only [lnx]; omega)) only [stdh, stdx, ↓reduceIte, Nat.reduceEqDiff, Int.reduceToNat, Int.reducePow, Nat.reduceAdd, Nat.reduceLeDiff, Nat.reduceMul, Nat.reduceBEq, reduceCtorEq], ?_⟩
          refine runD_V 100 ?_
          simp (disch := first | omega | (simp only [lnx]; omega)) only [stdh, stdx, ↓reduceIte, Nat.reduceEqDiff, Int.reduceToNat, Int.reducePow, Nat.reduceAdd, Nat.reduceLeDiff, Nat.reduceMul, Nat.reduceBEq, reduceCtorEq, at_low, z0', z1, z2', z3, z5, z6, eqA, encM, List.getElem?_set_ne, List.getElem?_set_self, at_0s, at_ks, eq_self]
          refine callD_fn (of17_ok _ { m with n3 := v } ⟨sm.p, sm.c⟩ _ ?_)
          refine ⟨by simp (disch := first | omega | (simp only [lnx]; omega)) only [stdh, stdx, ↓reduceIte, Nat.reduceEqDiff, Int.reduceToNat, Int.reducePow, Nat.reduceAdd, Nat.reduceLeDiff, Nat.reduceMul, Nat.reduceBEq, reduceCtorEq, at_low, z0', z1, z2', z3, z5, z6, eqA, encM, List.getElem?_set_ne, List.getElem?_set_self, at_0s, at_ks, eq_self], ?_⟩
          refine runD_V 60 ?_
          simp (disch := first | omega | (simp only [lnx]; omega)) only [stdh, stdx, ↓reduceIte, Nat.reduceEqDiff, Int.reduceToNat, Int.reducePow, Nat.reduceAdd, Nat.reduceLeDiff, Nat.reduceMul, Nat.reduceBEq, reduceCtorEq, at_low, z0', z1, z2', z3, z5, z6, eqA, encM, List.getElem?_set_ne, List.getElem?_set_self, at_0s, at_ks, eq_self]
          refine callD_fn (rsame_ok _ { m with n3 := v } { m with n3 := v } sm.fit2 _ ?_)
          refine ⟨by simp (disch := first | omega | (simp only [lnx]; omega)) only [stdh, stdx, ↓reduceIte, Nat.reduceEqDiff, Int.reduceToNat, Int.reducePow, Nat.reduceAdd, Nat.reduceLeDiff, Nat.reduceMul, Nat.reduceBEq, reduceCtorEq, at_low, z0', z1, z2', z3, z5, z6, eqA, encM, List.getElem?_set_ne, List.getElem?_set_self, at_0s, at_ks, eq_self], ?_⟩
          refine runD_V 60 ?_
          simp (disch := first | omega | (simp only [lnx]; omega)) only [stdh, stdx, ↓reduceIte, Nat.reduceEqDiff, Int.reduceToNat, Int.reducePow, Nat.reduceAdd, Nat.reduceLeDiff, Nat.reduceMul, Nat.reduceBEq, reduceCtorEq, at_low, z0', z1, z2', z3, z5, z6, eqA, encM, List.getElem?_set_ne, List.getElem?_set_self, at_0s, at_ks, eq_self]
          refine callD_fn (same_ok _ m m sm.fits _ ?_)
          refine ⟨by simp (disch := first | omega | (simp only [lnx]; omega)) only [stdh, stdx, ↓reduceIte, Nat.reduceEqDiff, Int.reduceToNat, Int.reducePow, Nat.reduceAdd, Nat.reduceLeDiff, Nat.reduceMul, Nat.reduceBEq, reduceCtorEq, at_low, z0', z1, z2', z3, z5, z6, eqA, encM, List.getElem?_set_ne, List.getElem?_set_self, at_0s, at_ks, eq_self], ?_⟩
          refine runD_V 60 ?_
          by_cases hst0 : stop < 0
          · simp (disch := first | omega | (simp only [lnx]; omega)) only [stdh, stdx, ↓reduceIte, Nat.reduceEqDiff, Int.reduceToNat, Int.reducePow, Nat.reduceAdd, Nat.reduceLeDiff, Nat.reduceMul, Nat.reduceBEq, reduceCtorEq, at_low, z0', z1, z2', z3, z5, z6, eqA, encM, List.getElem?_set_ne, List.getElem?_set_self, at_0s, at_ks, eq_self, hst0]
          · have hks' : stop ≤ stop := by omega
            simp (disch := first | omega | (simp only [lnx]; omega)) only [stdh, stdx, ↓reduceIte, Nat.reduceEqDiff, Int.reduceToNat, Int.reducePow, Nat.reduceAdd, Nat.reduceLeDiff, Nat.reduceMul, Nat.reduceBEq, reduceCtorEq, at_low, z0', z1, z2', z3, z5, z6, eqA, encM, List.getElem?_set_ne, List.getElem?_set_self, at_0s, at_ks, eq_self, hst0, hks']
        · refine runL_V 60 ?_
          simp (disch := first | omega | (simp only [lnx]; omega)) only [stdh, stdx, ↓reduceIte, Nat.reduceEqDiff, Int.reduceToNat, Int.reducePow, Nat.reduceAdd, Nat.reduceLeDiff, Nat.reduceMul, Nat.reduceBEq, reduceCtorEq, r1, r2, z3, z0', hi0, hld, p, Int.reduceNeg, Int.reduceLE]
          refine callK_fn (get_ok _ m name _ ?_)
          rw [show getM m name = (m.num x.place, true) by simp [getM, hff, p]]
          refine runL_V 60 ?_
          simp (disch := first | omega | (simp only [lnx]; omega)) only [stdh, stdx, ↓reduceIte, Nat.reduceEqDiff, Int.reduceToNat, Int.reducePow, Nat.reduceAdd, Nat.reduceLeDiff, Nat.reduceMul, Nat.reduceBEq, reduceCtorEq, r1, r2, z0']
          refine callK_fn (set_ok _ m sm name v _ ?_)
          rw [show setM m name v = (m.put x.place v, true) by simp [setM, hff, p]]
          refine runL_V 60 ?_
          simp only [p, Mg.num, Mg.put, if_true, if_false, Int.reduceEq]
          simp (disch := first | omega | (simp only [lnx]; omega)) only [stdh, stdx, ↓reduceIte, Nat.reduceEqDiff, Int.reduceToNat, Int.reducePow, Nat.reduceAdd, Nat.reduceLeDiff, Nat.reduceMul, Nat.reduceBEq, reduceCtorEq, r1, r2, at_low, z0', encM]
          refine callK_fn (of17_ok _ m sm _ ?_)
          refine runL_V 100 ?_
          simp (disch := first | omega | (simp only [lnx]; omega)) only [stdh, stdx, ↓reduceIte, Nat.reduceEqDiff, Int.reduceToNat, Int.reducePow, Nat.reduceAdd, Nat.reduceLeDiff, Nat.reduceMul, Nat.reduceBEq, reduceCtorEq, r1, r2, at_low, set_low, z0', z3, z5, encM, hld, p, List.getElem?_set_ne, List.getElem?_set_self, cuneiformlaw17_MsgNumbers.d4]
          refine callD_fn (known17_ok _ _ ?_)
          refine ⟨by simp (disch := first | omega | (simp only [lnx]; omega)) only [stdh, stdx, ↓reduceIte, Nat.reduceEqDiff, Int.reduceToNat, Int.reducePow, Nat.reduceAdd, Nat.reduceLeDiff, Nat.reduceMul, Nat.reduceBEq, reduceCtorEq], ?_⟩
          refine runD_V 100 ?_
          simp (disch := first | omega | (simp only [lnx]; omega)) only [stdh, stdx, ↓reduceIte, Nat.reduceEqDiff, Int.reduceToNat, Int.reducePow, Nat.reduceAdd, Nat.reduceLeDiff, Nat.reduceMul, Nat.reduceBEq, reduceCtorEq, at_low, z0', z1, z2', z3, z5, z6, eqA, encM, List.getElem?_set_ne, List.getElem?_set_self, at_0s, at_ks, eq_self]
          refine callD_fn (of17_ok _ { m with n4 := v } ⟨sm.p, sm.c⟩ _ ?_)
          refine ⟨by simp (disch := first | omega | (simp only [lnx]; omega)) only [stdh, stdx, ↓reduceIte, Nat.reduceEqDiff, Int.reduceToNat, Int.reducePow, Nat.reduceAdd, Nat.reduceLeDiff, Nat.reduceMul, Nat.reduceBEq, reduceCtorEq, at_low, z0', z1, z2', z3, z5, z6, eqA, encM, List.getElem?_set_ne, List.getElem?_set_self, at_0s, at_ks, eq_self], ?_⟩
          refine runD_V 60 ?_
          simp (disch := first | omega | (simp only [lnx]; omega)) only [stdh, stdx, ↓reduceIte, Nat.reduceEqDiff, Int.reduceToNat, Int.reducePow, Nat.reduceAdd, Nat.reduceLeDiff, Nat.reduceMul, Nat.reduceBEq, reduceCtorEq, at_low, z0', z1, z2', z3, z5, z6, eqA, encM, List.getElem?_set_ne, List.getElem?_set_self, at_0s, at_ks, eq_self]
          refine callD_fn (rsame_ok _ { m with n4 := v } { m with n4 := v } sm.fit2 _ ?_)
          refine ⟨by simp (disch := first | omega | (simp only [lnx]; omega)) only [stdh, stdx, ↓reduceIte, Nat.reduceEqDiff, Int.reduceToNat, Int.reducePow, Nat.reduceAdd, Nat.reduceLeDiff, Nat.reduceMul, Nat.reduceBEq, reduceCtorEq, at_low, z0', z1, z2', z3, z5, z6, eqA, encM, List.getElem?_set_ne, List.getElem?_set_self, at_0s, at_ks, eq_self], ?_⟩
          refine runD_V 60 ?_
          simp (disch := first | omega | (simp only [lnx]; omega)) only [stdh, stdx, ↓reduceIte, Nat.reduceEqDiff, Int.reduceToNat, Int.reducePow, Nat.reduceAdd, Nat.reduceLeDiff, Nat.reduceMul, Nat.reduceBEq, reduceCtorEq, at_low, z0', z1, z2', z3, z5, z6, eqA, encM, List.getElem?_set_ne, List.getElem?_set_self, at_0s, at_ks, eq_self]
          refine callD_fn (same_ok _ m m sm.fits _ ?_)
          refine ⟨by simp (disch := first | omega | (simp only [lnx]; omega)) only [stdh, stdx, ↓reduceIte, Nat.reduceEqDiff, Int.reduceToNat, Int.reducePow, Nat.reduceAdd, Nat.reduceLeDiff, Nat.reduceMul, Nat.reduceBEq, reduceCtorEq, at_low, z0', z1, z2', z3, z5, z6, eqA, encM, List.getElem?_set_ne, List.getElem?_set_self, at_0s, at_ks, eq_self], ?_⟩
          refine runD_V 60 ?_
          by_cases hst0 : stop < 0
          · simp (disch := first | omega | (simp only [lnx]; omega)) only [stdh, stdx, ↓reduceIte, Nat.reduceEqDiff, Int.reduceToNat, Int.reducePow, Nat.reduceAdd, Nat.reduceLeDiff, Nat.reduceMul, Nat.reduceBEq, reduceCtorEq, at_low, z0', z1, z2', z3, z5, z6, eqA, encM, List.getElem?_set_ne, List.getElem?_set_self, at_0s, at_ks, eq_self, hst0]
          · have hks' : stop ≤ stop := by omega
            simp (disch := first | omega | (simp only [lnx]; omega)) only [stdh, stdx, ↓reduceIte, Nat.reduceEqDiff, Int.reduceToNat, Int.reducePow, Nat.reduceAdd, Nat.reduceLeDiff, Nat.reduceMul, Nat.reduceBEq, reduceCtorEq, at_low, z0', z1, z2', z3, z5, z6, eqA, encM, List.getElem?_set_ne, List.getElem?_set_self, at_0s, at_ks, eq_self, hst0, hks']
        · refine runL_V 60 ?_
          simp (disch := first | omega | (simp only [lnx]; omega)) only [stdh, stdx, ↓reduceIte, Nat.reduceEqDiff, Int.reduceToNat, Int.reducePow, Nat.reduceAdd, Nat.reduceLeDiff, Nat.reduceMul, Nat.reduceBEq, reduceCtorEq, r1, r2, z3, z0', hi0, hld, p, Int.reduceNeg, Int.reduceLE]
          refine callK_fn (get_ok _ m name _ ?_)
          rw [show getM m name = (m.num x.place, true) by simp [getM, hff, p]]
          refine runL_V 60 ?_
          simp (disch := first | omega | (simp only [lnx]; omega)) only [stdh, stdx, ↓reduceIte, Nat.reduceEqDiff, Int.reduceToNat, Int.reducePow, Nat.reduceAdd, Nat.reduceLeDiff, Nat.reduceMul, Nat.reduceBEq, reduceCtorEq, r1, r2, z0']
          refine callK_fn (set_ok _ m sm name v _ ?_)
          rw [show setM m name v = (m.put x.place v, true) by simp [setM, hff, p]]
          refine runL_V 60 ?_
          simp only [p, Mg.num, Mg.put, if_true, if_false, Int.reduceEq]
          simp (disch := first | omega | (simp only [lnx]; omega)) only [stdh, stdx, ↓reduceIte, Nat.reduceEqDiff, Int.reduceToNat, Int.reducePow, Nat.reduceAdd, Nat.reduceLeDiff, Nat.reduceMul, Nat.reduceBEq, reduceCtorEq, r1, r2, at_low, z0', encM]
          refine callK_fn (of17_ok _ m sm _ ?_)
          refine runL_V 100 ?_
          simp (disch := first | omega | (simp only [lnx]; omega)) only [stdh, stdx, ↓reduceIte, Nat.reduceEqDiff, Int.reduceToNat, Int.reducePow, Nat.reduceAdd, Nat.reduceLeDiff, Nat.reduceMul, Nat.reduceBEq, reduceCtorEq, r1, r2, at_low, set_low, z0', z3, z5, encM, hld, p, List.getElem?_set_ne, List.getElem?_set_self, cuneiformlaw17_MsgNumbers.d4]
          refine callD_fn (known17_ok _ _ ?_)
          refine ⟨by simp (disch := first | omega | (simp only [lnx]; omega)) only [stdh, stdx, ↓reduceIte, Nat.reduceEqDiff, Int.reduceToNat, Int.reducePow, Nat.reduceAdd, Nat.reduceLeDiff, Nat.reduceMul, Nat.reduceBEq, reduceCtorEq], ?_⟩
          refine runD_V 100 ?_
          simp (disch := first | omega | (simp only [lnx]; omega)) only [stdh, stdx, ↓reduceIte, Nat.reduceEqDiff, Int.reduceToNat, Int.reducePow, Nat.reduceAdd, Nat.reduceLeDiff, Nat.reduceMul, Nat.reduceBEq, reduceCtorEq, at_low, z0', z1, z2', z3, z5, z6, eqA, encM, List.getElem?_set_ne, List.getElem?_set_self, at_0s, at_ks, eq_self]
          refine callD_fn (of17_ok _ { m with n5 := v } ⟨sm.p, sm.c⟩ _ ?_)
          refine ⟨by simp (disch := first | omega | (simp only [lnx]; omega)) only [stdh, stdx, ↓reduceIte, Nat.reduceEqDiff, Int.reduceToNat, Int.reducePow, Nat.reduceAdd, Nat.reduceLeDiff, Nat.reduceMul, Nat.reduceBEq, reduceCtorEq, at_low, z0', z1, z2', z3, z5, z6, eqA, encM, List.getElem?_set_ne, List.getElem?_set_self, at_0s, at_ks, eq_self], ?_⟩
          refine runD_V 60 ?_
          simp (disch := first | omega | (simp only [lnx]; omega)) only [stdh, stdx, ↓reduceIte, Nat.reduceEqDiff, Int.reduceToNat, Int.reducePow, Nat.reduceAdd, Nat.reduceLeDiff, Nat.reduceMul, Nat.reduceBEq, reduceCtorEq, at_low, z0', z1, z2', z3, z5, z6, eqA, encM, List.getElem?_set_ne, List.getElem?_set_self, at_0s, at_ks, eq_self]
          refine callD_fn (rsame_ok _ { m with n5 := v } { m with n5 := v } sm.fit2 _ ?_)
          refine ⟨by simp (disch := first | omega | (simp only [lnx]; omega)) only [stdh, stdx, ↓reduceIte, Nat.reduceEqDiff, Int.reduceToNat, Int.reducePow, Nat.reduceAdd, Nat.reduceLeDiff, Nat.reduceMul, Nat.reduceBEq, reduceCtorEq, at_low, z0', z1, z2', z3, z5, z6, eqA, encM, List.getElem?_set_ne, List.getElem?_set_self, at_0s, at_ks, eq_self], ?_⟩
          refine runD_V 60 ?_
          simp (disch := first | omega | (simp only [lnx]; omega)) only [stdh, stdx, ↓reduceIte, Nat.reduceEqDiff, Int.reduceToNat, Int.reducePow, Nat.reduceAdd, Nat.reduceLeDiff, Nat.reduceMul, Nat.reduceBEq, reduceCtorEq, at_low, z0', z1, z2', z3, z5, z6, eqA, encM, List.getElem?_set_ne, List.getElem?_set_self, at_0s, at_ks, eq_self]
          refine callD_fn (same_ok _ m m sm.fits _ ?_)
          refine ⟨by simp (disch := first | omega | (simp only [lnx]; omega)) only [stdh, stdx, ↓reduceIte, Nat.reduceEqDiff, Int.reduceToNat, Int.reducePow, Nat.reduceAdd, Nat.reduceLeDiff, Nat.reduceMul, Nat.reduceBEq, reduceCtorEq, at_low, z0', z1, z2', z3, z5, z6, eqA, encM, List.getElem?_set_ne, List.getElem?_set_self, at_0s, at_ks, eq_self], ?_⟩
          refine runD_V 60 ?_
          by_cases hst0 : stop < 0
          · simp (disch := first | omega | (simp only [lnx]; omega)) only [stdh, stdx, ↓reduceIte, Nat.reduceEqDiff, Int.reduceToNat, Int.reducePow, Nat.reduceAdd, Nat.reduceLeDiff, Nat.reduceMul, Nat.reduceBEq, reduceCtorEq, at_low, z0', z1, z2', z3, z5, z6, eqA, encM, List.getElem?_set_ne, List.getElem?_set_self, at_0s, at_ks, eq_self, hst0]
          · have hks' : stop ≤ stop := by omega
            simp (disch := first | omega | (simp only [lnx]; omega)) only [stdh, stdx, ↓reduceIte, Nat.reduceEqDiff, Int.reduceToNat, Int.reducePow, Nat.reduceAdd, Nat.reduceLeDiff, Nat.reduceMul, Nat.reduceBEq, reduceCtorEq, at_low, z0', z1, z2', z3, z5, z6, eqA, encM, List.getElem?_set_ne, List.getElem?_set_self, at_0s, at_ks, eq_self, hst0, hks']
end Go.Proofs.Ytlkadcahjifolaa

namespace Go.Proofs.Ytlkadcahjifolaa.msgNumbers
open Go Go.Am Go.ChangeShapes Go.WideShapes Go.ChangeAt Go.RowKit
set_option linter.unusedVariables false

theorem own : ownKnob Try.prog.godebug = none := by kernel_rfl
theorem laidOut : laidOutB Try.prog = true := by kernel_rfl

set_option maxRecDepth 100000 in
theorem lifted (os : Os) (started : os.Started) (H : Type) (enc : TypeId × Value → H) :
    ReturnsInHanded {} Try.checked os F.cuneiformlaw17_MsgNumbers .any (Rows.msgNumbersSpec.pre6 enc Try.prog Try.f4 Rows.msgNumbersRow.domain false) (Rows.msgNumbersSpec.post enc Try.prog Try.f4 false true false false) := by
  refine returnsInHanded_of_change (C := Try.checked) own started (by kernel_rfl) Try.func4
    (ChangeSpec.witness6 (enc := enc) (C := Try.checked) false ⟨#[], #[.agg #[.int .i64 0, .int .i64 0, .int .i64 0, .int .i64 0, .int .i64 0, .int .i64 0, .int .i64 0, .slice none 0 0, .slice none 0 0, .string ⟨#[]⟩, .string ⟨#[]⟩], .string ⟨#[]⟩, .int .i64 0, .int .i64 0], []⟩ 8 (by kernel_rfl) (by kernel_rfl) (by kernel_rfl) (by kernel_rfl)) ?_
  intro W base args ds gs before hval hW hcnd _
  refine law_calls (shs := [shMsg, .str, .int .i64, .int .i64]) (tb := 4) laidOut (by kernel_rfl) ?_ (by kernel_rfl) Try.underlying4 rfl ?_ ?_ hval hW
  · intro t ht
    have : ∀ t ∈ Try.f4.params.toList, (Try.prog.readableRec t && decide (t < Try.prog.types.size)) = true := List.all_eq_true.1 (by kernel_rfl)
    simpa using this t ht
  · intro H ds hd
    match ds, hd with
    | [d0, d1, d2, d3], _ => exact ⟨rfl, rfl, rfl⟩
  · rintro xs ⟨a, r, rfl, ha, b, r2, rfl, ⟨s, hs, _⟩, c, r3, rfl, ⟨v, hv, _⟩, d, r4, rfl, ⟨k, hk, _⟩, rfl⟩
    cases hs
    cases hv
    cases hk
    obtain ⟨x, x1, x2, _⟩ := msg_fits2 ha
    exact fun_sees (.cons x1 (.cons (.refl _) (.cons (.refl _) (.cons (.refl _) .nil)))) (msgnumbers_ok ⟨x2.p, x2.c, x2.t, x2.g⟩ s v k)

theorem proved : Rows.MsgNumbersSaid :=
  OpenClaim.holds_of_wide F.cuneiformlaw17_MsgNumbers Try.f4 rfl rfl rfl rfl rfl rfl rfl ⟨rfl, rfl, rfl, rfl, rfl⟩ rfl rfl rfl rfl rfl (by kernel_rfl) Try.func4 (by kernel_rfl)
    (of_decide_eq_true (by kernel_rfl)) (by unfold Func.isWrapper; first | (rw [if_pos (by decide +kernel)]; kernel_rfl) | (rw [if_neg (by decide +kernel)]; exact ⟨rfl, rfl⟩))
    (fun os started H enc _ => lifted os started H enc)
end Go.Proofs.Ytlkadcahjifolaa.msgNumbers
