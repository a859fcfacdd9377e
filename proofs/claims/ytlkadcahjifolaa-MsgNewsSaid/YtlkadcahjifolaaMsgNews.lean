/-
  MsgNewsSaid: whatever the three numbers, the law MsgNews returns true, and the input reads as it did. No condition. By an AI agent. No person has read it.
-/
import Derived.Test.YtlkadcahjifolaaMSGA
import Derived.Test.YtlkadcahjifolaaMSGC
import Derived.Test.YtlkadcahjifolaaAm6
import Derived.OpenShut
import Derived.Test.YtlkadcahjifolaaRows

namespace Go.Proofs.Ytlkadcahjifolaa
open Go Go.Am
set_option linter.unusedSimpArgs false
set_option linter.unusedVariables false

/-- Where the next field is that a version has. -/
def nx (l : List Fld) (v : Int) (i : Nat) : Nat := i + ((l.drop i).takeWhile fun f => decide (v < f.since)).length
def pos (l : List Fld) (v : Int) : Nat → Nat
  | 0 => 0
  | j + 1 => nx l v (pos l v j) + 1

theorem drop_get {l : List Fld} {i : Nat} (h : i < l.length) : l.drop i = l.getD i fld0 :: l.drop (i + 1) := by
  rw [List.drop_eq_getElem_cons h]; simp [h]

theorem nx_bad {l : List Fld} {v : Int} {i : Nat} (h : i < l.length) (hb : v < (l.getD i fld0).since) : nx l v i = nx l v (i + 1) := by
  unfold nx
  rw [drop_get h, List.takeWhile_cons, if_pos (by simpa using hb), List.length_cons]; omega
theorem nx_good {l : List Fld} {v : Int} {i : Nat} (h : i < l.length) (hb : ¬ v < (l.getD i fld0).since) : nx l v i = i := by
  unfold nx
  rw [drop_get h, List.takeWhile_cons, if_neg (by simpa using hb)]; rfl
theorem nx_end {l : List Fld} {v : Int} {i : Nat} (h : ¬ i < l.length) : nx l v i = i := by
  unfold nx
  rw [List.drop_eq_nil_of_le (by omega)]; rfl

theorem nx_spec {l : List Fld} {v : Int} : ∀ (m i : Nat), l.length - i = m → i ≤ l.length → nx l v i ≤ l.length ∧ (l.drop i).filter (fun f => decide (f.since ≤ v)) = (l.drop (nx l v i)).filter (fun f => decide (f.since ≤ v)) ∧ (nx l v i < l.length → (l.getD (nx l v i) fld0).since ≤ v)
  | m, i, h, hi => by
    by_cases h1 : i < l.length
    · by_cases h2 : v < (l.getD i fld0).since
      · obtain ⟨q1, q2, q3⟩ := nx_spec (l := l) (v := v) (m - 1) (i + 1) (by omega) (by omega)
        rw [nx_bad h1 h2]
        refine ⟨q1, ?_, q3⟩
        rw [drop_get h1, List.filter_cons, if_neg (by rw [decide_eq_true_eq]; omega), q2]
      · rw [nx_good h1 h2]; exact ⟨hi, rfl, fun _ => by omega⟩
    · rw [nx_end h1]; exact ⟨hi, rfl, fun h => absurd h h1⟩
  termination_by m => m
  decreasing_by omega

theorem pos_inv {k v : Int} : ∀ (j : Nat), j ≤ (versionFields k v).length → pos (fieldsOf k) v j ≤ (fieldsOf k).length ∧ ((fieldsOf k).drop (pos (fieldsOf k) v j)).filter (fun f => decide (f.since ≤ v)) = (versionFields k v).drop j
  | 0, _ => ⟨Nat.zero_le _, rfl⟩
  | j + 1, h => by
    obtain ⟨h1, h2⟩ := pos_inv (k := k) (v := v) j (by omega)
    obtain ⟨q1, q2, q3⟩ := nx_spec (l := fieldsOf k) (v := v) _ (pos (fieldsOf k) v j) rfl h1
    have hd : (versionFields k v).drop j = (versionFields k v).getD j fld0 :: (versionFields k v).drop (j + 1) := drop_get (by omega)
    rw [h2, hd] at q2
    have hlt : nx (fieldsOf k) v (pos (fieldsOf k) v j) < (fieldsOf k).length := by
      refine Classical.byContradiction fun hn => ?_
      rw [List.drop_eq_nil_of_le (Nat.le_of_not_lt hn)] at q2
      cases q2
    rw [drop_get hlt, List.filter_cons, if_pos (by simpa using q3 hlt)] at q2
    exact ⟨hlt, (List.cons.inj q2).2.symm⟩

theorem pos_at {k v : Int} {j : Nat} (h : j < (versionFields k v).length) : nx (fieldsOf k) v (pos (fieldsOf k) v j) < (fieldsOf k).length ∧ (fieldsOf k).getD (nx (fieldsOf k) v (pos (fieldsOf k) v j)) fld0 = (versionFields k v).getD j fld0 := by
  obtain ⟨h1, h2⟩ := pos_inv (k := k) (v := v) j (by omega)
  obtain ⟨q1, q2, q3⟩ := nx_spec (l := fieldsOf k) (v := v) _ (pos (fieldsOf k) v j) rfl h1
  have hd : (versionFields k v).drop j = (versionFields k v).getD j fld0 :: (versionFields k v).drop (j + 1) := drop_get h
  rw [h2, hd] at q2
  have hlt : nx (fieldsOf k) v (pos (fieldsOf k) v j) < (fieldsOf k).length := by
    refine Classical.byContradiction fun hn => ?_
    rw [List.drop_eq_nil_of_le (Nat.le_of_not_lt hn)] at q2
    cases q2
  rw [drop_get hlt, List.filter_cons, if_pos (by simpa using q3 hlt)] at q2
  exact ⟨hlt, (List.cons.inj q2).1.symm⟩

/-- Where a name's field is; the document's. -/
def findAt (l : List Fld) (name : ByteArray) : Option Nat := l.findIdx? fun f => decide (f.name = name)

abbrev rfindC : Ctx := ⟨F.cuneiformref16_Find, 20, [.tmp 4], none⟩

theorem rfind_loop {name : ByteArray} {l : List Fld} (hlen : l.length ≤ 6) (K : List AItem) (H : AHeap) (Q : AVal → AHeap → Prop)
    (hQ : ∀ r, (∀ i, i < l.length → (l.getD i fld0).name ≠ name) → Run Try.prog rfindC K r H Q) (hR : ∀ i, i < l.length → (l.getD i fld0).name = name → (∀ i', i' < i → (l.getD i' fld0).name ≠ name) → Q (.int .i64 (i : Nat)) H) :
    ∀ (m i : Nat), l.length - i = m → i ≤ l.length → (∀ i', i' < i → (l.getD i' fld0).name ≠ name) →
    Rounds Try.prog rfindC cuneiformref16_Find.b0 [.inBlock 0] K [(0, recs encF false l), (1, .str name), (5, .int .i64 (i : Nat))] H Q
  | m, i, h1, h2, h3 => by
    refine loop_V 100 cuneiformref16_Find.b0.eq_1 ?_
    by_cases hil : i < l.length
    · have hld : loadA H none (.sptr (recs encF false l) (i * 7 + 0)) = some (True, .str (l.getD i fld0).name) := load_rec1 (enc := encF) (t := false) encF_len hil (by omega)
      by_cases hs : (l.getD i fld0).name = name
      · have := hR i hil hs h3
        simp (disch := first | omega | (simp only [List.length_append, List.length_cons, List.length_nil, List.length_set, List.length_map, List.length_take, List.length_drop]; omega)) only [stdh, goK_s2b, dgoK_s2b, isEff_s2b, isPure_s2b, goK_b2s, dgoK_b2s, isEff_b2s, isPure_b2s, evalOp_s2b, s2bR, goK_mark, dgoK_mark, isEff_mark, isPure_mark, evalOp_mark, markA_slc, markB, goK_minN, dgoK_minN, isEff_minN, isPure_minN, evalOp_minN, minA_int, minGo_int, minGo_nil, minR_some, List.map_cons, List.map_nil, ↓reduceIte, Nat.reduceEqDiff, Int.reduceToNat, Int.reducePow, Nat.reduceAdd, Nat.reduceLeDiff, Nat.reduceMul, Nat.reduceBEq, reduceCtorEq, hld, hs]
        exact this
      · simp (disch := first | omega | (simp only [List.length_append, List.length_cons, List.length_nil, List.length_set, List.length_map, List.length_take, List.length_drop]; omega)) only [stdh, goK_s2b, dgoK_s2b, isEff_s2b, isPure_s2b, goK_b2s, dgoK_b2s, isEff_b2s, isPure_b2s, evalOp_s2b, s2bR, goK_mark, dgoK_mark, isEff_mark, isPure_mark, evalOp_mark, markA_slc, markB, goK_minN, dgoK_minN, isEff_minN, isPure_minN, evalOp_minN, minA_int, minGo_int, minGo_nil, minR_some, List.map_cons, List.map_nil, ↓reduceIte, Nat.reduceEqDiff, Int.reduceToNat, Int.reducePow, Nat.reduceAdd, Nat.reduceLeDiff, Nat.reduceMul, Nat.reduceBEq, reduceCtorEq, hld, hs]
        refine rfind_loop hlen K H Q hQ hR _ (i + 1) rfl (by omega) fun i' hi' => ?_
        by_cases he : i' = i
        · subst he; exact hs
        · exact h3 i' (by omega)
    · simp (disch := first | omega | (simp only [List.length_append, List.length_cons, List.length_nil, List.length_set, List.length_map, List.length_take, List.length_drop]; omega)) only [stdh, goK_s2b, dgoK_s2b, isEff_s2b, isPure_s2b, goK_b2s, dgoK_b2s, isEff_b2s, isPure_b2s, evalOp_s2b, s2bR, goK_mark, dgoK_mark, isEff_mark, isPure_mark, evalOp_mark, markA_slc, markB, goK_minN, dgoK_minN, isEff_minN, isPure_minN, evalOp_minN, minA_int, minGo_int, minGo_nil, minR_some, List.map_cons, List.map_nil, ↓reduceIte, Nat.reduceEqDiff, Int.reduceToNat, Int.reducePow, Nat.reduceAdd, Nat.reduceLeDiff, Nat.reduceMul, Nat.reduceBEq, reduceCtorEq]
      exact hQ _ fun i' hi' => h3 i' (by omega)
  termination_by m => m

theorem rfind_ok {l : List Fld} (hlen : l.length ≤ 6) (H : AHeap) (name : ByteArray) (Q : AVal → AHeap → Prop)
    (h0 : (∀ i, i < l.length → (l.getD i fld0).name ≠ name) → Q (.int .i64 (-1)) H) (h1 : ∀ i, i < l.length → (l.getD i fld0).name = name → (∀ i', i' < i → (l.getD i' fld0).name ≠ name) → Q (.int .i64 (i : Nat)) H) :
    FunOK Try.prog F.cuneiformref16_Find [recs encF false l, .str name] H Q := by
  refine fun_V 100 cuneiformref16_Find_code rfl ?_
  simp (disch := first | omega | (simp only [List.length_append, List.length_cons, List.length_nil, List.length_set, List.length_map, List.length_take, List.length_drop]; omega)) only [stdh, goK_s2b, dgoK_s2b, isEff_s2b, isPure_s2b, goK_b2s, dgoK_b2s, isEff_b2s, isPure_b2s, evalOp_s2b, s2bR, goK_mark, dgoK_mark, isEff_mark, isPure_mark, evalOp_mark, markA_slc, markB, goK_minN, dgoK_minN, isEff_minN, isPure_minN, evalOp_minN, minA_int, minGo_int, minGo_nil, minR_some, List.map_cons, List.map_nil, ↓reduceIte, Nat.reduceEqDiff, Int.reduceToNat, Int.reducePow, Nat.reduceAdd, Nat.reduceLeDiff, Nat.reduceMul, Nat.reduceBEq, reduceCtorEq, cuneiformref16_Find, cuneiformref16_Find.body]
  refine rfind_loop hlen _ H Q ?_ h1 _ 0 rfl (by omega) (by intro i' hi'; omega)
  intro r hr
  refine run_V0 100 ?_
  have := h0 hr
  simp (disch := first | omega | (simp only [List.length_append, List.length_cons, List.length_nil, List.length_set, List.length_map, List.length_take, List.length_drop]; omega)) only [stdh, goK_s2b, dgoK_s2b, isEff_s2b, isPure_s2b, goK_b2s, dgoK_b2s, isEff_b2s, isPure_b2s, evalOp_s2b, s2bR, goK_mark, dgoK_mark, isEff_mark, isPure_mark, evalOp_mark, markA_slc, markB, goK_minN, dgoK_minN, isEff_minN, isPure_minN, evalOp_minN, minA_int, minGo_int, minGo_nil, minR_some, List.map_cons, List.map_nil, ↓reduceIte, Nat.reduceEqDiff, Int.reduceToNat, Int.reducePow, Nat.reduceAdd, Nat.reduceLeDiff, Nat.reduceMul, Nat.reduceBEq, reduceCtorEq]
  exact this
end Go.Proofs.Ytlkadcahjifolaa

namespace Go.Proofs.Ytlkadcahjifolaa
open Go Go.Am
set_option linter.unusedSimpArgs false
set_option linter.unusedVariables false

def getM (m : Mg) (name : ByteArray) : Int × Bool := match findF m.k name with
  | some f => if f.place < 0 then (0, false) else (m.num f.place, true)
  | none => (0, false)
def setM (m : Mg) (name : ByteArray) (v : Int) : Mg × Bool := match findF m.k name with
  | some f => if f.place < 0 then (m, false) else (m.put f.place v, true)
  | none => (m, false)

theorem findF_mem {k : Int} {name : ByteArray} {f : Fld} (h : findF k name = some f) : f ∈ fieldsOf k := List.mem_of_find?_eq_some h

set_option maxHeartbeats 2000000 in
theorem get_ok (H : AHeap) (m : Mg) (name : ByteArray) (Q : AVal → AHeap → Prop) (h : Q (.tup [.int .i64 (getM m name).1, .bool (getM m name).2]) H) : FunOK Try.prog F.msg_Get [.agg (encM m), .str name] H Q := by
  refine fun_iced msg_Get_code fun _ => ?_
  refine fun_V 100 msg_Get_code rfl ?_
  simp (disch := first | omega | (simp only [List.length_append, List.length_cons, List.length_nil, List.length_set, List.length_map, List.length_take, List.length_drop]; omega)) only [stdh, goK_s2b, dgoK_s2b, isEff_s2b, isPure_s2b, goK_b2s, dgoK_b2s, isEff_b2s, isPure_b2s, evalOp_s2b, s2bR, goK_mark, dgoK_mark, isEff_mark, isPure_mark, evalOp_mark, markA_slc, markB, goK_minN, dgoK_minN, isEff_minN, isPure_minN, evalOp_minN, minA_int, minGo_int, minGo_nil, minR_some, List.map_cons, List.map_nil, ↓reduceIte, Nat.reduceEqDiff, Int.reduceToNat, Int.reducePow, Nat.reduceAdd, Nat.reduceLeDiff, Nat.reduceMul, Nat.reduceBEq, reduceCtorEq, msg_Get, msg_Get.body, encM]
  refine callK_fn (ffind_ok _ _ _ _ ?_)
  refine runL_V 100 ?_
  unfold getM at h
  cases hf : findF m.k name with
  | none =>
    rw [hf] at h
    simp (disch := first | omega | (simp only [List.length_append, List.length_cons, List.length_nil, List.length_set, List.length_map, List.length_take, List.length_drop]; omega)) only [stdh, goK_s2b, dgoK_s2b, isEff_s2b, isPure_s2b, goK_b2s, dgoK_b2s, isEff_b2s, isPure_b2s, evalOp_s2b, s2bR, goK_mark, dgoK_mark, isEff_mark, isPure_mark, evalOp_mark, markA_slc, markB, goK_minN, dgoK_minN, isEff_minN, isPure_minN, evalOp_minN, minA_int, minGo_int, minGo_nil, minR_some, List.map_cons, List.map_nil, ↓reduceIte, Nat.reduceEqDiff, Int.reduceToNat, Int.reducePow, Nat.reduceAdd, Nat.reduceLeDiff, Nat.reduceMul, Nat.reduceBEq, reduceCtorEq, Option.getD_none, Option.isSome_none, encF, fld0]
    exact ice_none ⟨trivial, trivial, trivial⟩ h
  | some f =>
    rw [hf] at h
    obtain ⟨_, p | p | p | p | p | p | p⟩ := fieldsOf_ok2 f (findF_mem hf)
    all_goals
      simp only [p, Int.reduceNeg, Int.reduceLT, if_true, if_false, Mg.num, Int.reduceEq] at h
      simp (disch := first | omega | (simp only [List.length_append, List.length_cons, List.length_nil, List.length_set, List.length_map, List.length_take, List.length_drop]; omega)) only [stdh, goK_s2b, dgoK_s2b, isEff_s2b, isPure_s2b, goK_b2s, dgoK_b2s, isEff_b2s, isPure_b2s, evalOp_s2b, s2bR, goK_mark, dgoK_mark, isEff_mark, isPure_mark, evalOp_mark, markA_slc, markB, goK_minN, dgoK_minN, isEff_minN, isPure_minN, evalOp_minN, minA_int, minGo_int, minGo_nil, minR_some, List.map_cons, List.map_nil, ↓reduceIte, Nat.reduceEqDiff, Int.reduceToNat, Int.reducePow, Nat.reduceAdd, Nat.reduceLeDiff, Nat.reduceMul, Nat.reduceBEq, reduceCtorEq, Option.getD_some, Option.isSome_some, encF, p]
      exact ice_none ⟨trivial, trivial, trivial⟩ h

set_option maxHeartbeats 2000000 in
theorem set_ok (H : AHeap) (m : Mg) (hm : m.small) (name : ByteArray) (v : Int) (Q : AVal → AHeap → Prop) (h : Q (.tup [.agg (encM (setM m name v).1), .bool (setM m name v).2]) H) : FunOK Try.prog F.msg_Set [.agg (encM m), .str name, .int .i64 v] H Q := by
  refine fun_iced msg_Set_code fun _ => ?_
  refine fun_V 100 msg_Set_code rfl ?_
  simp (disch := first | omega | (simp only [List.length_append, List.length_cons, List.length_nil, List.length_set, List.length_map, List.length_take, List.length_drop]; omega)) only [stdh, goK_s2b, dgoK_s2b, isEff_s2b, isPure_s2b, goK_b2s, dgoK_b2s, isEff_b2s, isPure_b2s, evalOp_s2b, s2bR, goK_mark, dgoK_mark, isEff_mark, isPure_mark, evalOp_mark, markA_slc, markB, goK_minN, dgoK_minN, isEff_minN, isPure_minN, evalOp_minN, minA_int, minGo_int, minGo_nil, minR_some, List.map_cons, List.map_nil, ↓reduceIte, Nat.reduceEqDiff, Int.reduceToNat, Int.reducePow, Nat.reduceAdd, Nat.reduceLeDiff, Nat.reduceMul, Nat.reduceBEq, reduceCtorEq, msg_Set, msg_Set.body, encM]
  refine callK_fn (copy_ok _ m hm _ ?_)
  refine runL_V 100 ?_
  simp (disch := first | omega | (simp only [List.length_append, List.length_cons, List.length_nil, List.length_set, List.length_map, List.length_take, List.length_drop]; omega)) only [stdh, goK_s2b, dgoK_s2b, isEff_s2b, isPure_s2b, goK_b2s, dgoK_b2s, isEff_b2s, isPure_b2s, evalOp_s2b, s2bR, goK_mark, dgoK_mark, isEff_mark, isPure_mark, evalOp_mark, markA_slc, markB, goK_minN, dgoK_minN, isEff_minN, isPure_minN, evalOp_minN, minA_int, minGo_int, minGo_nil, minR_some, List.map_cons, List.map_nil, ↓reduceIte, Nat.reduceEqDiff, Int.reduceToNat, Int.reducePow, Nat.reduceAdd, Nat.reduceLeDiff, Nat.reduceMul, Nat.reduceBEq, reduceCtorEq, encM]
  refine callK_fn (ffind_ok _ _ _ _ ?_)
  refine runL_V 100 ?_
  unfold setM at h
  cases hf : findF m.k name with
  | none =>
    rw [hf] at h
    simp (disch := first | omega | (simp only [List.length_append, List.length_cons, List.length_nil, List.length_set, List.length_map, List.length_take, List.length_drop]; omega)) only [stdh, goK_s2b, dgoK_s2b, isEff_s2b, isPure_s2b, goK_b2s, dgoK_b2s, isEff_b2s, isPure_b2s, evalOp_s2b, s2bR, goK_mark, dgoK_mark, isEff_mark, isPure_mark, evalOp_mark, markA_slc, markB, goK_minN, dgoK_minN, isEff_minN, isPure_minN, evalOp_minN, minA_int, minGo_int, minGo_nil, minR_some, List.map_cons, List.map_nil, ↓reduceIte, Nat.reduceEqDiff, Int.reduceToNat, Int.reducePow, Nat.reduceAdd, Nat.reduceLeDiff, Nat.reduceMul, Nat.reduceBEq, reduceCtorEq, Option.getD_none, Option.isSome_none, encF, fld0]
    exact ice_none ⟨closeds_encM m, trivial, trivial⟩ h
  | some f =>
    rw [hf] at h
    obtain ⟨_, p | p | p | p | p | p | p⟩ := fieldsOf_ok2 f (findF_mem hf)
    all_goals
      simp only [p, Int.reduceNeg, Int.reduceLT, if_true, if_false, Mg.put, Int.reduceEq] at h
      simp (disch := first | omega | (simp only [List.length_append, List.length_cons, List.length_nil, List.length_set, List.length_map, List.length_take, List.length_drop]; omega)) only [stdh, goK_s2b, dgoK_s2b, isEff_s2b, isPure_s2b, goK_b2s, dgoK_b2s, isEff_b2s, isPure_b2s, evalOp_s2b, s2bR, goK_mark, dgoK_mark, isEff_mark, isPure_mark, evalOp_mark, markA_slc, markB, goK_minN, dgoK_minN, isEff_minN, isPure_minN, evalOp_minN, minA_int, minGo_int, minGo_nil, minR_some, List.map_cons, List.map_nil, ↓reduceIte, Nat.reduceEqDiff, Int.reduceToNat, Int.reducePow, Nat.reduceAdd, Nat.reduceLeDiff, Nat.reduceMul, Nat.reduceBEq, reduceCtorEq, Option.getD_some, Option.isSome_some, encF, p]
      exact ice_none ⟨closeds_encM _, trivial, trivial⟩ h
end Go.Proofs.Ytlkadcahjifolaa

namespace Go.Proofs.Ytlkadcahjifolaa
open Go Go.Am
set_option linter.unusedSimpArgs false
set_option linter.unusedVariables false

theorem news_kind {K : Int} (h1 : 1 ≤ K) (h5 : K ≤ 5) : 1 ≤ (fieldsOf K).length ∧ checkM (newM K) = 0 ∧ projectM (newM K) 1 = newM K ∧ projectM (newM K) 2 = newM K := by
  have : K = 1 ∨ K = 2 ∨ K = 3 ∨ K = 4 ∨ K = 5 := by omega
  rcases this with rfl | rfl | rfl | rfl | rfl
  all_goals exact ⟨by decide, by decide +kernel, by decide +kernel, by decide +kernel⟩

set_option maxRecDepth 10000 in
set_option maxHeartbeats 4000000 in
theorem msgnews_ok (kind place v : Int) : FunOK Try.prog F.cuneiformlaw17_MsgNews [.int .i64 kind, .int .i64 place, .int .i64 v] [] fun av _ => av = .bool true := by
  refine fun_V 60 cuneiformlaw17_MsgNews_code rfl ?_
  have u1 : 0 ≤ IntKind.u64.wrap kind ∧ IntKind.u64.wrap kind < 18446744073709551616 := by rw [wrap_u64']; omega
  have u2 : 0 ≤ IntKind.u64.wrap place ∧ IntKind.u64.wrap place < 18446744073709551616 := by rw [wrap_u64']; omega
  simp (disch := first | omega | (simp only [List.length_append, List.length_cons, List.length_nil, List.length_set, List.length_map, List.length_take, List.length_drop]; omega)) only [stdh, goK_s2b, dgoK_s2b, isEff_s2b, isPure_s2b, goK_b2s, dgoK_b2s, isEff_b2s, isPure_b2s, evalOp_s2b, s2bR, goK_mark, dgoK_mark, isEff_mark, isPure_mark, evalOp_mark, markA_slc, markB, goK_minN, dgoK_minN, isEff_minN, isPure_minN, evalOp_minN, minA_int, minGo_int, minGo_nil, minR_some, List.map_cons, List.map_nil, ↓reduceIte, Nat.reduceEqDiff, Int.reduceToNat, Int.reducePow, Nat.reduceAdd, Nat.reduceLeDiff, Nat.reduceMul, Nat.reduceBEq, reduceCtorEq, cuneiformlaw17_MsgNews, cuneiformlaw17_MsgNews.body, cuneiformlaw17_MsgNews.d0]
  obtain ⟨K, hK, hk1, hk5⟩ : ∃ K, IntKind.i64.wrap (1 + IntKind.i64.wrap ((IntKind.u64.wrap kind).tmod 5)) = K ∧ 1 ≤ K ∧ K ≤ 5 := by
    refine ⟨_, rfl, ?_⟩
    rw [Int.tmod_eq_emod_of_nonneg u1.1, wrap_i64 (x := _ % 5) (by omega), wrap_i64 (by omega)]
    omega
  rw [hK]
  clear hK u1
  refine callK_fn (rall16_ok _ K _ ?_)
  refine runL_V 60 ?_
  obtain ⟨h1, h2, h3, h4⟩ := news_kind hk1 hk5
  have hlen := fieldsOf_len K
  have hfind : ∀ j, j < (fieldsOf K).length → (fieldsOf K).getD j fld0 ∈ fieldsOf K := fun j hj => getD_mem hj
  have hld : ∀ H j, j < (fieldsOf K).length → loadA H (some 7) (.sptr (recs encF false (fieldsOf K)) (j * 7)) = some (True, .agg (encF ((fieldsOf K).getD j fld0))) := fun H j hj => load_recs (enc := encF) (t := false) encF_len hj
  obtain ⟨j, hj, hjl⟩ : ∃ j : Nat, IntKind.i64.wrap ((IntKind.u64.wrap place).tmod ((fieldsOf K).length : Int)) = (j : Int) ∧ j < (fieldsOf K).length := by
    rw [Int.tmod_eq_emod_of_nonneg u2.1]
    have a1 := Int.emod_nonneg (IntKind.u64.wrap place) (show ((fieldsOf K).length : Int) ≠ 0 by omega)
    have a2 := Int.emod_lt_of_pos (IntKind.u64.wrap place) (show (0 : Int) < ((fieldsOf K).length : Int) by omega)
    rw [wrap_i64 (by omega)]
    exact ⟨((IntKind.u64.wrap place) % ((fieldsOf K).length : Int)).toNat, by omega, by omega⟩
  have hd0 : ¬ ((fieldsOf K).length : Int) = 0 := by omega
  have hldj := fun H => hld H j hjl
  have hf := hfind j hjl
  generalize (fieldsOf K).getD j fld0 = f at *
  clear hld hfind
  have hlenu : IntKind.u64.wrap ((fieldsOf K).length : Int) = ((fieldsOf K).length : Int) := wrap_u64 (by omega)
  simp (disch := first | omega | (simp only [List.length_append, List.length_cons, List.length_nil, List.length_set, List.length_map, List.length_take, List.length_drop]; omega)) only [stdh, goK_s2b, dgoK_s2b, isEff_s2b, isPure_s2b, goK_b2s, dgoK_b2s, isEff_b2s, isPure_b2s, evalOp_s2b, s2bR, goK_mark, dgoK_mark, isEff_mark, isPure_mark, evalOp_mark, markA_slc, markB, goK_minN, dgoK_minN, isEff_minN, isPure_minN, evalOp_minN, minA_int, minGo_int, minGo_nil, minR_some, List.map_cons, List.map_nil, ↓reduceIte, Nat.reduceEqDiff, Int.reduceToNat, Int.reducePow, Nat.reduceAdd, Nat.reduceLeDiff, Nat.reduceMul, Nat.reduceBEq, reduceCtorEq, hlenu, hj, hldj, encF, hd0]
  refine callK_fn (new_ok _ K _ ?_)
  refine runL_V 60 ?_
  obtain ⟨sn, fn⟩ := newM_small K
  have hfn := find_name hf
  have hfact := fun hp => news_fact hf hp v
  have hkk : (newM K).k = K := by
    have : K = 1 ∨ K = 2 ∨ K = 3 ∨ K = 4 ∨ K = 5 := by omega
    rcases this with rfl | rfl | rfl | rfl | rfl <;> rfl
  have hset : setM (newM K) f.name v = if f.place < 0 then (newM K, false) else ((newM K).put f.place v, true) := by
    unfold setM; rw [hkk, hfn]
  have hps : ((newM K).put f.place v).fine := by
    obtain ⟨a1, a2, a3⟩ := put_k (newM K) f.place v
    obtain ⟨b1, b2, b3, b4⟩ := fn.fine
    refine ⟨by rw [a2]; exact b1, by rw [a3]; exact b2, ?_, ?_⟩
    · unfold Mg.put; repeat' split
      all_goals exact b3
    · unfold Mg.put; repeat' split
      all_goals exact b4
  generalize newM K = z at *
  simp (disch := first | omega | (simp only [List.length_append, List.length_cons, List.length_nil, List.length_set, List.length_map, List.length_take, List.length_drop]; omega)) only [stdh, goK_s2b, dgoK_s2b, isEff_s2b, isPure_s2b, goK_b2s, dgoK_b2s, isEff_b2s, isPure_b2s, evalOp_s2b, s2bR, goK_mark, dgoK_mark, isEff_mark, isPure_mark, evalOp_mark, markA_slc, markB, goK_minN, dgoK_minN, isEff_minN, isPure_minN, evalOp_minN, minA_int, minGo_int, minGo_nil, minR_some, List.map_cons, List.map_nil, ↓reduceIte, Nat.reduceEqDiff, Int.reduceToNat, Int.reducePow, Nat.reduceAdd, Nat.reduceLeDiff, Nat.reduceMul, Nat.reduceBEq, reduceCtorEq, encM]
  refine callD_fn (check_ok _ z fn.fine _ ?_)
  rw [h2]
  refine ⟨by simp (disch := first | omega | (simp only [List.length_append, List.length_cons, List.length_nil, List.length_set, List.length_map, List.length_take, List.length_drop]; omega)) only [stdh, goK_s2b, dgoK_s2b, isEff_s2b, isPure_s2b, goK_b2s, dgoK_b2s, isEff_b2s, isPure_b2s, evalOp_s2b, s2bR, goK_mark, dgoK_mark, isEff_mark, isPure_mark, evalOp_mark, markA_slc, markB, goK_minN, dgoK_minN, isEff_minN, isPure_minN, evalOp_minN, minA_int, minGo_int, minGo_nil, minR_some, List.map_cons, List.map_nil, ↓reduceIte, Nat.reduceEqDiff, Int.reduceToNat, Int.reducePow, Nat.reduceAdd, Nat.reduceLeDiff, Nat.reduceMul, Nat.reduceBEq, reduceCtorEq, encM], ?_⟩
  refine runD_V 60 ?_
  simp (disch := first | omega | (simp only [List.length_append, List.length_cons, List.length_nil, List.length_set, List.length_map, List.length_take, List.length_drop]; omega)) only [stdh, goK_s2b, dgoK_s2b, isEff_s2b, isPure_s2b, goK_b2s, dgoK_b2s, isEff_b2s, isPure_b2s, evalOp_s2b, s2bR, goK_mark, dgoK_mark, isEff_mark, isPure_mark, evalOp_mark, markA_slc, markB, goK_minN, dgoK_minN, isEff_minN, isPure_minN, evalOp_minN, minA_int, minGo_int, minGo_nil, minR_some, List.map_cons, List.map_nil, ↓reduceIte, Nat.reduceEqDiff, Int.reduceToNat, Int.reducePow, Nat.reduceAdd, Nat.reduceLeDiff, Nat.reduceMul, Nat.reduceBEq, reduceCtorEq, encM]
  refine callD_fn (project_ok _ z 1 sn _ ?_)
  rw [h3]
  refine ⟨by simp (disch := first | omega | (simp only [List.length_append, List.length_cons, List.length_nil, List.length_set, List.length_map, List.length_take, List.length_drop]; omega)) only [stdh, goK_s2b, dgoK_s2b, isEff_s2b, isPure_s2b, goK_b2s, dgoK_b2s, isEff_b2s, isPure_b2s, evalOp_s2b, s2bR, goK_mark, dgoK_mark, isEff_mark, isPure_mark, evalOp_mark, markA_slc, markB, goK_minN, dgoK_minN, isEff_minN, isPure_minN, evalOp_minN, minA_int, minGo_int, minGo_nil, minR_some, List.map_cons, List.map_nil, ↓reduceIte, Nat.reduceEqDiff, Int.reduceToNat, Int.reducePow, Nat.reduceAdd, Nat.reduceLeDiff, Nat.reduceMul, Nat.reduceBEq, reduceCtorEq, encM], ?_⟩
  refine runD_V 60 ?_
  simp (disch := first | omega | (simp only [List.length_append, List.length_cons, List.length_nil, List.length_set, List.length_map, List.length_take, List.length_drop]; omega)) only [stdh, goK_s2b, dgoK_s2b, isEff_s2b, isPure_s2b, goK_b2s, dgoK_b2s, isEff_b2s, isPure_b2s, evalOp_s2b, s2bR, goK_mark, dgoK_mark, isEff_mark, isPure_mark, evalOp_mark, markA_slc, markB, goK_minN, dgoK_minN, isEff_minN, isPure_minN, evalOp_minN, minA_int, minGo_int, minGo_nil, minR_some, List.map_cons, List.map_nil, ↓reduceIte, Nat.reduceEqDiff, Int.reduceToNat, Int.reducePow, Nat.reduceAdd, Nat.reduceLeDiff, Nat.reduceMul, Nat.reduceBEq, reduceCtorEq, encM]
  refine callD_fn (same_ok _ z z sn.fits _ ?_)
  rw [decide_eq_true (rfl : z = z)]
  refine ⟨by simp (disch := first | omega | (simp only [List.length_append, List.length_cons, List.length_nil, List.length_set, List.length_map, List.length_take, List.length_drop]; omega)) only [stdh, goK_s2b, dgoK_s2b, isEff_s2b, isPure_s2b, goK_b2s, dgoK_b2s, isEff_b2s, isPure_b2s, evalOp_s2b, s2bR, goK_mark, dgoK_mark, isEff_mark, isPure_mark, evalOp_mark, markA_slc, markB, goK_minN, dgoK_minN, isEff_minN, isPure_minN, evalOp_minN, minA_int, minGo_int, minGo_nil, minR_some, List.map_cons, List.map_nil, ↓reduceIte, Nat.reduceEqDiff, Int.reduceToNat, Int.reducePow, Nat.reduceAdd, Nat.reduceLeDiff, Nat.reduceMul, Nat.reduceBEq, reduceCtorEq, encM], ?_⟩
  refine runD_V 60 ?_
  simp (disch := first | omega | (simp only [List.length_append, List.length_cons, List.length_nil, List.length_set, List.length_map, List.length_take, List.length_drop]; omega)) only [stdh, goK_s2b, dgoK_s2b, isEff_s2b, isPure_s2b, goK_b2s, dgoK_b2s, isEff_b2s, isPure_b2s, evalOp_s2b, s2bR, goK_mark, dgoK_mark, isEff_mark, isPure_mark, evalOp_mark, markA_slc, markB, goK_minN, dgoK_minN, isEff_minN, isPure_minN, evalOp_minN, minA_int, minGo_int, minGo_nil, minR_some, List.map_cons, List.map_nil, ↓reduceIte, Nat.reduceEqDiff, Int.reduceToNat, Int.reducePow, Nat.reduceAdd, Nat.reduceLeDiff, Nat.reduceMul, Nat.reduceBEq, reduceCtorEq, encM]
  refine callD_fn (project_ok _ z 2 sn _ ?_)
  rw [h4]
  refine ⟨by simp (disch := first | omega | (simp only [List.length_append, List.length_cons, List.length_nil, List.length_set, List.length_map, List.length_take, List.length_drop]; omega)) only [stdh, goK_s2b, dgoK_s2b, isEff_s2b, isPure_s2b, goK_b2s, dgoK_b2s, isEff_b2s, isPure_b2s, evalOp_s2b, s2bR, goK_mark, dgoK_mark, isEff_mark, isPure_mark, evalOp_mark, markA_slc, markB, goK_minN, dgoK_minN, isEff_minN, isPure_minN, evalOp_minN, minA_int, minGo_int, minGo_nil, minR_some, List.map_cons, List.map_nil, ↓reduceIte, Nat.reduceEqDiff, Int.reduceToNat, Int.reducePow, Nat.reduceAdd, Nat.reduceLeDiff, Nat.reduceMul, Nat.reduceBEq, reduceCtorEq, encM], ?_⟩
  refine runD_V 60 ?_
  simp (disch := first | omega | (simp only [List.length_append, List.length_cons, List.length_nil, List.length_set, List.length_map, List.length_take, List.length_drop]; omega)) only [stdh, goK_s2b, dgoK_s2b, isEff_s2b, isPure_s2b, goK_b2s, dgoK_b2s, isEff_b2s, isPure_b2s, evalOp_s2b, s2bR, goK_mark, dgoK_mark, isEff_mark, isPure_mark, evalOp_mark, markA_slc, markB, goK_minN, dgoK_minN, isEff_minN, isPure_minN, evalOp_minN, minA_int, minGo_int, minGo_nil, minR_some, List.map_cons, List.map_nil, ↓reduceIte, Nat.reduceEqDiff, Int.reduceToNat, Int.reducePow, Nat.reduceAdd, Nat.reduceLeDiff, Nat.reduceMul, Nat.reduceBEq, reduceCtorEq, encM]
  refine callD_fn (same_ok _ z z sn.fits _ ?_)
  rw [decide_eq_true (rfl : z = z)]
  refine ⟨by simp (disch := first | omega | (simp only [List.length_append, List.length_cons, List.length_nil, List.length_set, List.length_map, List.length_take, List.length_drop]; omega)) only [stdh, goK_s2b, dgoK_s2b, isEff_s2b, isPure_s2b, goK_b2s, dgoK_b2s, isEff_b2s, isPure_b2s, evalOp_s2b, s2bR, goK_mark, dgoK_mark, isEff_mark, isPure_mark, evalOp_mark, markA_slc, markB, goK_minN, dgoK_minN, isEff_minN, isPure_minN, evalOp_minN, minA_int, minGo_int, minGo_nil, minR_some, List.map_cons, List.map_nil, ↓reduceIte, Nat.reduceEqDiff, Int.reduceToNat, Int.reducePow, Nat.reduceAdd, Nat.reduceLeDiff, Nat.reduceMul, Nat.reduceBEq, reduceCtorEq, encM], ?_⟩
  refine runD_V 60 ?_
  simp (disch := first | omega | (simp only [List.length_append, List.length_cons, List.length_nil, List.length_set, List.length_map, List.length_take, List.length_drop]; omega)) only [stdh, goK_s2b, dgoK_s2b, isEff_s2b, isPure_s2b, goK_b2s, dgoK_b2s, isEff_b2s, isPure_b2s, evalOp_s2b, s2bR, goK_mark, dgoK_mark, isEff_mark, isPure_mark, evalOp_mark, markA_slc, markB, goK_minN, dgoK_minN, isEff_minN, isPure_minN, evalOp_minN, minA_int, minGo_int, minGo_nil, minR_some, List.map_cons, List.map_nil, ↓reduceIte, Nat.reduceEqDiff, Int.reduceToNat, Int.reducePow, Nat.reduceAdd, Nat.reduceLeDiff, Nat.reduceMul, Nat.reduceBEq, reduceCtorEq, encM]
  refine callK_fn (set_ok _ z sn _ v _ ?_)
  rw [hset]
  refine runL_V 60 ?_
  by_cases hp : f.place < 0
  · rw [if_pos hp]
    have hp' : ¬ (0 : Int) ≤ f.place := by omega
    simp (disch := first | omega | (simp only [List.length_append, List.length_cons, List.length_nil, List.length_set, List.length_map, List.length_take, List.length_drop]; omega)) only [stdh, goK_s2b, dgoK_s2b, isEff_s2b, isPure_s2b, goK_b2s, dgoK_b2s, isEff_b2s, isPure_b2s, evalOp_s2b, s2bR, goK_mark, dgoK_mark, isEff_mark, isPure_mark, evalOp_mark, markA_slc, markB, goK_minN, dgoK_minN, isEff_minN, isPure_minN, evalOp_minN, minA_int, minGo_int, minGo_nil, minR_some, List.map_cons, List.map_nil, ↓reduceIte, Nat.reduceEqDiff, Int.reduceToNat, Int.reducePow, Nat.reduceAdd, Nat.reduceLeDiff, Nat.reduceMul, Nat.reduceBEq, reduceCtorEq, encM, eqA, hp']
    refine callK_fn (known17_ok _ _ ?_)
    refine runL_V 60 ?_
    simp (disch := first | omega | (simp only [List.length_append, List.length_cons, List.length_nil, List.length_set, List.length_map, List.length_take, List.length_drop]; omega)) only [stdh, goK_s2b, dgoK_s2b, isEff_s2b, isPure_s2b, goK_b2s, dgoK_b2s, isEff_b2s, isPure_b2s, evalOp_s2b, s2bR, goK_mark, dgoK_mark, isEff_mark, isPure_mark, evalOp_mark, markA_slc, markB, goK_minN, dgoK_minN, isEff_minN, isPure_minN, evalOp_minN, minA_int, minGo_int, minGo_nil, minR_some, List.map_cons, List.map_nil, ↓reduceIte, Nat.reduceEqDiff, Int.reduceToNat, Int.reducePow, Nat.reduceAdd, Nat.reduceLeDiff, Nat.reduceMul, Nat.reduceBEq, reduceCtorEq, encM]
    refine callK_fn (same_ok _ z z sn.fits _ ?_)
    rw [decide_eq_true (rfl : z = z)]
    refine runL_V 60 ?_
    simp (disch := first | omega | (simp only [List.length_append, List.length_cons, List.length_nil, List.length_set, List.length_map, List.length_take, List.length_drop]; omega)) only [stdh, goK_s2b, dgoK_s2b, isEff_s2b, isPure_s2b, goK_b2s, dgoK_b2s, isEff_b2s, isPure_b2s, evalOp_s2b, s2bR, goK_mark, dgoK_mark, isEff_mark, isPure_mark, evalOp_mark, markA_slc, markB, goK_minN, dgoK_minN, isEff_minN, isPure_minN, evalOp_minN, minA_int, minGo_int, minGo_nil, minR_some, List.map_cons, List.map_nil, ↓reduceIte, Nat.reduceEqDiff, Int.reduceToNat, Int.reducePow, Nat.reduceAdd, Nat.reduceLeDiff, Nat.reduceMul, Nat.reduceBEq, reduceCtorEq, encM]
  · rw [if_neg hp]
    have hp' : (0 : Int) ≤ f.place := by omega
    have hfact := hfact hp'
    generalize z.put f.place v = y at *
    simp (disch := first | omega | (simp only [List.length_append, List.length_cons, List.length_nil, List.length_set, List.length_map, List.length_take, List.length_drop]; omega)) only [stdh, goK_s2b, dgoK_s2b, isEff_s2b, isPure_s2b, goK_b2s, dgoK_b2s, isEff_b2s, isPure_b2s, evalOp_s2b, s2bR, goK_mark, dgoK_mark, isEff_mark, isPure_mark, evalOp_mark, markA_slc, markB, goK_minN, dgoK_minN, isEff_minN, isPure_minN, evalOp_minN, minA_int, minGo_int, minGo_nil, minR_some, List.map_cons, List.map_nil, ↓reduceIte, Nat.reduceEqDiff, Int.reduceToNat, Int.reducePow, Nat.reduceAdd, Nat.reduceLeDiff, Nat.reduceMul, Nat.reduceBEq, reduceCtorEq, encM, eqA, hp']
    refine callK_fn (check_ok _ y hps _ ?_)
    rw [hfact]
    refine runL_V 60 ?_
    by_cases q1 : f.least ≤ v
    · by_cases q2 : v ≤ f.most
      · rw [if_pos ⟨q1, q2⟩]
        simp (disch := first | omega | (simp only [List.length_append, List.length_cons, List.length_nil, List.length_set, List.length_map, List.length_take, List.length_drop]; omega)) only [stdh, goK_s2b, dgoK_s2b, isEff_s2b, isPure_s2b, goK_b2s, dgoK_b2s, isEff_b2s, isPure_b2s, evalOp_s2b, s2bR, goK_mark, dgoK_mark, isEff_mark, isPure_mark, evalOp_mark, markA_slc, markB, goK_minN, dgoK_minN, isEff_minN, isPure_minN, evalOp_minN, minA_int, minGo_int, minGo_nil, minR_some, List.map_cons, List.map_nil, ↓reduceIte, Nat.reduceEqDiff, Int.reduceToNat, Int.reducePow, Nat.reduceAdd, Nat.reduceLeDiff, Nat.reduceMul, Nat.reduceBEq, reduceCtorEq, q1, q2]
        refine callK_fn (known17_ok _ _ ?_)
        refine runL_V 60 ?_
        simp (disch := first | omega | (simp only [List.length_append, List.length_cons, List.length_nil, List.length_set, List.length_map, List.length_take, List.length_drop]; omega)) only [stdh, goK_s2b, dgoK_s2b, isEff_s2b, isPure_s2b, goK_b2s, dgoK_b2s, isEff_b2s, isPure_b2s, evalOp_s2b, s2bR, goK_mark, dgoK_mark, isEff_mark, isPure_mark, evalOp_mark, markA_slc, markB, goK_minN, dgoK_minN, isEff_minN, isPure_minN, evalOp_minN, minA_int, minGo_int, minGo_nil, minR_some, List.map_cons, List.map_nil, ↓reduceIte, Nat.reduceEqDiff, Int.reduceToNat, Int.reducePow, Nat.reduceAdd, Nat.reduceLeDiff, Nat.reduceMul, Nat.reduceBEq, reduceCtorEq, eqA]
      · rw [if_neg (by omega)]
        simp (disch := first | omega | (simp only [List.length_append, List.length_cons, List.length_nil, List.length_set, List.length_map, List.length_take, List.length_drop]; omega)) only [stdh, goK_s2b, dgoK_s2b, isEff_s2b, isPure_s2b, goK_b2s, dgoK_b2s, isEff_b2s, isPure_b2s, evalOp_s2b, s2bR, goK_mark, dgoK_mark, isEff_mark, isPure_mark, evalOp_mark, markA_slc, markB, goK_minN, dgoK_minN, isEff_minN, isPure_minN, evalOp_minN, minA_int, minGo_int, minGo_nil, minR_some, List.map_cons, List.map_nil, ↓reduceIte, Nat.reduceEqDiff, Int.reduceToNat, Int.reducePow, Nat.reduceAdd, Nat.reduceLeDiff, Nat.reduceMul, Nat.reduceBEq, reduceCtorEq, q1, q2]
        refine callK_fn (known17_ok _ _ ?_)
        refine runL_V 60 ?_
        simp (disch := first | omega | (simp only [List.length_append, List.length_cons, List.length_nil, List.length_set, List.length_map, List.length_take, List.length_drop]; omega)) only [stdh, goK_s2b, dgoK_s2b, isEff_s2b, isPure_s2b, goK_b2s, dgoK_b2s, isEff_b2s, isPure_b2s, evalOp_s2b, s2bR, goK_mark, dgoK_mark, isEff_mark, isPure_mark, evalOp_mark, markA_slc, markB, goK_minN, dgoK_minN, isEff_minN, isPure_minN, evalOp_minN, minA_int, minGo_int, minGo_nil, minR_some, List.map_cons, List.map_nil, ↓reduceIte, Nat.reduceEqDiff, Int.reduceToNat, Int.reducePow, Nat.reduceAdd, Nat.reduceLeDiff, Nat.reduceMul, Nat.reduceBEq, reduceCtorEq, eqA, Int.reduceEq]
    · rw [if_neg (by omega)]
      simp (disch := first | omega | (simp only [List.length_append, List.length_cons, List.length_nil, List.length_set, List.length_map, List.length_take, List.length_drop]; omega)) only [stdh, goK_s2b, dgoK_s2b, isEff_s2b, isPure_s2b, goK_b2s, dgoK_b2s, isEff_b2s, isPure_b2s, evalOp_s2b, s2bR, goK_mark, dgoK_mark, isEff_mark, isPure_mark, evalOp_mark, markA_slc, markB, goK_minN, dgoK_minN, isEff_minN, isPure_minN, evalOp_minN, minA_int, minGo_int, minGo_nil, minR_some, List.map_cons, List.map_nil, ↓reduceIte, Nat.reduceEqDiff, Int.reduceToNat, Int.reducePow, Nat.reduceAdd, Nat.reduceLeDiff, Nat.reduceMul, Nat.reduceBEq, reduceCtorEq, q1]
      refine callK_fn (known17_ok _ _ ?_)
      refine runL_V 60 ?_
      simp (disch := first | omega | (simp only [List.length_append, List.length_cons, List.length_nil, List.length_set, List.length_map, List.length_take, List.length_drop]; omega)) only [stdh, goK_s2b, dgoK_s2b, isEff_s2b, isPure_s2b, goK_b2s, dgoK_b2s, isEff_b2s, isPure_b2s, evalOp_s2b, s2bR, goK_mark, dgoK_mark, isEff_mark, isPure_mark, evalOp_mark, markA_slc, markB, goK_minN, dgoK_minN, isEff_minN, isPure_minN, evalOp_minN, minA_int, minGo_int, minGo_nil, minR_some, List.map_cons, List.map_nil, ↓reduceIte, Nat.reduceEqDiff, Int.reduceToNat, Int.reducePow, Nat.reduceAdd, Nat.reduceLeDiff, Nat.reduceMul, Nat.reduceBEq, reduceCtorEq, eqA, Int.reduceEq]
end Go.Proofs.Ytlkadcahjifolaa

namespace Go.Proofs.Ytlkadcahjifolaa.msgNews
open Go Go.Am Go.ChangeShapes Go.WideShapes Go.ChangeAt Go.RowKit
set_option linter.unusedVariables false

theorem own : ownKnob Try.prog.godebug = none := by kernel_rfl
theorem laidOut : laidOutB Try.prog = true := by kernel_rfl

set_option maxRecDepth 100000 in
theorem lifted (os : Os) (started : os.Started) (H : Type) (enc : TypeId × Value → H) :
    ReturnsInHanded {} Try.checked os F.cuneiformlaw17_MsgNews .any (Rows.msgNewsSpec.pre6 enc Try.prog Try.f6 Rows.msgNewsRow.domain false) (Rows.msgNewsSpec.post enc Try.prog Try.f6 false true false false) := by
  refine returnsInHanded_of_change (C := Try.checked) own started (by kernel_rfl) Try.func6
    (ChangeSpec.witness6 (enc := enc) (C := Try.checked) false ⟨#[], #[.int .i64 0, .int .i64 0, .int .i64 0], []⟩ 8 (by kernel_rfl) (by kernel_rfl) (by kernel_rfl) (by kernel_rfl)) ?_
  intro W base args ds gs before hval hW hcnd _
  refine law_calls (shs := [.int .i64, .int .i64, .int .i64]) (tb := 4) laidOut (by kernel_rfl) ?_ (by kernel_rfl) Try.underlying4 rfl ?_ ?_ hval hW
  · intro t ht
    have : ∀ t ∈ Try.f6.params.toList, (Try.prog.readableRec t && decide (t < Try.prog.types.size)) = true := List.all_eq_true.1 (by kernel_rfl)
    simpa using this t ht
  · intro H ds hd
    match ds, hd with
    | [d0, d1, d2], _ => exact ⟨rfl, rfl, rfl⟩
  · rintro xs ⟨a, r, rfl, ⟨k, hk, _⟩, b, r2, rfl, ⟨p, hp, _⟩, c, r3, rfl, ⟨v, hv, _⟩, rfl⟩
    cases hk
    cases hp
    cases hv
    exact msgnews_ok k p v

theorem proved : Rows.MsgNewsSaid :=
  OpenClaim.holds_of_wide F.cuneiformlaw17_MsgNews Try.f6 rfl rfl rfl rfl rfl rfl rfl ⟨rfl, rfl, rfl, rfl, rfl⟩ rfl rfl rfl rfl rfl (by kernel_rfl) Try.func6 (by kernel_rfl)
    (of_decide_eq_true (by kernel_rfl)) (by unfold Func.isWrapper; first | (rw [if_pos (by decide +kernel)]; kernel_rfl) | (rw [if_neg (by decide +kernel)]; exact ⟨rfl, rfl⟩))
    (fun os started H enc _ => lifted os started H enc)
end Go.Proofs.Ytlkadcahjifolaa.msgNews
