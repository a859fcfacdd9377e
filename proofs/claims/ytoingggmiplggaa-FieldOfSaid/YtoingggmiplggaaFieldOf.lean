/-
  whatever the two numbers and the word, the law FieldOf returns true, and the input reads as it did. No condition. By an AI agent. No person has read it.
-/
import Derived.Test.YtoingggmiplggaaLIB
import Derived.Test.YtoingggmiplggaaAm5
import Derived.OpenShut
import Derived.Test.YtoingggmiplggaaRows

namespace Go.Proofs.Ytoingggmiplggaa
open Go Go.Am
set_option linter.unusedSimpArgs false
set_option linter.unusedVariables false

/-- Where the next field is that a version has. -/
def nx (l : List Fld) (v : Int) (i : Nat) : Nat := i + ((l.drop i).takeWhile fun f => decide (v < f.since)).length
def pos (l : List Fld) (v : Int) : Nat → Nat
  | 0 => 0
  | j + 1 => nx l v (pos l v j) + 1

theorem drop_get {l : List Fld} {i : Nat} (h : i < l.length) : l.drop i = l.getD i fld0 :: l.drop (i + 1) := by
  rw [List.drop_eq_getElem_cons h]; simp [h]

theorem nx_bad {l : List Fld} {v : Int} {i : Nat} (h : i < l.length) (hb : v < (l.getD i fld0).since) : nx l v i = nx l v (i + 1) := by
  unfold nx
  rw [drop_get h, List.takeWhile_cons, if_pos (by simpa using hb), List.length_cons]; omega
theorem nx_good {l : List Fld} {v : Int} {i : Nat} (h : i < l.length) (hb : ¬ v < (l.getD i fld0).since) : nx l v i = i := by
  unfold nx
  rw [drop_get h, List.takeWhile_cons, if_neg (by simpa using hb)]; rfl
theorem nx_end {l : List Fld} {v : Int} {i : Nat} (h : ¬ i < l.length) : nx l v i = i := by
  unfold nx
  rw [List.drop_eq_nil_of_le (by omega)]; rfl

theorem nx_spec {l : List Fld} {v : Int} : ∀ (m i : Nat), l.length - i = m → i ≤ l.length → nx l v i ≤ l.length ∧ (l.drop i).filter (fun f => decide (f.since ≤ v)) = (l.drop (nx l v i)).filter (fun f => decide (f.since ≤ v)) ∧ (nx l v i < l.length → (l.getD (nx l v i) fld0).since ≤ v)
  | m, i, h, hi => by
    by_cases h1 : i < l.length
    · by_cases h2 : v < (l.getD i fld0).since
      · obtain ⟨q1, q2, q3⟩ := nx_spec (l := l) (v := v) (m - 1) (i + 1) (by omega) (by omega)
        rw [nx_bad h1 h2]
        refine ⟨q1, ?_, q3⟩
        rw [drop_get h1, List.filter_cons, if_neg (by rw [decide_eq_true_eq]; omega), q2]
      · rw [nx_good h1 h2]; exact ⟨hi, rfl, fun _ => by omega⟩
    · rw [nx_end h1]; exact ⟨hi, rfl, fun h => absurd h h1⟩
  termination_by m => m
  decreasing_by omega

theorem pos_inv {k v : Int} : ∀ (j : Nat), j ≤ (versionFields k v).length → pos (fieldsOf k) v j ≤ (fieldsOf k).length ∧ ((fieldsOf k).drop (pos (fieldsOf k) v j)).filter (fun f => decide (f.since ≤ v)) = (versionFields k v).drop j
  | 0, _ => ⟨Nat.zero_le _, rfl⟩
  | j + 1, h => by
    obtain ⟨h1, h2⟩ := pos_inv (k := k) (v := v) j (by omega)
    obtain ⟨q1, q2, q3⟩ := nx_spec (l := fieldsOf k) (v := v) _ (pos (fieldsOf k) v j) rfl h1
    have hd : (versionFields k v).drop j = (versionFields k v).getD j fld0 :: (versionFields k v).drop (j + 1) := drop_get (by omega)
    rw [h2, hd] at q2
    have hlt : nx (fieldsOf k) v (pos (fieldsOf k) v j) < (fieldsOf k).length := by
      refine Classical.byContradiction fun hn => ?_
      rw [List.drop_eq_nil_of_le (Nat.le_of_not_lt hn)] at q2
      cases q2
    rw [drop_get hlt, List.filter_cons, if_pos (by simpa using q3 hlt)] at q2
    exact ⟨hlt, (List.cons.inj q2).2.symm⟩

theorem pos_at {k v : Int} {j : Nat} (h : j < (versionFields k v).length) : nx (fieldsOf k) v (pos (fieldsOf k) v j) < (fieldsOf k).length ∧ (fieldsOf k).getD (nx (fieldsOf k) v (pos (fieldsOf k) v j)) fld0 = (versionFields k v).getD j fld0 := by
  obtain ⟨h1, h2⟩ := pos_inv (k := k) (v := v) j (by omega)
  obtain ⟨q1, q2, q3⟩ := nx_spec (l := fieldsOf k) (v := v) _ (pos (fieldsOf k) v j) rfl h1
  have hd : (versionFields k v).drop j = (versionFields k v).getD j fld0 :: (versionFields k v).drop (j + 1) := drop_get h
  rw [h2, hd] at q2
  have hlt : nx (fieldsOf k) v (pos (fieldsOf k) v j) < (fieldsOf k).length := by
    refine Classical.byContradiction fun hn => ?_
    rw [List.drop_eq_nil_of_le (Nat.le_of_not_lt hn)] at q2
    cases q2
  rw [drop_get hlt, List.filter_cons, if_pos (by simpa using q3 hlt)] at q2
  exact ⟨hlt, (List.cons.inj q2).1.symm⟩

/-- Where a name's field is; the document's. -/
def findAt (l : List Fld) (name : ByteArray) : Option Nat := l.findIdx? fun f => decide (f.name = name)

abbrev rfindC : Ctx := ⟨F.cuneiformref16_Find, 20, [.tmp 4], none⟩

theorem rfind_loop {name : ByteArray} {l : List Fld} (hlen : l.length ≤ 6) (K : List AItem) (H : AHeap) (Q : AVal → AHeap → Prop)
    (hQ : ∀ r, (∀ i, i < l.length → (l.getD i fld0).name ≠ name) → Run Try.prog rfindC K r H Q) (hR : ∀ i, i < l.length → (l.getD i fld0).name = name → (∀ i', i' < i → (l.getD i' fld0).name ≠ name) → Q (.int .i64 (i : Nat)) H) :
    ∀ (m i : Nat), l.length - i = m → i ≤ l.length → (∀ i', i' < i → (l.getD i' fld0).name ≠ name) →
    Rounds Try.prog rfindC cuneiformref16_Find.b0 [.inBlock 0] K [(0, recs encF false l), (1, .str name), (5, .int .i64 (i : Nat))] H Q
  | m, i, h1, h2, h3 => by
    refine loop_V 100 cuneiformref16_Find.b0.eq_1 ?_
    by_cases hil : i < l.length
    · have hld : loadA H none (.sptr (recs encF false l) (i * 7 + 0)) = some (True, .str (l.getD i fld0).name) := load_rec1 (enc := encF) (t := false) encF_len hil (by omega)
      by_cases hs : (l.getD i fld0).name = name
      · have := hR i hil hs h3
        simp (disch := first | omega | (simp only [List.length_append, List.length_cons, List.length_nil, List.length_set, List.length_map, List.length_take, List.length_drop]; omega)) only [stdh, ↓reduceIte, Nat.reduceEqDiff, Int.reduceToNat, Int.reducePow, Nat.reduceAdd, Nat.reduceLeDiff, Nat.reduceMul, Nat.reduceBEq, reduceCtorEq, hld, hs]
        exact this
      · simp (disch := first | omega | (simp only [List.length_append, List.length_cons, List.length_nil, List.length_set, List.length_map, List.length_take, List.length_drop]; omega)) only [stdh, ↓reduceIte, Nat.reduceEqDiff, Int.reduceToNat, Int.reducePow, Nat.reduceAdd, Nat.reduceLeDiff, Nat.reduceMul, Nat.reduceBEq, reduceCtorEq, hld, hs]
        refine rfind_loop hlen K H Q hQ hR _ (i + 1) rfl (by omega) fun i' hi' => ?_
        by_cases he : i' = i
        · subst he; exact hs
        · exact h3 i' (by omega)
    · simp (disch := first | omega | (simp only [List.length_append, List.length_cons, List.length_nil, List.length_set, List.length_map, List.length_take, List.length_drop]; omega)) only [stdh, ↓reduceIte, Nat.reduceEqDiff, Int.reduceToNat, Int.reducePow, Nat.reduceAdd, Nat.reduceLeDiff, Nat.reduceMul, Nat.reduceBEq, reduceCtorEq]
      exact hQ _ fun i' hi' => h3 i' (by omega)
  termination_by m => m

theorem rfind_ok {l : List Fld} (hlen : l.length ≤ 6) (H : AHeap) (name : ByteArray) (Q : AVal → AHeap → Prop)
    (h0 : (∀ i, i < l.length → (l.getD i fld0).name ≠ name) → Q (.int .i64 (-1)) H) (h1 : ∀ i, i < l.length → (l.getD i fld0).name = name → (∀ i', i' < i → (l.getD i' fld0).name ≠ name) → Q (.int .i64 (i : Nat)) H) :
    FunOK Try.prog F.cuneiformref16_Find [recs encF false l, .str name] H Q := by
  refine fun_V 100 cuneiformref16_Find_code rfl ?_
  simp (disch := first | omega | (simp only [List.length_append, List.length_cons, List.length_nil, List.length_set, List.length_map, List.length_take, List.length_drop]; omega)) only [stdh, ↓reduceIte, Nat.reduceEqDiff, Int.reduceToNat, Int.reducePow, Nat.reduceAdd, Nat.reduceLeDiff, Nat.reduceMul, Nat.reduceBEq, reduceCtorEq, cuneiformref16_Find, cuneiformref16_Find.body]
  refine rfind_loop hlen _ H Q ?_ h1 _ 0 rfl (by omega) (by intro i' hi'; omega)
  intro r hr
  refine run_V0 100 ?_
  have := h0 hr
  simp (disch := first | omega | (simp only [List.length_append, List.length_cons, List.length_nil, List.length_set, List.length_map, List.length_take, List.length_drop]; omega)) only [stdh, ↓reduceIte, Nat.reduceEqDiff, Int.reduceToNat, Int.reducePow, Nat.reduceAdd, Nat.reduceLeDiff, Nat.reduceMul, Nat.reduceBEq, reduceCtorEq]
  exact this
end Go.Proofs.Ytoingggmiplggaa

namespace Go.Proofs.Ytoingggmiplggaa
open Go Go.Am
set_option linter.unusedSimpArgs false
set_option linter.unusedVariables false

abbrev fofC : Ctx := ⟨F.cuneiformlaw16_FieldOf, 142, [.tmp 6], none⟩
abbrev fofR (n : Nat) : Ctx := ⟨F.cuneiformlaw16_FieldOf, 142, [], some n⟩

theorem run_Ve {P : Program} {c : Ctx} {K : List AItem} {r : Regs} {H : AHeap} {Q : AVal → AHeap → Prop} (n : Nat) (k T : List AItem) (e : K = k ++ T) (h : V P c Q T n (.todo k r H)) : Run P c K r H Q := by subst e; exact run_V n h

theorem set_same {α : Type} {l : List α} {i : Nat} {x : α} (h : l[i]? = some x) : l.set i x = l := by
  apply List.ext_getElem?
  intro j
  by_cases hj : i = j
  · subst hj
    rw [List.getElem?_set_self (List.getElem?_eq_some_iff.1 h).1, h]
  · rw [List.getElem?_set_ne hj]

/-- Both lists are the same. -/
theorem fof_b1 {l : List Fld} (hlen : l.length ≤ 6) (K : List AItem) (H : AHeap) (Q : AVal → AHeap → Prop) (h1 : H[1]? = some (.cells [recs encF false l] T.sl_cuneiformref16_F)) (k name : AVal)
    (hQ : ∀ r, rget r 0 = k → rget r 2 = name → rget r 4 = .ptr 0 0 → rget r 8 = .ptr 1 0 → Run Try.prog fofC K r H Q) :
    ∀ (m i : Nat), l.length - i = m → i ≤ l.length →
    Rounds Try.prog fofC cuneiformlaw16_FieldOf.b1 [.inBlock 0] K [(0, k), (2, name), (4, .ptr 0 0), (6, .bool false), (7, recs encF false l), (8, .ptr 1 0), (9, .int .i64 (i : Nat))] H Q
  | m, i, g1, g2 => by
    refine loop_V 100 cuneiformlaw16_FieldOf.b1.eq_1 ?_
    by_cases hil : i < l.length
    · have hld : loadA H (some 7) (.sptr (recs encF false l) (i * 7)) = some (True, .agg (encF (l.getD i fld0))) := load_recs (enc := encF) (t := false) encF_len hil
      simp (disch := first | omega | (simp only [List.length_append, List.length_cons, List.length_nil, List.length_set, List.length_map, List.length_take, List.length_drop]; omega)) only [stdh, ↓reduceIte, Nat.reduceEqDiff, Int.reduceToNat, Int.reducePow, Nat.reduceAdd, Nat.reduceLeDiff, Nat.reduceMul, Nat.reduceBEq, reduceCtorEq, cuneiformlaw16_FieldOf.d0, h1, hld, eq_encF]
      exact fof_b1 hlen K H Q h1 k name hQ _ (i + 1) rfl (by omega)
    · simp (disch := first | omega | (simp only [List.length_append, List.length_cons, List.length_nil, List.length_set, List.length_map, List.length_take, List.length_drop]; omega)) only [stdh, ↓reduceIte, Nat.reduceEqDiff, Int.reduceToNat, Int.reducePow, Nat.reduceAdd, Nat.reduceLeDiff, Nat.reduceMul, Nat.reduceBEq, reduceCtorEq]
      exact hQ _ rfl rfl rfl rfl
  termination_by m => m

/-- The way to the next field that the version has. -/
theorem fof_b3 {l : List Fld} (hlen : l.length ≤ 6) {v : Int} (n : Nat) (K : List AItem) (Q : AVal → AHeap → Prop) (p3 p : AVal) (H : AHeap)
    (hQ : ∀ r, rget r 8 = .ptr 1 0 → rget r 10 = .ptr 2 0 → rget r 11 = p3 → rget r 13 = p → Run Try.prog (fofR n) K r H Q) :
    ∀ (m i : Nat) (H1 : AHeap), l.length - i = m → i ≤ l.length → H1[0]? = some (.cells [.int .i64 v] T.int) → H1[1]? = some (.cells [recs encF false l] T.sl_cuneiformref16_F) → H1[2]? = some (.cells [.int .i64 (i : Nat)] T.int) →
    H1.set 2 (.cells [.int .i64 (nx l v i : Nat)] T.int) = H →
    Rounds Try.prog (fofR n) cuneiformlaw16_FieldOf.b3 [.inBlock 4] K [(4, .ptr 0 0), (8, .ptr 1 0), (10, .ptr 2 0), (11, p3), (13, p)] H1 Q
  | m, i, H1, g1, g2, e0, e1, e2, e3 => by
    have hl2 : 2 < H1.length := (List.getElem?_eq_some_iff.1 e2).1
    refine loop_V 100 cuneiformlaw16_FieldOf.b3.eq_1 ?_
    by_cases hil : i < l.length
    · have hld : loadA H1 none (.sptr (recs encF false l) (i * 7 + 5)) = some (True, .int .i64 (l.getD i fld0).since) := load_rec1 (enc := encF) (t := false) encF_len hil (by omega)
      by_cases hs : v < (l.getD i fld0).since
      · simp (disch := first | omega | (simp only [List.length_append, List.length_cons, List.length_nil, List.length_set, List.length_map, List.length_take, List.length_drop]; omega)) only [stdh, ↓reduceIte, Nat.reduceEqDiff, Int.reduceToNat, Int.reducePow, Nat.reduceAdd, Nat.reduceLeDiff, Nat.reduceMul, Nat.reduceBEq, reduceCtorEq, cuneiformlaw16_FieldOf.d2, e0, e1, e2, hld, hs]
        rw [nx_bad hil hs] at e3
        refine fof_b3 (v := v) hlen n K Q p3 p H hQ _ (i + 1) _ rfl (by omega) ?_ ?_ ?_ ?_
        · rw [List.getElem?_set_ne (by omega)]; exact e0
        · rw [List.getElem?_set_ne (by omega)]; exact e1
        · rw [List.getElem?_set_self hl2]; rfl
        · rw [List.set_set]; exact e3
      · simp (disch := first | omega | (simp only [List.length_append, List.length_cons, List.length_nil, List.length_set, List.length_map, List.length_take, List.length_drop]; omega)) only [stdh, ↓reduceIte, Nat.reduceEqDiff, Int.reduceToNat, Int.reducePow, Nat.reduceAdd, Nat.reduceLeDiff, Nat.reduceMul, Nat.reduceBEq, reduceCtorEq, cuneiformlaw16_FieldOf.d2, e0, e1, e2, hld, hs]
        rw [nx_good hil hs, set_same e2] at e3
        subst e3
        exact hQ _ rfl rfl rfl rfl
    · simp (disch := first | omega | (simp only [List.length_append, List.length_cons, List.length_nil, List.length_set, List.length_map, List.length_take, List.length_drop]; omega)) only [stdh, ↓reduceIte, Nat.reduceEqDiff, Int.reduceToNat, Int.reducePow, Nat.reduceAdd, Nat.reduceLeDiff, Nat.reduceMul, Nat.reduceBEq, reduceCtorEq, cuneiformlaw16_FieldOf.d2, e0, e1, e2]
      rw [nx_end hil, set_same e2] at e3
      subst e3
      exact hQ _ rfl rfl rfl rfl
  termination_by m => m

/-- The other ones no version has that is asked for. -/
theorem fof_b7 {l : List Fld} (hlen : l.length ≤ 6) {v : Int} (K : List AItem) (Q : AVal → AHeap → Prop) (k name : AVal)
    (hQ : ∀ r H, 4 ≤ H.length → rget r 0 = k → rget r 2 = name → rget r 8 = .ptr 1 0 → rget r 11 = .ptr 3 0 → H[1]? = some (.cells [recs encF false l] T.sl_cuneiformref16_F) → H[3]? = some (.cells [.bool true] T.bool) → Run Try.prog fofC K r H Q) :
    ∀ (m i : Nat) (H1 : AHeap) (r0 : Regs), rget r0 0 = k → rget r0 2 = name → rget r0 4 = .ptr 0 0 → rget r0 8 = .ptr 1 0 → rget r0 10 = .ptr 2 0 → rget r0 11 = .ptr 3 0 → l.length - i = m → i ≤ l.length → (l.drop i).filter (fun f => decide (f.since ≤ v)) = [] → H1[0]? = some (.cells [.int .i64 v] T.int) → H1[1]? = some (.cells [recs encF false l] T.sl_cuneiformref16_F) → H1[2]? = some (.cells [.int .i64 (i : Nat)] T.int) → H1[3]? = some (.cells [.bool true] T.bool) →
    Rounds Try.prog fofC cuneiformlaw16_FieldOf.b7 [.inBlock 6] K r0 H1 Q
  | m, i, H1, r0, f0, f2, f4, f8, f10, f11, g1, g2, gf, e0, e1, e2, e3 => by
    have hl2 : 3 < H1.length := (List.getElem?_eq_some_iff.1 e3).1
    refine loop_V 100 cuneiformlaw16_FieldOf.b7.eq_1 ?_
    by_cases hil : i < l.length
    · have hld : loadA H1 none (.sptr (recs encF false l) (i * 7 + 5)) = some (True, .int .i64 (l.getD i fld0).since) := load_rec1 (enc := encF) (t := false) encF_len hil (by omega)
      rw [drop_get hil, List.filter_cons] at gf
      by_cases hs : v < (l.getD i fld0).since
      · rw [if_neg (by rw [decide_eq_true_eq]; omega)] at gf
        have e2' : (H1.set 3 (ABlk.cells [AVal.bool true] T.bool))[2]? = some (.cells [.int .i64 (i : Nat)] T.int) := by rw [List.getElem?_set_ne (by omega)]; exact e2
        simp (disch := first | omega | (simp only [List.length_append, List.length_cons, List.length_nil, List.length_set, List.length_map, List.length_take, List.length_drop]; omega)) only [stdh, ↓reduceIte, Nat.reduceEqDiff, Int.reduceToNat, Int.reducePow, Nat.reduceAdd, Nat.reduceLeDiff, Nat.reduceMul, Nat.reduceBEq, reduceCtorEq, f0, f2, f4, f8, f10, f11, cuneiformlaw16_FieldOf.d6, e0, e1, e2, e3, e2', hld, hs]
        refine fof_b7 (v := v) hlen K Q k name hQ _ (i + 1) _ _ rfl rfl rfl rfl rfl rfl rfl (by omega) gf ?_ ?_ ?_ ?_
        · rw [List.getElem?_set_ne (by omega), List.getElem?_set_ne (by omega)]; exact e0
        · rw [List.getElem?_set_ne (by omega), List.getElem?_set_ne (by omega)]; exact e1
        · rw [List.getElem?_set_self (by rw [List.length_set]; omega)]; rfl
        · rw [List.getElem?_set_ne (by omega), List.getElem?_set_self (by omega)]
      · rw [if_pos (by rw [decide_eq_true_eq]; omega)] at gf
        cases gf
    · simp (disch := first | omega | (simp only [List.length_append, List.length_cons, List.length_nil, List.length_set, List.length_map, List.length_take, List.length_drop]; omega)) only [stdh, ↓reduceIte, Nat.reduceEqDiff, Int.reduceToNat, Int.reducePow, Nat.reduceAdd, Nat.reduceLeDiff, Nat.reduceMul, Nat.reduceBEq, reduceCtorEq, f0, f2, f4, f8, f10, f11, e1, e2]
      exact hQ _ _ (by omega) rfl rfl rfl rfl e1 e3
  termination_by m => m
end Go.Proofs.Ytoingggmiplggaa

namespace Go.Proofs.Ytoingggmiplggaa
open Go Go.Am
set_option linter.unusedSimpArgs false
set_option linter.unusedVariables false

theorem fill_zero (x : Fld) : fillAt [AVal.str ⟨#[]⟩, .int .i64 0, .int .i64 0, .int .i64 0, .int .i64 0, .int .i64 0, .int .i64 0] 0 (encF x) = encF x := rfl

theorem getD_fld {l : List Fld} {i : Nat} (h : i < l.length) : l.getD i fld0 = l[i] := by simp [List.getD_eq_getElem?_getD, h]

theorem find_none {l : List Fld} {name : ByteArray} (h : ∀ i, i < l.length → (l.getD i fld0).name ≠ name) : (l.find? fun f => decide (f.name = name)) = none := by
  rw [List.find?_eq_none]
  intro f hf
  obtain ⟨i, hi, rfl⟩ := List.mem_iff_getElem.1 hf
  have := h i hi
  rw [getD_fld hi] at this
  simpa using this

theorem find_some {l : List Fld} {name : ByteArray} {i : Nat} (hi : i < l.length) (h : (l.getD i fld0).name = name) (h' : ∀ i', i' < i → (l.getD i' fld0).name ≠ name) : (l.find? fun f => decide (f.name = name)) = some (l.getD i fld0) := by
  rw [List.find?_eq_some_iff_getElem]
  refine ⟨by simpa using h, i, hi, (getD_fld hi).symm, fun j hj => ?_⟩
  have := h' j hj
  rw [getD_fld (by omega)] at this
  simpa using this

theorem fieldof_ok (k v : Int) (name : ByteArray) : FunOK Try.prog F.cuneiformlaw16_FieldOf [.int .i64 k, .int .i64 v, .str name] [] fun av _ => av = .bool true := by
  refine fun_V 60 cuneiformlaw16_FieldOf_code rfl ?_
  simp (disch := first | omega | (simp only [List.length_append, List.length_cons, List.length_nil, List.length_set, List.length_map, List.length_take, List.length_drop]; omega)) only [stdh, ↓reduceIte, Nat.reduceEqDiff, Int.reduceToNat, Int.reducePow, Nat.reduceAdd, Nat.reduceLeDiff, Nat.reduceMul, Nat.reduceBEq, reduceCtorEq, cuneiformlaw16_FieldOf, cuneiformlaw16_FieldOf.body]
  refine callK_fn (of_ok _ _ _ ?_)
  refine runL_V 60 ?_
  simp (disch := first | omega | (simp only [List.length_append, List.length_cons, List.length_nil, List.length_set, List.length_map, List.length_take, List.length_drop]; omega)) only [stdh, ↓reduceIte, Nat.reduceEqDiff, Int.reduceToNat, Int.reducePow, Nat.reduceAdd, Nat.reduceLeDiff, Nat.reduceMul, Nat.reduceBEq, reduceCtorEq]
  refine callK_fn (rall16_ok _ _ _ ?_)
  refine runL_V 60 ?_
  have hlen := fieldsOf_le k
  simp (disch := first | omega | (simp only [List.length_append, List.length_cons, List.length_nil, List.length_set, List.length_map, List.length_take, List.length_drop]; omega)) only [stdh, ↓reduceIte, Nat.reduceEqDiff, Int.reduceToNat, Int.reducePow, Nat.reduceAdd, Nat.reduceLeDiff, Nat.reduceMul, Nat.reduceBEq, reduceCtorEq]
  refine callK_fn (word_ok _ _ _ ?_)
  refine runL_V 60 ?_
  simp (disch := first | omega | (simp only [List.length_append, List.length_cons, List.length_nil, List.length_set, List.length_map, List.length_take, List.length_drop]; omega)) only [stdh, ↓reduceIte, Nat.reduceEqDiff, Int.reduceToNat, Int.reducePow, Nat.reduceAdd, Nat.reduceLeDiff, Nat.reduceMul, Nat.reduceBEq, reduceCtorEq]
  refine callK_fn (rword_ok _ _ _ ?_)
  refine runL_V 60 ?_
  simp (disch := first | omega | (simp only [List.length_append, List.length_cons, List.length_nil, List.length_set, List.length_map, List.length_take, List.length_drop]; omega)) only [stdh, ↓reduceIte, Nat.reduceEqDiff, Int.reduceToNat, Int.reducePow, Nat.reduceAdd, Nat.reduceLeDiff, Nat.reduceMul, Nat.reduceBEq, reduceCtorEq]
  refine fof_b1 hlen _ _ _ (by rfl) _ _ ?_ _ 0 rfl (by omega)
  intro r f0 f2 f4 f8
  refine run_V0 60 ?_
  simp (disch := first | omega | (simp only [List.length_append, List.length_cons, List.length_nil, List.length_set, List.length_map, List.length_take, List.length_drop]; omega)) only [stdh, ↓reduceIte, Nat.reduceEqDiff, Int.reduceToNat, Int.reducePow, Nat.reduceAdd, Nat.reduceLeDiff, Nat.reduceMul, Nat.reduceBEq, reduceCtorEq, f0, f2, f4, f8]
  refine callK_fn (fall_ok _ _ _ _ ?_)
  refine runL_V 60 ?_
  simp (disch := first | omega | (simp only [List.length_append, List.length_cons, List.length_nil, List.length_set, List.length_map, List.length_take, List.length_drop]; omega)) only [stdh, ↓reduceIte, Nat.reduceEqDiff, Int.reduceToNat, Int.reducePow, Nat.reduceAdd, Nat.reduceLeDiff, Nat.reduceMul, Nat.reduceBEq, reduceCtorEq, f0, f2, f4, f8, eqA]
  generalize hH : [ABlk.cells [AVal.int IntKind.i64 v] T.int, ABlk.cells [recs encF false (fieldsOf k)] T.sl_cuneiformref16_F, ABlk.cells [AVal.int IntKind.i64 0] T.int, ABlk.cells [AVal.bool true] T.bool] = H
  have e0 : H[0]? = some (.cells [.int .i64 v] T.int) := by rw [← hH]; rfl
  have e1 : H[1]? = some (.cells [recs encF false (fieldsOf k)] T.sl_cuneiformref16_F) := by rw [← hH]; rfl
  have e2 : H[2]? = some (.cells [.int .i64 (pos (fieldsOf k) v 0 : Nat)] T.int) := by rw [← hH]; rfl
  have e3 : H[3]? = some (.cells [.bool true] T.bool) := by rw [← hH]; rfl
  have e4 : H.length = 4 := by rw [← hH]; rfl
  clear hH
  refine range_vars (g := F.field_All_1) (first := []) (captured := [cell (.int .i64 k), cell (.int .i64 v)]) rfl (by intro n hn; cases hn) (item := fldArgs (versionFields k v)) (len := (versionFields k v).length) (fun j => rfl) [(2, T.int, fun j => .int .i64 (pos (fieldsOf k) v j : Nat)), (3, T.bool, fun _ => .bool true)] (fun _ => none) (vars_cons e2 (vars_cons e3 vars_nil)) ?_ (fun _ _ _ => fall1_iter) ?_ (fun _ _ _ _ _ _ hh => by cases hh)
  · intro a' b' j H1 hj _ hl hk hrec hv
    have q0 := (hk 0 (by omega) (by simp)).trans e0
    have q1 := (hk 1 (by omega) (by simp)).trans e1
    have q2 := hv.get (c := 2) (T := T.int) (f := fun j => .int .i64 (pos (fieldsOf k) v j : Nat)) (by simp)
    have q3 := hv.get (c := 3) (T := T.bool) (f := fun _ => .bool true) (by simp)
    obtain ⟨i1, i2⟩ := pos_at (k := k) (v := v) hj
    have i3 := (pos_inv (k := k) (v := v) j (by omega)).1
    have i4 : pos (fieldsOf k) v (j + 1) = nx (fieldsOf k) v (pos (fieldsOf k) v j) + 1 := rfl
    refine run_V0 60 ?_
    generalize hx : (versionFields k v).getD j fld0 = x at *
    simp (disch := first | omega | (simp only [List.length_append, List.length_cons, List.length_nil, List.length_set, List.length_map, List.length_take, List.length_drop]; omega)) only [stdh, ↓reduceIte, Nat.reduceEqDiff, Int.reduceToNat, Int.reducePow, Nat.reduceAdd, Nat.reduceLeDiff, Nat.reduceMul, Nat.reduceBEq, reduceCtorEq, cuneiformlaw16_FieldOf.a5, cuneiformlaw16_FieldOf.b5, hrec, q0, q1, q2, q3, fldArgs, hx, fill_zero, encF_len, cellish_encF, at_low, List.zip_cons_cons, List.zip_nil_left, List.reverse_cons, List.reverse_nil, List.getElem?_set_self, List.getElem?_set_ne]
    have hb0 : ∀ {b : ABlk} (m : Nat), m < H1.length → m ≠ H.length → (List.set (H1 ++ [ABlk.cells (encF x) T.field_Field]) H.length b)[m]? = H1[m]? := fun m h1 h2 => by
      rw [List.getElem?_set_ne (by omega), at_low h1]
    have hb4 : ∀ {b : ABlk}, (List.set (H1 ++ [ABlk.cells (encF x) T.field_Field]) H.length b)[H.length]? = some b := by
      intro b; rw [List.getElem?_set_self (by rw [List.length_append]; omega)]
    have hbf : ∀ {b : ABlk}, (List.set (H1 ++ [ABlk.cells (encF x) T.field_Field]) H.length b)[H1.length]? = some (.cells (encF x) T.field_Field) := by
      intro b; rw [List.getElem?_set_ne (by omega), at_0]; rfl
    have hbl : ∀ {b : ABlk}, (List.set (H1 ++ [ABlk.cells (encF x) T.field_Field]) H.length b).length = H1.length + 1 := by
      intro b; rw [List.length_set, List.length_append]; rfl
    refine fof_b3 (v := v) hlen _ _ _ _ _ _ ?_ _ _ _ rfl i3 ((hb0 0 (by omega) (by omega)).trans q0) ((hb0 1 (by omega) (by omega)).trans q1) ((hb0 2 (by omega) (by omega)).trans q2) rfl
    generalize hHb : List.set (H1 ++ [ABlk.cells (encF x) T.field_Field]) H.length _ = Hb
    have c0 : ∀ m, m < H1.length → m ≠ H.length → Hb[m]? = H1[m]? := fun m h1 h2 => by rw [← hHb]; exact hb0 m h1 h2
    have c4 : Hb[H.length]? = some (.loop (lrec fofC [(0, AVal.int IntKind.i64 k), (2, AVal.str name), (4, AVal.ptr 0 0), (6, rget r 6), (8, AVal.ptr 1 0), (10, AVal.ptr 2 0), (11, AVal.ptr 3 0), (53, AVal.fn F.field_All_1 [] [cell (AVal.int IntKind.i64 k), cell (AVal.int IntKind.i64 v)])] [54] a' b' .busy none)) := by rw [← hHb]; exact hb4
    have cf : Hb[H1.length]? = some (.cells (encF x) T.field_Field) := by rw [← hHb]; exact hbf
    have cl : Hb.length = H1.length + 1 := by rw [← hHb]; exact hbl
    clear hHb hb0 hb4 hbf hbl
    have d1 := (c0 1 (by omega) (by omega)).trans q1
    have d3 := (c0 3 (by omega) (by omega)).trans q3
    have hld : ∀ H, loadA H (some 7) (.sptr (recs encF false (fieldsOf k)) (nx (fieldsOf k) v (pos (fieldsOf k) v j) * 7)) = some (True, .agg (encF x)) := fun H => by
      rw [← i2]; exact load_recs (enc := encF) (t := false) encF_len i1
    intro r r8 r10 r11 r13
    refine run_V0 60 ?_
    simp (disch := first | omega | (simp only [List.length_append, List.length_cons, List.length_nil, List.length_set, List.length_map, List.length_take, List.length_drop]; omega)) only [stdh, ↓reduceIte, Nat.reduceEqDiff, Int.reduceToNat, Int.reducePow, Nat.reduceAdd, Nat.reduceLeDiff, Nat.reduceMul, Nat.reduceBEq, reduceCtorEq, cuneiformlaw16_FieldOf.d4, r8, r10, r11, r13, d1, d3, cf, hld, eq_encF, cl, take_encF, List.getElem?_set_self, List.getElem?_set_ne]
    refine ⟨Nat.le_of_eq (encF_len x).symm, ?_⟩
    refine round_fin (n := H.length) (L := lrec _ _ _ a' b' .busy none) rfl (by rw [List.getElem?_set_ne (by omega), List.getElem?_set_ne (by omega), List.getElem?_set_ne (by omega)]; exact c4) ?_
    refine varsQ_mk rfl (by simp only [List.length_set]; omega) (fun m m1 m2 m3 => ?_) (vars_cons ?_ (vars_cons ?_ vars_nil)) (by rw [List.getElem?_set_self (by simp only [List.length_set]; omega)]; rfl)
    · simp only [List.map_cons, List.map_nil, List.mem_cons, List.not_mem_nil, or_false] at m3
      rw [List.getElem?_set_ne (by omega), List.getElem?_set_ne (by omega), List.getElem?_set_ne (by omega), List.getElem?_set_ne (by omega)]
      exact c0 m m1 m2
    · rw [List.getElem?_set_ne (by omega), List.getElem?_set_self (by simp only [List.length_set]; omega)]; rfl
    · rw [List.getElem?_set_ne (by omega), List.getElem?_set_ne (by omega), List.getElem?_set_self (by simp only [List.length_set]; omega)]
  · intro H' hl hk _ hv
    have q0 := (hk 0 (by omega) (by simp)).trans e0
    have q1 := (hk 1 (by omega) (by simp)).trans e1
    have q2 := hv.get (c := 2) (T := T.int) (f := fun j => .int .i64 (pos (fieldsOf k) v j : Nat)) (by simp)
    have q3 := hv.get (c := 3) (T := T.bool) (f := fun _ => .bool true) (by simp)
    obtain ⟨i1, i2⟩ := pos_inv (k := k) (v := v) _ (Nat.le_refl _)
    rw [List.drop_eq_nil_of_le (Nat.le_refl _)] at i2
    refine run_V0 60 ?_
    simp (disch := first | omega | (simp only [List.length_append, List.length_cons, List.length_nil, List.length_set, List.length_map, List.length_take, List.length_drop]; omega)) only [stdh, ↓reduceIte, Nat.reduceEqDiff, Int.reduceToNat, Int.reducePow, Nat.reduceAdd, Nat.reduceLeDiff, Nat.reduceMul, Nat.reduceBEq, reduceCtorEq, f0, f2, f4, f8]
    refine fof_b7 (v := v) hlen _ _ _ _ ?_ _ _ _ _ rfl rfl rfl rfl rfl rfl rfl i1 i2 q0 q1 q2 q3
    clear q0 q1 q2 q3 hk hv
    intro r H2 hl2 f0 f2 f8 f11 q1 q3
    refine run_V0 60 ?_
    simp (disch := first | omega | (simp only [List.length_append, List.length_cons, List.length_nil, List.length_set, List.length_map, List.length_take, List.length_drop]; omega)) only [stdh, ↓reduceIte, Nat.reduceEqDiff, Int.reduceToNat, Int.reducePow, Nat.reduceAdd, Nat.reduceLeDiff, Nat.reduceMul, Nat.reduceBEq, reduceCtorEq, f0, f2, f8, f11, q1, q3]
    refine callK_fn (ffind_ok _ _ _ _ ?_)
    refine runL_V 60 ?_
    simp (disch := first | omega | (simp only [List.length_append, List.length_cons, List.length_nil, List.length_set, List.length_map, List.length_take, List.length_drop]; omega)) only [stdh, ↓reduceIte, Nat.reduceEqDiff, Int.reduceToNat, Int.reducePow, Nat.reduceAdd, Nat.reduceLeDiff, Nat.reduceMul, Nat.reduceBEq, reduceCtorEq, f0, f2, f8, f11, q1, q3, fill_zero, encF_len, cellish_encF, at_low]
    have ez : ([AVal.str ⟨#[]⟩, .int .i64 0, .int .i64 0, .int .i64 0, .int .i64 0, .int .i64 0, .int .i64 0] : List AVal) = encF fld0 := rfl
    refine callK_fn (rfind_ok hlen _ _ _ ?_ ?_)
    · intro hn
      have hf : findF k name = none := find_none hn
      refine runL_V 60 ?_
      rw [hf]
      simp (disch := first | omega | (simp only [List.length_append, List.length_cons, List.length_nil, List.length_set, List.length_map, List.length_take, List.length_drop]; omega)) only [stdh, ↓reduceIte, Nat.reduceEqDiff, Int.reduceToNat, Int.reducePow, Nat.reduceAdd, Nat.reduceLeDiff, Nat.reduceMul, Nat.reduceBEq, reduceCtorEq, cuneiformlaw16_FieldOf.d8]
      refine callD_fn (known16_ok _ _ ?_)
      refine ⟨by simp (disch := first | omega | (simp only [List.length_append, List.length_cons, List.length_nil, List.length_set, List.length_map, List.length_take, List.length_drop]; omega)) only [stdh, ↓reduceIte, Nat.reduceEqDiff, Int.reduceToNat, Int.reducePow, Nat.reduceAdd, Nat.reduceLeDiff, Nat.reduceMul, Nat.reduceBEq, reduceCtorEq], ?_⟩
      refine runD_V 60 ?_
      simp (disch := first | omega | (simp only [List.length_append, List.length_cons, List.length_nil, List.length_set, List.length_map, List.length_take, List.length_drop]; omega)) only [stdh, ↓reduceIte, Nat.reduceEqDiff, Int.reduceToNat, Int.reducePow, Nat.reduceAdd, Nat.reduceLeDiff, Nat.reduceMul, Nat.reduceBEq, reduceCtorEq, q3, at_low, ez, eq_encF, take_encF, encF_len]
    · intro i hi h1 h2
      have hf : findF k name = some ((fieldsOf k).getD i fld0) := find_some hi h1 h2
      have hld : ∀ H, loadA H (some 7) (.sptr (recs encF false (fieldsOf k)) (i * 7)) = some (True, .agg (encF ((fieldsOf k).getD i fld0))) := fun H => load_recs (enc := encF) (t := false) encF_len hi
      refine runL_V 60 ?_
      rw [hf]
      simp (disch := first | omega | (simp only [List.length_append, List.length_cons, List.length_nil, List.length_set, List.length_map, List.length_take, List.length_drop]; omega)) only [stdh, ↓reduceIte, Nat.reduceEqDiff, Int.reduceToNat, Int.reducePow, Nat.reduceAdd, Nat.reduceLeDiff, Nat.reduceMul, Nat.reduceBEq, reduceCtorEq, cuneiformlaw16_FieldOf.d8]
      refine callD_fn (known16_ok _ _ ?_)
      refine ⟨by simp (disch := first | omega | (simp only [List.length_append, List.length_cons, List.length_nil, List.length_set, List.length_map, List.length_take, List.length_drop]; omega)) only [stdh, ↓reduceIte, Nat.reduceEqDiff, Int.reduceToNat, Int.reducePow, Nat.reduceAdd, Nat.reduceLeDiff, Nat.reduceMul, Nat.reduceBEq, reduceCtorEq], ?_⟩
      refine runD_V 60 ?_
      simp (disch := first | omega | (simp only [List.length_append, List.length_cons, List.length_nil, List.length_set, List.length_map, List.length_take, List.length_drop]; omega)) only [stdh, ↓reduceIte, Nat.reduceEqDiff, Int.reduceToNat, Int.reducePow, Nat.reduceAdd, Nat.reduceLeDiff, Nat.reduceMul, Nat.reduceBEq, reduceCtorEq, q1, q3, at_low, eq_encF, take_encF, encF_len, hld]
end Go.Proofs.Ytoingggmiplggaa

namespace Go.Proofs.Ytoingggmiplggaa.fieldOf
open Go Go.Am Go.ChangeShapes Go.WideShapes Go.ChangeAt Go.RowKit
set_option linter.unusedVariables false

theorem own : ownKnob Try.prog.godebug = none := by kernel_rfl
theorem laidOut : laidOutB Try.prog = true := by kernel_rfl

set_option maxRecDepth 100000 in
theorem lifted (os : Os) (started : os.Started) (H : Type) (enc : TypeId × Value → H) :
    ReturnsInHanded {} Try.checked os F.cuneiformlaw16_FieldOf .any (Rows.fieldOfSpec.pre6 enc Try.prog Try.f5 Rows.fieldOfRow.domain false) (Rows.fieldOfSpec.post enc Try.prog Try.f5 false true false false) := by
  refine returnsInHanded_of_change (C := Try.checked) own started (by kernel_rfl) Try.func5
    (ChangeSpec.witness6 (enc := enc) (C := Try.checked) false ⟨#[], #[.int .i64 0, .int .i64 0, .string ⟨#[]⟩], []⟩ 8 (by kernel_rfl) (by kernel_rfl) (by kernel_rfl) (by kernel_rfl)) ?_
  intro W base args ds gs before hval hW hcnd _
  refine law_calls (shs := [.int .i64, .int .i64, .str]) (tb := 4) laidOut (by kernel_rfl) ?_ (by kernel_rfl) Try.underlying4 rfl ?_ ?_ hval hW
  · intro t ht
    have : ∀ t ∈ Try.f5.params.toList, (Try.prog.readableRec t && decide (t < Try.prog.types.size)) = true := List.all_eq_true.1 (by kernel_rfl)
    simpa using this t ht
  · intro H ds hd
    match ds, hd with
    | [d0, d1, d2], _ => exact ⟨rfl, rfl, rfl⟩
  · rintro xs ⟨a, r, rfl, ⟨s, hs, ws⟩, b, r', rfl, ⟨s', hs', ws'⟩, c, r'', rfl, ⟨w, hw, _⟩, rfl⟩
    cases hs
    cases hs'
    cases hw
    exact fieldof_ok s s' w

theorem proved : Rows.FieldOfSaid :=
  OpenClaim.holds_of_wide F.cuneiformlaw16_FieldOf Try.f5 rfl rfl rfl rfl rfl rfl rfl ⟨rfl, rfl, rfl, rfl, rfl⟩ rfl rfl rfl rfl rfl (by kernel_rfl) Try.func5 (by kernel_rfl)
    (of_decide_eq_true (by kernel_rfl)) (by unfold Func.isWrapper; first | (rw [if_pos (by decide +kernel)]; kernel_rfl) | (rw [if_neg (by decide +kernel)]; exact ⟨rfl, rfl⟩))
    (fun os started H enc _ => lifted os started H enc)
end Go.Proofs.Ytoingggmiplggaa.fieldOf
