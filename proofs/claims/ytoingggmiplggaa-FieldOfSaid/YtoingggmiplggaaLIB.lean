/-
  Lemmas on the way to the statements of this seat. By an AI agent. No person has read it.
-/
import Derived.Test.YtoingggmiplggaaCode
import Derived.Test.YtoingggmiplggaaAm6

namespace Go.Proofs.Ytoingggmiplggaa
open Go Go.Am
set_option linter.unusedSimpArgs false
set_option linter.unusedVariables false

structure Fld where
  name : ByteArray
  sort : Int
  place : Int
  least : Int
  most : Int
  since : Int
  absent : Int
  deriving DecidableEq

def fld0 : Fld := ⟨⟨#[]⟩, 0, 0, 0, 0, 0, 0⟩
instance : Inhabited Fld := ⟨fld0⟩

def encF (f : Fld) : List AVal := [.str f.name, .int .i64 f.sort, .int .i64 f.place, .int .i64 f.least, .int .i64 f.most, .int .i64 f.since, .int .i64 f.absent]
theorem encF_len (f : Fld) : (encF f).length = 7 := rfl
theorem closeds_encF {L : Nat} (f : Fld) : closeds L (encF f) := ⟨trivial, trivial, trivial, trivial, trivial, trivial, trivial, trivial⟩

abbrev fRobot : Fld := ⟨⟨#[114, 111, 98, 111, 116]⟩, 1, 0, 0, 65535, 1, 0⟩

def fieldsOf (k : Int) : List Fld :=
  if k = 1 then [fRobot, ⟨⟨#[115, 112, 101, 101, 100]⟩, 1, 1, 1, 5000, 1, 0⟩, ⟨⟨#[97, 99, 99, 101, 108]⟩, 1, 2, 1, 10000, 2, 500⟩, ⟨⟨#[112, 97, 116, 104]⟩, 3, -1, 1, 16, 1, 0⟩, ⟨⟨#[116, 97, 103]⟩, 6, -1, 0, 16, 2, 0⟩]
  else if k = 2 then [fRobot, ⟨⟨#[114, 101, 97, 115, 111, 110]⟩, 1, 1, 0, 15, 1, 0⟩, ⟨⟨#[122, 111, 110, 101]⟩, 1, 2, 0, 4095, 2, 0⟩]
  else if k = 3 then [fRobot, ⟨⟨#[122, 111, 110, 101]⟩, 1, 1, 0, 4095, 1, 0⟩, ⟨⟨#[108, 101, 97, 115, 101]⟩, 1, 2, 1, 255, 2, 1⟩, ⟨⟨#[99, 101, 108, 108, 115]⟩, 4, -1, 1, 32, 1, 0⟩]
  else if k = 4 then [fRobot, ⟨⟨#[120]⟩, 2, 1, -1000000, 1000000, 1, 0⟩, ⟨⟨#[121]⟩, 2, 2, -1000000, 1000000, 1, 0⟩, ⟨⟨#[104, 101, 97, 100, 105, 110, 103]⟩, 1, 3, 0, 35999, 1, 0⟩, ⟨⟨#[98, 97, 116, 116, 101, 114, 121]⟩, 1, 4, 0, 1000, 1, 0⟩, ⟨⟨#[115, 117, 114, 101]⟩, 1, 5, 0, 100, 2, 100⟩]
  else if k = 5 then [fRobot, ⟨⟨#[99, 111, 100, 101]⟩, 1, 1, 1, 9999, 1, 0⟩, ⟨⟨#[115, 101, 118, 101, 114, 105, 116, 121]⟩, 1, 2, 0, 4, 1, 0⟩, ⟨⟨#[112, 97, 114, 116]⟩, 1, 3, 0, 255, 2, 0⟩, ⟨⟨#[116, 105, 109, 101, 115]⟩, 1, 4, 1, 1000000, 2, 1⟩, ⟨⟨#[116, 101, 120, 116]⟩, 5, -1, 0, 64, 1, 0⟩]
  else []

theorem of_ok (H : AHeap) (k : Int) (Q : AVal → AHeap → Prop) (h : Q (recs encF false (fieldsOf k)) H) : FunOK Try.prog F.field_Of [.int .i64 k] H Q := by
  by_cases h1 : k = 1
  · subst h1; exact fun_reckI codes_ok 10000 _ (by kernel_rfl) rfl H Q h
  by_cases h2 : k = 2
  · subst h2; exact fun_reckI codes_ok 10000 _ (by kernel_rfl) rfl H Q h
  by_cases h3 : k = 3
  · subst h3; exact fun_reckI codes_ok 10000 _ (by kernel_rfl) rfl H Q h
  by_cases h4 : k = 4
  · subst h4; exact fun_reckI codes_ok 10000 _ (by kernel_rfl) rfl H Q h
  by_cases h5 : k = 5
  · subst h5; exact fun_reckI codes_ok 10000 _ (by kernel_rfl) rfl H Q h
  refine fun_iced field_Of_code fun _ => ?_
  refine fun_V 200 field_Of_code rfl ?_
  simp (disch := first | omega | (simp only [List.length_append, List.length_cons, List.length_nil, List.length_set, List.length_map, List.length_take, List.length_drop]; omega)) only [stdh, ↓reduceIte, Nat.reduceEqDiff, Int.reduceToNat, Int.reducePow, Nat.reduceAdd, Nat.reduceLeDiff, Nat.reduceMul, Nat.reduceBEq, reduceCtorEq, field_Of, field_Of.body, h1, h2, h3, h4, h5]
  have : fieldsOf k = [] := by simp [fieldsOf, h1, h2, h3, h4, h5]
  rw [this] at h
  exact ice_nils (Keeps.refl _) h

/-- The document's fields are the same. -/
theorem rall16_ok (H : AHeap) (k : Int) (Q : AVal → AHeap → Prop) (h : Q (recs encF false (fieldsOf k)) H) : FunOK Try.prog F.cuneiformref16_All [.int .i64 k] H Q := by
  by_cases h1 : k = 1
  · subst h1; exact fun_reckI codes_ok 10000 _ (by kernel_rfl) rfl H Q h
  by_cases h2 : k = 2
  · subst h2; exact fun_reckI codes_ok 10000 _ (by kernel_rfl) rfl H Q h
  by_cases h3 : k = 3
  · subst h3; exact fun_reckI codes_ok 10000 _ (by kernel_rfl) rfl H Q h
  by_cases h4 : k = 4
  · subst h4; exact fun_reckI codes_ok 10000 _ (by kernel_rfl) rfl H Q h
  by_cases h5 : k = 5
  · subst h5; exact fun_reckI codes_ok 10000 _ (by kernel_rfl) rfl H Q h
  refine fun_iced cuneiformref16_All_code fun _ => ?_
  refine fun_V 200 cuneiformref16_All_code rfl ?_
  simp (disch := first | omega | (simp only [List.length_append, List.length_cons, List.length_nil, List.length_set, List.length_map, List.length_take, List.length_drop]; omega)) only [stdh, ↓reduceIte, Nat.reduceEqDiff, Int.reduceToNat, Int.reducePow, Nat.reduceAdd, Nat.reduceLeDiff, Nat.reduceMul, Nat.reduceBEq, reduceCtorEq, cuneiformref16_All, cuneiformref16_All.body, h1, h2, h3, h4, h5]
  refine loop_V 200 cuneiformref16_All.b0.eq_1 ?_
  simp (disch := first | omega | (simp only [List.length_append, List.length_cons, List.length_nil, List.length_set, List.length_map, List.length_take, List.length_drop]; omega)) only [stdh, ↓reduceIte, Nat.reduceEqDiff, Int.reduceToNat, Int.reducePow, Nat.reduceAdd, Nat.reduceLeDiff, Nat.reduceMul, Nat.reduceBEq, reduceCtorEq]
  refine run_V0 40 ?_
  simp (disch := first | omega | (simp only [List.length_append, List.length_cons, List.length_nil, List.length_set, List.length_map, List.length_take, List.length_drop]; omega)) only [stdh, ↓reduceIte, Nat.reduceEqDiff, Int.reduceToNat, Int.reducePow, Nat.reduceAdd, Nat.reduceLeDiff, Nat.reduceMul, Nat.reduceBEq, reduceCtorEq]
  have : fieldsOf k = [] := by simp [fieldsOf, h1, h2, h3, h4, h5]
  rw [this] at h
  exact ice_nils (keeps_append _ _) h

def wordOf (k : Int) : ByteArray := if k = 1 then ⟨#[109, 111, 118, 101]⟩ else if k = 2 then ⟨#[104, 111, 108, 100]⟩ else if k = 3 then ⟨#[103, 114, 97, 110, 116]⟩ else if k = 4 then ⟨#[112, 111, 115, 101]⟩ else if k = 5 then ⟨#[102, 97, 117, 108, 116]⟩ else ⟨#[]⟩

theorem word_ok (H : AHeap) (k : Int) (Q : AVal → AHeap → Prop) (h : Q (.str (wordOf k)) H) : FunOK Try.prog F.field_Word [.int .i64 k] H Q := by
  by_cases h1 : k = 1
  · subst h1; exact fun_reckI codes_ok 10000 _ (by kernel_rfl) rfl H Q h
  by_cases h2 : k = 2
  · subst h2; exact fun_reckI codes_ok 10000 _ (by kernel_rfl) rfl H Q h
  by_cases h3 : k = 3
  · subst h3; exact fun_reckI codes_ok 10000 _ (by kernel_rfl) rfl H Q h
  by_cases h4 : k = 4
  · subst h4; exact fun_reckI codes_ok 10000 _ (by kernel_rfl) rfl H Q h
  by_cases h5 : k = 5
  · subst h5; exact fun_reckI codes_ok 10000 _ (by kernel_rfl) rfl H Q h
  refine fun_V 200 field_Word_code rfl ?_
  simp (disch := first | omega | (simp only [List.length_append, List.length_cons, List.length_nil, List.length_set, List.length_map, List.length_take, List.length_drop]; omega)) only [stdh, ↓reduceIte, Nat.reduceEqDiff, Int.reduceToNat, Int.reducePow, Nat.reduceAdd, Nat.reduceLeDiff, Nat.reduceMul, Nat.reduceBEq, reduceCtorEq, field_Word, field_Word.body, h1, h2, h3, h4, h5]
  simpa [wordOf, h1, h2, h3, h4, h5] using h

theorem rword_ok (H : AHeap) (k : Int) (Q : AVal → AHeap → Prop) (h : Q (.str (wordOf k)) H) : FunOK Try.prog F.cuneiformref16_Word [.int .i64 k] H Q := by
  by_cases h1 : k = 1
  · subst h1; exact fun_reckI codes_ok 10000 _ (by kernel_rfl) rfl H Q h
  by_cases h2 : k = 2
  · subst h2; exact fun_reckI codes_ok 10000 _ (by kernel_rfl) rfl H Q h
  by_cases h3 : k = 3
  · subst h3; exact fun_reckI codes_ok 10000 _ (by kernel_rfl) rfl H Q h
  by_cases h4 : k = 4
  · subst h4; exact fun_reckI codes_ok 10000 _ (by kernel_rfl) rfl H Q h
  by_cases h5 : k = 5
  · subst h5; exact fun_reckI codes_ok 10000 _ (by kernel_rfl) rfl H Q h
  refine fun_V 200 cuneiformref16_Word_code rfl ?_
  have hw : wordOf k = ⟨#[]⟩ := by simp [wordOf, h1, h2, h3, h4, h5]
  rw [hw] at h
  by_cases h6 : k < 1
  · simp (disch := first | omega | (simp only [List.length_append, List.length_cons, List.length_nil, List.length_set, List.length_map, List.length_take, List.length_drop]; omega)) only [stdh, ↓reduceIte, Nat.reduceEqDiff, Int.reduceToNat, Int.reducePow, Nat.reduceAdd, Nat.reduceLeDiff, Nat.reduceMul, Nat.reduceBEq, reduceCtorEq, cuneiformref16_Word, cuneiformref16_Word.body, h6]
    exact h
  · have h7 : 5 < k := by omega
    simp (disch := first | omega | (simp only [List.length_append, List.length_cons, List.length_nil, List.length_set, List.length_map, List.length_take, List.length_drop]; omega)) only [stdh, ↓reduceIte, Nat.reduceEqDiff, Int.reduceToNat, Int.reducePow, Nat.reduceAdd, Nat.reduceLeDiff, Nat.reduceMul, Nat.reduceBEq, reduceCtorEq, cuneiformref16_Word, cuneiformref16_Word.body, h6, h7]
    exact h

theorem known16_ok (H : AHeap) (Q : AVal → AHeap → Prop) (h : Q (.bool true) H) : FunOK Try.prog F.cuneiformlaw16_known [] H Q := fun_reck codes_ok 10000 (.bool true) (by kernel_rfl) rfl rfl H Q h
end Go.Proofs.Ytoingggmiplggaa

namespace Go.Proofs.Ytoingggmiplggaa
open Go Go.Am
set_option linter.unusedSimpArgs false
set_option linter.unusedVariables false

/-- The fields that a version has. -/
def versionFields (k v : Int) : List Fld := (fieldsOf k).filter fun f => decide (f.since ≤ v)
def fldArgs (L : List Fld) (j : Nat) : List AVal := [.agg (encF (L.getD j fld0))]

theorem fieldsOf_le (k : Int) : (fieldsOf k).length ≤ 6 := by
  unfold fieldsOf
  split
  · simp
  split
  · simp
  split
  · simp
  split
  · simp
  split <;> simp

abbrev fall1C : Ctx := ⟨F.field_All_1, 22, [], none⟩

theorem fall1_loop {n : Nat} {v : Int} {l : List Fld} (hlen : l.length ≤ 6) {L : List Fld} {I : Bool → Nat → List Nat → AHeap → Prop} (hI : Fed Try.prog n (fldArgs L) L.length I)
    (K : List AItem) (Q : AVal → AHeap → Prop) {H0 : AHeap} {fp0 : List Nat}
    (hQ : ∀ b j fp H r, H0.length ≤ H.length → (∀ m, m < H0.length → m ∉ fp0 → H[m]? = H0[m]?) → (b = true → j = L.length) → I b j fp H → Run Try.prog fall1C K r H Q) :
    ∀ (m i j : Nat) (H : AHeap) (fp : List Nat), l.length - i = m → i ≤ l.length → j ≤ L.length → L.drop j = (l.drop i).filter (fun f => decide (f.since ≤ v)) → Touches fp0 H0 fp H → I true j fp H →
    Rounds Try.prog fall1C field_All_1.b0 [.inBlock 0] (.inScope :: K) [(0, .yld n), (2, cell (.int .i64 v)), (7, recs encF false l), (8, .int .i64 l.length), (9, .int .i64 i)] H Q
  | m, i, j, H, fp, h1, h2, h3, h4, ht, hi => by
    refine loop_V 100 field_All_1.b0.eq_1 ?_
    by_cases hil : i < l.length
    · have hd : l.drop i = l.getD i fld0 :: l.drop (i + 1) := by
        rw [List.drop_eq_getElem_cons hil]; simp [hil]
      rw [hd, List.filter_cons] at h4
      have hld : ∀ H, loadA H (some 7) (.sptr (recs encF false l) (i * 7)) = some (True, .agg (encF (l.getD i fld0))) := fun H => load_recs (enc := encF) (t := false) encF_len hil
      generalize hx : l.getD i fld0 = x at *
      by_cases hs : x.since ≤ v
      · have hs' : ¬ v < x.since := by omega
        rw [if_pos (by simpa using hs)] at h4
        have hj : j < L.length := by
          refine Classical.byContradiction fun hn => ?_
          rw [List.drop_eq_nil_of_le (by omega : L.length ≤ j)] at h4
          cases h4
        have hdj := List.drop_eq_getElem_cons hj
        rw [hdj] at h4
        obtain ⟨h5, h6⟩ := List.cons.inj h4
        have hargs : fldArgs L j = [.agg (encF x)] := by
          simp [fldArgs, List.getD_eq_getElem?_getD, hj, h5]
        simp (disch := first | omega | (simp only [List.length_append, List.length_cons, List.length_nil, List.length_set, List.length_map, List.length_take, List.length_drop]; omega)) only [stdh, ↓reduceIte, Nat.reduceEqDiff, Int.reduceToNat, Int.reducePow, Nat.reduceAdd, Nat.reduceLeDiff, Nat.reduceMul, Nat.reduceBEq, reduceCtorEq, hld, encF, hs']
        have hk1 : Touches fp0 H0 fp (H ++ [ABlk.cells (encF x) T.field_Field]) := ht.trans ⟨by simp, fun m hm => .inl hm, fun m hm _ => List.getElem?_append_left hm⟩
        have hi1 : I true j fp (H ++ [ABlk.cells (encF x) T.field_Field]) := (hI.foot true j).stable _ _ _ hi (by simp) fun m hm => List.getElem?_append_left ((hI.foot true j).lt _ _ hi m hm)
        have hstep := hI.step j fp _ hj hi1
        rw [hargs] at hstep
        refine CallV.mono hstep fun av H' hh => ?_
        obtain ⟨fp', ht', hh⟩ := hh
        have ht2 : Touches fp0 H0 fp' H' := hk1.trans ht'
        refine runL_V 40 ?_
        rcases hh with ⟨rfl, hi'⟩ | ⟨rfl, hi'⟩
        · simp (disch := first | omega | (simp only [List.length_append, List.length_cons, List.length_nil, List.length_set, List.length_map, List.length_take, List.length_drop]; omega)) only [stdh, ↓reduceIte, Nat.reduceEqDiff, Int.reduceToNat, Int.reducePow, Nat.reduceAdd, Nat.reduceLeDiff, Nat.reduceMul, Nat.reduceBEq, reduceCtorEq]
          exact fall1_loop hlen hI K Q hQ _ (i + 1) (j + 1) H' fp' rfl (by omega) (by omega) h6 ht2 hi'
        · simp (disch := first | omega | (simp only [List.length_append, List.length_cons, List.length_nil, List.length_set, List.length_map, List.length_take, List.length_drop]; omega)) only [stdh, ↓reduceIte, Nat.reduceEqDiff, Int.reduceToNat, Int.reducePow, Nat.reduceAdd, Nat.reduceLeDiff, Nat.reduceMul, Nat.reduceBEq, reduceCtorEq]
          refine run_inScope ?_
          exact hQ false _ fp' H' _ ht2.le ht2.kept (fun hh => by cases hh) hi'
      · have hs' : v < x.since := by omega
        rw [if_neg (by simpa using hs)] at h4
        simp (disch := first | omega | (simp only [List.length_append, List.length_cons, List.length_nil, List.length_set, List.length_map, List.length_take, List.length_drop]; omega)) only [stdh, ↓reduceIte, Nat.reduceEqDiff, Int.reduceToNat, Int.reducePow, Nat.reduceAdd, Nat.reduceLeDiff, Nat.reduceMul, Nat.reduceBEq, reduceCtorEq, hld, encF, hs']
        have hk1 : Touches fp0 H0 fp (H ++ [ABlk.cells (encF x) T.field_Field]) := ht.trans ⟨by simp, fun m hm => .inl hm, fun m hm _ => List.getElem?_append_left hm⟩
        have hi1 : I true j fp (H ++ [ABlk.cells (encF x) T.field_Field]) := (hI.foot true j).stable _ _ _ hi (by simp) fun m hm => List.getElem?_append_left ((hI.foot true j).lt _ _ hi m hm)
        exact fall1_loop hlen hI K Q hQ _ (i + 1) j _ fp rfl (by omega) h3 h4 hk1 hi1
    · rw [List.drop_eq_nil_of_le (by omega : l.length ≤ i)] at h4
      have hjl : j = L.length := by
        have := congrArg List.length h4
        simp only [List.length_drop, List.filter_nil, List.length_nil] at this; omega
      simp (disch := first | omega | (simp only [List.length_append, List.length_cons, List.length_nil, List.length_set, List.length_map, List.length_take, List.length_drop]; omega)) only [stdh, ↓reduceIte, Nat.reduceEqDiff, Int.reduceToNat, Int.reducePow, Nat.reduceAdd, Nat.reduceLeDiff, Nat.reduceMul, Nat.reduceBEq, reduceCtorEq]
      refine run_inScope ?_
      exact hQ true j fp H _ ht.le ht.kept (fun _ => hjl) hi
  termination_by m => m

theorem fall1_iter {H : AHeap} {n : Nat} {k v : Int} : Iter Try.prog F.field_All_1 [.yld n, cell (.int .i64 k), cell (.int .i64 v)] n (fldArgs (versionFields k v)) (versionFields k v).length [] H := by
  intro I hI fp hi hown
  refine fun_V 100 field_All_1_code rfl ?_
  simp (disch := first | omega | (simp only [List.length_append, List.length_cons, List.length_nil, List.length_set, List.length_map, List.length_take, List.length_drop]; omega)) only [stdh, ↓reduceIte, Nat.reduceEqDiff, Int.reduceToNat, Int.reducePow, Nat.reduceAdd, Nat.reduceLeDiff, Nat.reduceMul, Nat.reduceBEq, reduceCtorEq, field_All_1, field_All_1.body]
  refine callK_fn (of_ok _ _ _ ?_)
  refine runL_V 100 ?_
  simp (disch := first | omega | (simp only [List.length_append, List.length_cons, List.length_nil, List.length_set, List.length_map, List.length_take, List.length_drop]; omega)) only [stdh, ↓reduceIte, Nat.reduceEqDiff, Int.reduceToNat, Int.reducePow, Nat.reduceAdd, Nat.reduceLeDiff, Nat.reduceMul, Nat.reduceBEq, reduceCtorEq]
  refine fall1_loop (fieldsOf_le k) hI _ _ ?_ _ 0 0 H fp rfl (by omega) (by omega) rfl (Touches.refl _ _) hi
  intro b j fp' H' r h1 h2 h3 h4
  exact run_fin rfl rfl trivial ⟨b, j, fp', h1, h2, h3, h4⟩

theorem fall_ok (H : AHeap) (k v : Int) (Q : AVal → AHeap → Prop) (h : Q (.fn F.field_All_1 [] [cell (.int .i64 k), cell (.int .i64 v)]) H) : FunOK Try.prog F.field_All [.int .i64 k, .int .i64 v] H Q := by
  refine fun_iced field_All_code fun _ => ?_
  refine fun_V 40 field_All_code rfl ?_
  simp (disch := first | omega | (simp only [List.length_append, List.length_cons, List.length_nil, List.length_set, List.length_map, List.length_take, List.length_drop]; omega)) only [stdh, ↓reduceIte, Nat.reduceEqDiff, Int.reduceToNat, Int.reducePow, Nat.reduceAdd, Nat.reduceLeDiff, Nat.reduceMul, Nat.reduceBEq, reduceCtorEq, field_All, field_All.body]
  exact ice_clo2 trivial trivial h
end Go.Proofs.Ytoingggmiplggaa

namespace Go.Proofs.Ytoingggmiplggaa
open Go Go.Am
set_option linter.unusedSimpArgs false
set_option linter.unusedVariables false

theorem cellish_encF (f : Fld) : (encF f).all AVal.cellish = true := rfl
theorem fill_encF (f g : Fld) : fillAt (encF f) 0 (encF g) = encF g := rfl
theorem take_encF (f : Fld) : (encF f).take 7 = encF f := rfl
theorem eq_encF (f g : Fld) : eqCells [.str, .int, .int, .int, .int, .int, .int] (encF f) (encF g) = some (decide (f = g)) := by
  obtain ⟨a1, a2, a3, a4, a5, a6, a7⟩ := f
  obtain ⟨b1, b2, b3, b4, b5, b6, b7⟩ := g
  simp only [encF, eqCells, eqCell, if_true]
  simp

def findF (k : Int) (name : ByteArray) : Option Fld := (fieldsOf k).find? fun f => decide (f.name = name)

theorem fieldsOf_ne {k : Int} : ∀ f ∈ fieldsOf k, f ≠ fld0 := by
  unfold fieldsOf
  split
  · decide +kernel
  split
  · decide +kernel
  split
  · decide +kernel
  split
  · decide +kernel
  split
  · decide +kernel
  · simp

abbrev ffindC : Ctx := ⟨F.field_Find, 26, [.cell 4 (some 7), .tmp 5], none⟩

theorem ffind_loop {name : ByteArray} {l : List Fld} (hlen : l.length ≤ 6) (K : List AItem) (Q : AVal → AHeap → Prop) {H0 : AHeap} {c : Nat} (hc : H0.length ≤ c)
    (hQ : ∀ H r, Keeps H0 H → H[c]? = some (.cells (encF fld0) T.field_Field) → H[c + 1]? = some (.cells (encF ((l.find? fun f => decide (f.name = name)).getD fld0)) T.field_Field) → rget r 4 = .ptr c 0 → rget r 6 = .ptr (c + 1) 0 → Run Try.prog ffindC K r H Q) :
    ∀ (m i : Nat) (H : AHeap), l.length - i = m → i ≤ l.length → (l.find? fun f => decide (f.name = name)) = ((l.drop i).find? fun f => decide (f.name = name)) → Keeps H0 H → H[c]? = some (.cells (encF fld0) T.field_Field) → H[c + 1]? = some (.cells (encF fld0) T.field_Field) →
    Rounds Try.prog ffindC field_Find.b0 [.inBlock 0] K [(1, .str name), (4, .ptr c 0), (6, .ptr (c + 1) 0), (10, recs encF false l), (11, .int .i64 l.length), (12, .int .i64 i)] H Q
  | m, i, H, h1, h2, h4, hk, hh1, hh2 => by
    refine loop_V 100 field_Find.b0.eq_1 ?_
    have hcl : c + 1 < H.length := (List.getElem?_eq_some_iff.1 hh2).1
    by_cases hil : i < l.length
    · have hd : l.drop i = l.getD i fld0 :: l.drop (i + 1) := by
        rw [List.drop_eq_getElem_cons hil]; simp [hil]
      rw [hd, List.find?_cons] at h4
      have hld : ∀ H, loadA H (some 7) (.sptr (recs encF false l) (i * 7)) = some (True, .agg (encF (l.getD i fld0))) := fun H => load_recs (enc := encF) (t := false) encF_len hil
      generalize hx : l.getD i fld0 = x at *
      by_cases hs : x.name = name
      · simp only [hs, decide_true] at h4
        rw [h4] at hQ
        subst hs
        have hne : H0.length ≤ c + 1 := by omega
        have e1 : H[c + 1]? = some (ABlk.cells [.str ⟨#[]⟩, .int .i64 0, .int .i64 0, .int .i64 0, .int .i64 0, .int .i64 0, .int .i64 0] T.field_Field) := hh2
        simp (disch := first | omega | (simp only [List.length_append, List.length_cons, List.length_nil, List.length_set, List.length_map, List.length_take, List.length_drop]; omega)) only [stdh, ↓reduceIte, Nat.reduceEqDiff, Int.reduceToNat, Int.reducePow, Nat.reduceAdd, Nat.reduceLeDiff, Nat.reduceMul, Nat.reduceBEq, reduceCtorEq, hld, encF, at_low, set_low, e1]
        refine hQ _ _ ((hk.set hne _).push _) ?_ ?_ rfl rfl
        · rw [List.getElem?_append_left (by simp; omega), List.getElem?_set_ne (by omega)]; exact hh1
        · rw [List.getElem?_append_left (by simp; omega), List.getElem?_set_self (by omega)]; rfl
      · simp only [hs, decide_false] at h4
        simp (disch := first | omega | (simp only [List.length_append, List.length_cons, List.length_nil, List.length_set, List.length_map, List.length_take, List.length_drop]; omega)) only [stdh, ↓reduceIte, Nat.reduceEqDiff, Int.reduceToNat, Int.reducePow, Nat.reduceAdd, Nat.reduceLeDiff, Nat.reduceMul, Nat.reduceBEq, reduceCtorEq, hld, encF, hs]
        exact ffind_loop hlen K Q hc hQ _ (i + 1) _ rfl (by omega) h4 (hk.push _) (by rw [List.getElem?_append_left (by omega)]; exact hh1) (by rw [List.getElem?_append_left (by omega)]; exact hh2)
    · rw [List.drop_eq_nil_of_le (by omega : l.length ≤ i)] at h4
      simp (disch := first | omega | (simp only [List.length_append, List.length_cons, List.length_nil, List.length_set, List.length_map, List.length_take, List.length_drop]; omega)) only [stdh, ↓reduceIte, Nat.reduceEqDiff, Int.reduceToNat, Int.reducePow, Nat.reduceAdd, Nat.reduceLeDiff, Nat.reduceMul, Nat.reduceBEq, reduceCtorEq]
      simp only [List.find?_nil] at h4
      rw [h4] at hQ
      exact hQ H _ hk hh1 hh2 rfl rfl
  termination_by m => m

theorem ffind_ok (H : AHeap) (k : Int) (name : ByteArray) (Q : AVal → AHeap → Prop) (h : Q (.tup [.agg (encF ((findF k name).getD fld0)), .bool (findF k name).isSome]) H) : FunOK Try.prog F.field_Find [.int .i64 k, .str name] H Q := by
  refine fun_iced field_Find_code fun _ => ?_
  refine fun_V 100 field_Find_code rfl ?_
  simp (disch := first | omega | (simp only [List.length_append, List.length_cons, List.length_nil, List.length_set, List.length_map, List.length_take, List.length_drop]; omega)) only [stdh, ↓reduceIte, Nat.reduceEqDiff, Int.reduceToNat, Int.reducePow, Nat.reduceAdd, Nat.reduceLeDiff, Nat.reduceMul, Nat.reduceBEq, reduceCtorEq, field_Find, field_Find.body]
  refine callK_fn (of_ok _ _ _ ?_)
  refine runL_V 100 ?_
  simp (disch := first | omega | (simp only [List.length_append, List.length_cons, List.length_nil, List.length_set, List.length_map, List.length_take, List.length_drop]; omega)) only [stdh, ↓reduceIte, Nat.reduceEqDiff, Int.reduceToNat, Int.reducePow, Nat.reduceAdd, Nat.reduceLeDiff, Nat.reduceMul, Nat.reduceBEq, reduceCtorEq]
  refine ffind_loop (name := name) (fieldsOf_le k) _ _ (H0 := H) (c := H.length) (by omega) ?_ _ 0 _ rfl (by omega) rfl (keeps_append _ _) at_0 at_k
  intro H' r hk h1 h2 h4 h6
  refine run_V0 100 ?_
  have hl : H.length + 1 < H'.length := (List.getElem?_eq_some_iff.1 h2).1
  have hb : decide (¬((findF k name).getD fld0 = fld0)) = (findF k name).isSome := by
    cases hf : findF k name with
    | none => simp
    | some f =>
      have := fieldsOf_ne f (List.mem_of_find?_eq_some hf)
      simp [this]
  have ez : ([AVal.str ⟨#[]⟩, .int .i64 0, .int .i64 0, .int .i64 0, .int .i64 0, .int .i64 0, .int .i64 0] : List AVal) = encF fld0 := rfl
  rw [show ((fieldsOf k).find? fun f => decide (f.name = name)) = findF k name from rfl] at h2
  simp (disch := first | omega | (simp only [List.length_append, List.length_cons, List.length_nil, List.length_set, List.length_map, List.length_take, List.length_drop]; omega)) only [stdh, ↓reduceIte, Nat.reduceEqDiff, Int.reduceToNat, Int.reducePow, Nat.reduceAdd, Nat.reduceLeDiff, Nat.reduceMul, Nat.reduceBEq, reduceCtorEq, h4, h6, h1, h2, field_Find.d1, ez, eq_encF, encF_len, take_encF, cellish_encF, fill_encF, List.getElem?_set_ne, List.getElem?_set_self]
  refine ice_keeps (hk.set (Nat.le_refl _) _) ⟨closeds_encF _, trivial, trivial⟩ ?_
  rw [← hb] at h
  simpa using h
end Go.Proofs.Ytoingggmiplggaa
