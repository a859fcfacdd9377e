/-
  Lemmas on the way to the statements of this seat. By an AI agent. No person has read it.
-/
import Derived.Test.YtlkadcahjifolaaCode
import Derived.Test.YtlkadcahjifolaaAm6
set_option linter.unusedSimpArgs false
set_option linter.unusedVariables false

namespace Go.Proofs.Ytlkadcahjifolaa
open Go Go.Am
set_option linter.unusedSimpArgs false
set_option linter.unusedVariables false

structure Fld where
  name : ByteArray
  sort : Int
  place : Int
  least : Int
  most : Int
  since : Int
  absent : Int
  deriving DecidableEq

def fld0 : Fld := ⟨⟨#[]⟩, 0, 0, 0, 0, 0, 0⟩
instance : Inhabited Fld := ⟨fld0⟩

def encF (f : Fld) : List AVal := [.str f.name, .int .i64 f.sort, .int .i64 f.place, .int .i64 f.least, .int .i64 f.most, .int .i64 f.since, .int .i64 f.absent]
theorem encF_len (f : Fld) : (encF f).length = 7 := rfl
theorem closeds_encF {L : Nat} (f : Fld) : closeds L (encF f) := ⟨trivial, trivial, trivial, trivial, trivial, trivial, trivial, trivial⟩

abbrev fRobot : Fld := ⟨⟨#[114, 111, 98, 111, 116]⟩, 1, 0, 0, 65535, 1, 0⟩

def fieldsOf (k : Int) : List Fld :=
  if k = 1 then [fRobot, ⟨⟨#[115, 112, 101, 101, 100]⟩, 1, 1, 1, 5000, 1, 0⟩, ⟨⟨#[97, 99, 99, 101, 108]⟩, 1, 2, 1, 10000, 2, 500⟩, ⟨⟨#[112, 97, 116, 104]⟩, 3, -1, 1, 16, 1, 0⟩, ⟨⟨#[116, 97, 103]⟩, 6, -1, 0, 16, 2, 0⟩]
  else if k = 2 then [fRobot, ⟨⟨#[114, 101, 97, 115, 111, 110]⟩, 1, 1, 0, 15, 1, 0⟩, ⟨⟨#[122, 111, 110, 101]⟩, 1, 2, 0, 4095, 2, 0⟩]
  else if k = 3 then [fRobot, ⟨⟨#[122, 111, 110, 101]⟩, 1, 1, 0, 4095, 1, 0⟩, ⟨⟨#[108, 101, 97, 115, 101]⟩, 1, 2, 1, 255, 2, 1⟩, ⟨⟨#[99, 101, 108, 108, 115]⟩, 4, -1, 1, 32, 1, 0⟩]
  else if k = 4 then [fRobot, ⟨⟨#[120]⟩, 2, 1, -1000000, 1000000, 1, 0⟩, ⟨⟨#[121]⟩, 2, 2, -1000000, 1000000, 1, 0⟩, ⟨⟨#[104, 101, 97, 100, 105, 110, 103]⟩, 1, 3, 0, 35999, 1, 0⟩, ⟨⟨#[98, 97, 116, 116, 101, 114, 121]⟩, 1, 4, 0, 1000, 1, 0⟩, ⟨⟨#[115, 117, 114, 101]⟩, 1, 5, 0, 100, 2, 100⟩]
  else if k = 5 then [fRobot, ⟨⟨#[99, 111, 100, 101]⟩, 1, 1, 1, 9999, 1, 0⟩, ⟨⟨#[115, 101, 118, 101, 114, 105, 116, 121]⟩, 1, 2, 0, 4, 1, 0⟩, ⟨⟨#[112, 97, 114, 116]⟩, 1, 3, 0, 255, 2, 0⟩, ⟨⟨#[116, 105, 109, 101, 115]⟩, 1, 4, 1, 1000000, 2, 1⟩, ⟨⟨#[116, 101, 120, 116]⟩, 5, -1, 0, 64, 1, 0⟩]
  else []

theorem of_ok (H : AHeap) (k : Int) (Q : AVal → AHeap → Prop) (h : Q (recs encF false (fieldsOf k)) H) : FunOK Try.prog F.field_Of [.int .i64 k] H Q := by
  by_cases h1 : k = 1
  · subst h1; exact fun_reckI codes_ok 10000 _ (by kernel_rfl) rfl H Q h
  by_cases h2 : k = 2
  · subst h2; exact fun_reckI codes_ok 10000 _ (by kernel_rfl) rfl H Q h
  by_cases h3 : k = 3
  · subst h3; exact fun_reckI codes_ok 10000 _ (by kernel_rfl) rfl H Q h
  by_cases h4 : k = 4
  · subst h4; exact fun_reckI codes_ok 10000 _ (by kernel_rfl) rfl H Q h
  by_cases h5 : k = 5
  · subst h5; exact fun_reckI codes_ok 10000 _ (by kernel_rfl) rfl H Q h
  refine fun_iced field_Of_code fun _ => ?_
  refine fun_V 200 field_Of_code rfl ?_
  simp (disch := first | omega | (simp only [lnx]; omega)) only [stdh, stdx, ↓reduceIte, seval, field_Of, field_Of.body, h1, h2, h3, h4, h5]
  have : fieldsOf k = [] := by simp [fieldsOf, h1, h2, h3, h4, h5]
  rw [this] at h
  exact ice_nils (Keeps.refl _) h

/-- The document's fields are the same. -/
theorem rall16_ok (H : AHeap) (k : Int) (Q : AVal → AHeap → Prop) (h : Q (recs encF false (fieldsOf k)) H) : FunOK Try.prog F.cuneiformref16_All [.int .i64 k] H Q := by
  by_cases h1 : k = 1
  · subst h1; exact fun_reckI codes_ok 10000 _ (by kernel_rfl) rfl H Q h
  by_cases h2 : k = 2
  · subst h2; exact fun_reckI codes_ok 10000 _ (by kernel_rfl) rfl H Q h
  by_cases h3 : k = 3
  · subst h3; exact fun_reckI codes_ok 10000 _ (by kernel_rfl) rfl H Q h
  by_cases h4 : k = 4
  · subst h4; exact fun_reckI codes_ok 10000 _ (by kernel_rfl) rfl H Q h
  by_cases h5 : k = 5
  · subst h5; exact fun_reckI codes_ok 10000 _ (by kernel_rfl) rfl H Q h
  refine fun_iced cuneiformref16_All_code fun _ => ?_
  refine fun_V 200 cuneiformref16_All_code rfl ?_
  simp (disch := first | omega | (simp only [lnx]; omega)) only [stdh, stdx, ↓reduceIte, seval, cuneiformref16_All, cuneiformref16_All.body, h1, h2, h3, h4, h5]
  refine loop_V 200 cuneiformref16_All.b0.eq_1 ?_
  simp (disch := first | omega | (simp only [lnx]; omega)) only [stdh, stdx, ↓reduceIte, seval]
  refine run_V0 40 ?_
  simp (disch := first | omega | (simp only [lnx]; omega)) only [stdh, stdx, ↓reduceIte, seval]
  have : fieldsOf k = [] := by simp [fieldsOf, h1, h2, h3, h4, h5]
  rw [this] at h
  exact ice_nils (keeps_append _ _) h
set_option linter.unusedSimpArgs false
set_option linter.unusedVariables false

/-- The fields that a version has. -/
def versionFields (k v : Int) : List Fld := (fieldsOf k).filter fun f => decide (f.since ≤ v)
def fldArgs (L : List Fld) (j : Nat) : List AVal := [.agg (encF (L.getD j fld0))]

theorem fieldsOf_le (k : Int) : (fieldsOf k).length ≤ 6 := by
  unfold fieldsOf
  split
  · simp
  split
  · simp
  split
  · simp
  split
  · simp
  split <;> simp

abbrev fall1C : Ctx := ⟨F.field_All_1, 22, [], none⟩

theorem fall1_loop {n : Nat} {v : Int} {l : List Fld} (hlen : l.length ≤ 6) {L : List Fld} {I : Bool → Nat → List Nat → AHeap → Prop} (hI : Fed Try.prog n (fldArgs L) L.length I)
    (K : List AItem) (Q : AVal → AHeap → Prop) {H0 : AHeap} {fp0 : List Nat}
    (hQ : ∀ b j fp H r, H0.length ≤ H.length → (∀ m, m < H0.length → m ∉ fp0 → H[m]? = H0[m]?) → (b = true → j = L.length) → I b j fp H → Run Try.prog fall1C K r H Q) :
    ∀ (m i j : Nat) (H : AHeap) (fp : List Nat), l.length - i = m → i ≤ l.length → j ≤ L.length → L.drop j = (l.drop i).filter (fun f => decide (f.since ≤ v)) → Touches fp0 H0 fp H → I true j fp H →
    Rounds Try.prog fall1C field_All_1.b0 [.inBlock 0] (.inScope :: K) [(0, .yld n), (2, cell (.int .i64 v)), (7, recs encF false l), (8, .int .i64 l.length), (9, .int .i64 i)] H Q
  | m, i, j, H, fp, h1, h2, h3, h4, ht, hi => by
    refine loop_V 100 field_All_1.b0.eq_1 ?_
    by_cases hil : i < l.length
    · have hd : l.drop i = l.getD i fld0 :: l.drop (i + 1) := by
        rw [List.drop_eq_getElem_cons hil]; simp [hil]
      rw [hd, List.filter_cons] at h4
      have hld : ∀ H, loadA H (some 7) (.sptr (recs encF false l) (i * 7)) = some (True, .agg (encF (l.getD i fld0))) := fun H => load_recs (enc := encF) (t := false) encF_len hil
      generalize hx : l.getD i fld0 = x at *
      by_cases hs : x.since ≤ v
      · have hs' : ¬ v < x.since := by omega
        rw [if_pos (by simpa using hs)] at h4
        have hj : j < L.length := by
          refine Classical.byContradiction fun hn => ?_
          rw [List.drop_eq_nil_of_le (by omega : L.length ≤ j)] at h4
          cases h4
        have hdj := List.drop_eq_getElem_cons hj
        rw [hdj] at h4
        obtain ⟨h5, h6⟩ := List.cons.inj h4
        have hargs : fldArgs L j = [.agg (encF x)] := by
          simp [fldArgs, List.getD_eq_getElem?_getD, hj, h5]
        simp (disch := first | omega | (simp only [lnx]; omega)) only [stdh, stdx, ↓reduceIte, seval, hld, encF, hs']
        have hk1 : Touches fp0 H0 fp (H ++ [ABlk.cells (encF x) T.field_Field]) := ht.trans ⟨by simp, fun m hm => .inl hm, fun m hm _ => List.getElem?_append_left hm⟩
        have hi1 : I true j fp (H ++ [ABlk.cells (encF x) T.field_Field]) := (hI.foot true j).stable _ _ _ hi (by simp) fun m hm => List.getElem?_append_left ((hI.foot true j).lt _ _ hi m hm)
        have hstep := hI.step j fp _ hj hi1
        rw [hargs] at hstep
        refine CallV.mono hstep fun av H' hh => ?_
        obtain ⟨fp', ht', hh⟩ := hh
        have ht2 : Touches fp0 H0 fp' H' := hk1.trans ht'
        refine runL_V 40 ?_
        rcases hh with ⟨rfl, hi'⟩ | ⟨rfl, hi'⟩
        · simp (disch := first | omega | (simp only [lnx]; omega)) only [stdh, stdx, ↓reduceIte, seval]
          exact fall1_loop hlen hI K Q hQ _ (i + 1) (j + 1) H' fp' rfl (by omega) (by omega) h6 ht2 hi'
        · simp (disch := first | omega | (simp only [lnx]; omega)) only [stdh, stdx, ↓reduceIte, seval]
          refine run_inScope ?_
          exact hQ false _ fp' H' _ ht2.le ht2.kept (fun hh => by cases hh) hi'
      · have hs' : v < x.since := by omega
        rw [if_neg (by simpa using hs)] at h4
        simp (disch := first | omega | (simp only [lnx]; omega)) only [stdh, stdx, ↓reduceIte, seval, hld, encF, hs']
        have hk1 : Touches fp0 H0 fp (H ++ [ABlk.cells (encF x) T.field_Field]) := ht.trans ⟨by simp, fun m hm => .inl hm, fun m hm _ => List.getElem?_append_left hm⟩
        have hi1 : I true j fp (H ++ [ABlk.cells (encF x) T.field_Field]) := (hI.foot true j).stable _ _ _ hi (by simp) fun m hm => List.getElem?_append_left ((hI.foot true j).lt _ _ hi m hm)
        exact fall1_loop hlen hI K Q hQ _ (i + 1) j _ fp rfl (by omega) h3 h4 hk1 hi1
    · rw [List.drop_eq_nil_of_le (by omega : l.length ≤ i)] at h4
      have hjl : j = L.length := by
        have := congrArg List.length h4
        simp only [List.length_drop, List.filter_nil, List.length_nil] at this; omega
      simp (disch := first | omega | (simp only [lnx]; omega)) only [stdh, stdx, ↓reduceIte, seval]
      refine run_inScope ?_
      exact hQ true j fp H _ ht.le ht.kept (fun _ => hjl) hi
  termination_by m => m

theorem fall1_iter {H : AHeap} {n : Nat} {k v : Int} : Iter Try.prog F.field_All_1 [.yld n, cell (.int .i64 k), cell (.int .i64 v)] n (fldArgs (versionFields k v)) (versionFields k v).length [] H := by
  intro I hI fp hi hown
  refine fun_V 100 field_All_1_code rfl ?_
  simp (disch := first | omega | (simp only [lnx]; omega)) only [stdh, stdx, ↓reduceIte, seval, field_All_1, field_All_1.body]
  refine callK_fn (of_ok _ _ _ ?_)
  refine runL_V 100 ?_
  simp (disch := first | omega | (simp only [lnx]; omega)) only [stdh, stdx, ↓reduceIte, seval]
  refine fall1_loop (fieldsOf_le k) hI _ _ ?_ _ 0 0 H fp rfl (by omega) (by omega) rfl (Touches.refl _ _) hi
  intro b j fp' H' r h1 h2 h3 h4
  exact run_fin rfl rfl trivial ⟨b, j, fp', h1, h2, h3, h4⟩

theorem fall_ok (H : AHeap) (k v : Int) (Q : AVal → AHeap → Prop) (h : Q (.fn F.field_All_1 [] [cell (.int .i64 k), cell (.int .i64 v)]) H) : FunOK Try.prog F.field_All [.int .i64 k, .int .i64 v] H Q := by
  refine fun_iced field_All_code fun _ => ?_
  refine fun_V 40 field_All_code rfl ?_
  simp (disch := first | omega | (simp only [lnx]; omega)) only [stdh, stdx, ↓reduceIte, seval, field_All, field_All.body]
  exact ice_clo2 trivial trivial h
set_option linter.unusedSimpArgs false
set_option linter.unusedVariables false

theorem cellish_encF (f : Fld) : (encF f).all AVal.cellish = true := rfl
theorem fill_encF (f g : Fld) : fillAt (encF f) 0 (encF g) = encF g := rfl
theorem take_encF (f : Fld) : (encF f).take 7 = encF f := rfl
theorem eq_encF (f g : Fld) : eqCells [.str, .int, .int, .int, .int, .int, .int] (encF f) (encF g) = some (decide (f = g)) := by
  obtain ⟨a1, a2, a3, a4, a5, a6, a7⟩ := f
  obtain ⟨b1, b2, b3, b4, b5, b6, b7⟩ := g
  simp only [encF, eqCells, eqCell, if_true]
  simp

def findF (k : Int) (name : ByteArray) : Option Fld := (fieldsOf k).find? fun f => decide (f.name = name)

theorem fieldsOf_ne {k : Int} : ∀ f ∈ fieldsOf k, f ≠ fld0 := by
  unfold fieldsOf
  split
  · decide +kernel
  split
  · decide +kernel
  split
  · decide +kernel
  split
  · decide +kernel
  split
  · decide +kernel
  · simp

abbrev ffindC : Ctx := ⟨F.field_Find, 26, [.cell 4 (some 7), .tmp 5], none⟩

theorem ffind_loop {name : ByteArray} {l : List Fld} (hlen : l.length ≤ 6) (K : List AItem) (Q : AVal → AHeap → Prop) {H0 : AHeap} {c : Nat} (hc : H0.length ≤ c)
    (hQ : ∀ H r, Keeps H0 H → H[c]? = some (.cells (encF fld0) T.field_Field) → H[c + 1]? = some (.cells (encF ((l.find? fun f => decide (f.name = name)).getD fld0)) T.field_Field) → rget r 4 = .ptr c 0 → rget r 6 = .ptr (c + 1) 0 → Run Try.prog ffindC K r H Q) :
    ∀ (m i : Nat) (H : AHeap), l.length - i = m → i ≤ l.length → (l.find? fun f => decide (f.name = name)) = ((l.drop i).find? fun f => decide (f.name = name)) → Keeps H0 H → H[c]? = some (.cells (encF fld0) T.field_Field) → H[c + 1]? = some (.cells (encF fld0) T.field_Field) →
    Rounds Try.prog ffindC field_Find.b0 [.inBlock 0] K [(1, .str name), (4, .ptr c 0), (6, .ptr (c + 1) 0), (10, recs encF false l), (11, .int .i64 l.length), (12, .int .i64 i)] H Q
  | m, i, H, h1, h2, h4, hk, hh1, hh2 => by
    refine loop_V 100 field_Find.b0.eq_1 ?_
    have hcl : c + 1 < H.length := (List.getElem?_eq_some_iff.1 hh2).1
    by_cases hil : i < l.length
    · have hd : l.drop i = l.getD i fld0 :: l.drop (i + 1) := by
        rw [List.drop_eq_getElem_cons hil]; simp [hil]
      rw [hd, List.find?_cons] at h4
      have hld : ∀ H, loadA H (some 7) (.sptr (recs encF false l) (i * 7)) = some (True, .agg (encF (l.getD i fld0))) := fun H => load_recs (enc := encF) (t := false) encF_len hil
      generalize hx : l.getD i fld0 = x at *
      by_cases hs : x.name = name
      · simp only [hs, decide_true] at h4
        rw [h4] at hQ
        subst hs
        have hne : H0.length ≤ c + 1 := by omega
        have e1 : H[c + 1]? = some (ABlk.cells [.str ⟨#[]⟩, .int .i64 0, .int .i64 0, .int .i64 0, .int .i64 0, .int .i64 0, .int .i64 0] T.field_Field) := hh2
        simp (disch := first | omega | (simp only [lnx]; omega)) only [stdh, stdx, ↓reduceIte, seval, hld, encF, at_low, set_low, e1]
        refine hQ _ _ ((hk.set hne _).push _) ?_ ?_ rfl rfl
        · rw [List.getElem?_append_left (by simp; omega), List.getElem?_set_ne (by omega)]; exact hh1
        · rw [List.getElem?_append_left (by simp; omega), List.getElem?_set_self (by omega)]; rfl
      · simp only [hs, decide_false] at h4
        simp (disch := first | omega | (simp only [lnx]; omega)) only [stdh, stdx, ↓reduceIte, seval, hld, encF, hs]
        exact ffind_loop hlen K Q hc hQ _ (i + 1) _ rfl (by omega) h4 (hk.push _) (by rw [List.getElem?_append_left (by omega)]; exact hh1) (by rw [List.getElem?_append_left (by omega)]; exact hh2)
    · rw [List.drop_eq_nil_of_le (by omega : l.length ≤ i)] at h4
      simp (disch := first | omega | (simp only [lnx]; omega)) only [stdh, stdx, ↓reduceIte, seval]
      simp only [List.find?_nil] at h4
      rw [h4] at hQ
      exact hQ H _ hk hh1 hh2 rfl rfl
  termination_by m => m

theorem ffind_ok (H : AHeap) (k : Int) (name : ByteArray) (Q : AVal → AHeap → Prop) (h : Q (.tup [.agg (encF ((findF k name).getD fld0)), .bool (findF k name).isSome]) H) : FunOK Try.prog F.field_Find [.int .i64 k, .str name] H Q := by
  refine fun_iced field_Find_code fun _ => ?_
  refine fun_V 100 field_Find_code rfl ?_
  simp (disch := first | omega | (simp only [lnx]; omega)) only [stdh, stdx, ↓reduceIte, seval, field_Find, field_Find.body]
  refine callK_fn (of_ok _ _ _ ?_)
  refine runL_V 100 ?_
  simp (disch := first | omega | (simp only [lnx]; omega)) only [stdh, stdx, ↓reduceIte, seval]
  refine ffind_loop (name := name) (fieldsOf_le k) _ _ (H0 := H) (c := H.length) (by omega) ?_ _ 0 _ rfl (by omega) rfl (keeps_append _ _) at_0 at_k
  intro H' r hk h1 h2 h4 h6
  refine run_V0 100 ?_
  have hl : H.length + 1 < H'.length := (List.getElem?_eq_some_iff.1 h2).1
  have hb : decide (¬((findF k name).getD fld0 = fld0)) = (findF k name).isSome := by
    cases hf : findF k name with
    | none => simp
    | some f =>
      have := fieldsOf_ne f (List.mem_of_find?_eq_some hf)
      simp [this]
  have ez : ([AVal.str ⟨#[]⟩, .int .i64 0, .int .i64 0, .int .i64 0, .int .i64 0, .int .i64 0, .int .i64 0] : List AVal) = encF fld0 := rfl
  rw [show ((fieldsOf k).find? fun f => decide (f.name = name)) = findF k name from rfl] at h2
  simp (disch := first | omega | (simp only [lnx]; omega)) only [stdh, stdx, ↓reduceIte, seval, h4, h6, h1, h2, field_Find.d1, ez, eq_encF, encF_len, take_encF, cellish_encF, fill_encF, List.getElem?_set_ne, List.getElem?_set_self]
  refine ice_keeps (hk.set (Nat.le_refl _) _) ⟨closeds_encF _, trivial, trivial⟩ ?_
  rw [← hb] at h
  simpa using h
set_option linter.unusedSimpArgs false
set_option linter.unusedVariables false

/-- Where the next field is that a version has. -/
def nx (l : List Fld) (v : Int) (i : Nat) : Nat := i + ((l.drop i).takeWhile fun f => decide (v < f.since)).length
def pos (l : List Fld) (v : Int) : Nat → Nat
  | 0 => 0
  | j + 1 => nx l v (pos l v j) + 1

theorem drop_get {l : List Fld} {i : Nat} (h : i < l.length) : l.drop i = l.getD i fld0 :: l.drop (i + 1) := by
  rw [List.drop_eq_getElem_cons h]; simp [h]

theorem nx_bad {l : List Fld} {v : Int} {i : Nat} (h : i < l.length) (hb : v < (l.getD i fld0).since) : nx l v i = nx l v (i + 1) := by
  unfold nx
  rw [drop_get h, List.takeWhile_cons, if_pos (by simpa using hb), List.length_cons]; omega
theorem nx_good {l : List Fld} {v : Int} {i : Nat} (h : i < l.length) (hb : ¬ v < (l.getD i fld0).since) : nx l v i = i := by
  unfold nx
  rw [drop_get h, List.takeWhile_cons, if_neg (by simpa using hb)]; rfl
theorem nx_end {l : List Fld} {v : Int} {i : Nat} (h : ¬ i < l.length) : nx l v i = i := by
  unfold nx
  rw [List.drop_eq_nil_of_le (by omega)]; rfl

theorem nx_spec {l : List Fld} {v : Int} : ∀ (m i : Nat), l.length - i = m → i ≤ l.length → nx l v i ≤ l.length ∧ (l.drop i).filter (fun f => decide (f.since ≤ v)) = (l.drop (nx l v i)).filter (fun f => decide (f.since ≤ v)) ∧ (nx l v i < l.length → (l.getD (nx l v i) fld0).since ≤ v)
  | m, i, h, hi => by
    by_cases h1 : i < l.length
    · by_cases h2 : v < (l.getD i fld0).since
      · obtain ⟨q1, q2, q3⟩ := nx_spec (l := l) (v := v) (m - 1) (i + 1) (by omega) (by omega)
        rw [nx_bad h1 h2]
        refine ⟨q1, ?_, q3⟩
        rw [drop_get h1, List.filter_cons, if_neg (by rw [decide_eq_true_eq]; omega), q2]
      · rw [nx_good h1 h2]; exact ⟨hi, rfl, fun _ => by omega⟩
    · rw [nx_end h1]; exact ⟨hi, rfl, fun h => absurd h h1⟩
  termination_by m => m
  decreasing_by omega

theorem pos_inv {k v : Int} : ∀ (j : Nat), j ≤ (versionFields k v).length → pos (fieldsOf k) v j ≤ (fieldsOf k).length ∧ ((fieldsOf k).drop (pos (fieldsOf k) v j)).filter (fun f => decide (f.since ≤ v)) = (versionFields k v).drop j
  | 0, _ => ⟨Nat.zero_le _, rfl⟩
  | j + 1, h => by
    obtain ⟨h1, h2⟩ := pos_inv (k := k) (v := v) j (by omega)
    obtain ⟨q1, q2, q3⟩ := nx_spec (l := fieldsOf k) (v := v) _ (pos (fieldsOf k) v j) rfl h1
    have hd : (versionFields k v).drop j = (versionFields k v).getD j fld0 :: (versionFields k v).drop (j + 1) := drop_get (by omega)
    rw [h2, hd] at q2
    have hlt : nx (fieldsOf k) v (pos (fieldsOf k) v j) < (fieldsOf k).length := by
      refine Classical.byContradiction fun hn => ?_
      rw [List.drop_eq_nil_of_le (Nat.le_of_not_lt hn)] at q2
      cases q2
    rw [drop_get hlt, List.filter_cons, if_pos (by simpa using q3 hlt)] at q2
    exact ⟨hlt, (List.cons.inj q2).2.symm⟩

theorem pos_at {k v : Int} {j : Nat} (h : j < (versionFields k v).length) : nx (fieldsOf k) v (pos (fieldsOf k) v j) < (fieldsOf k).length ∧ (fieldsOf k).getD (nx (fieldsOf k) v (pos (fieldsOf k) v j)) fld0 = (versionFields k v).getD j fld0 := by
  obtain ⟨h1, h2⟩ := pos_inv (k := k) (v := v) j (by omega)
  obtain ⟨q1, q2, q3⟩ := nx_spec (l := fieldsOf k) (v := v) _ (pos (fieldsOf k) v j) rfl h1
  have hd : (versionFields k v).drop j = (versionFields k v).getD j fld0 :: (versionFields k v).drop (j + 1) := drop_get h
  rw [h2, hd] at q2
  have hlt : nx (fieldsOf k) v (pos (fieldsOf k) v j) < (fieldsOf k).length := by
    refine Classical.byContradiction fun hn => ?_
    rw [List.drop_eq_nil_of_le (Nat.le_of_not_lt hn)] at q2
    cases q2
  rw [drop_get hlt, List.filter_cons, if_pos (by simpa using q3 hlt)] at q2
  exact ⟨hlt, (List.cons.inj q2).1.symm⟩

/-- Where a name's field is; the document's. -/
def findAt (l : List Fld) (name : ByteArray) : Option Nat := l.findIdx? fun f => decide (f.name = name)

abbrev rfindC : Ctx := ⟨F.cuneiformref16_Find, 20, [.tmp 4], none⟩

theorem rfind_loop {name : ByteArray} {l : List Fld} (hlen : l.length ≤ 6) (K : List AItem) (H : AHeap) (Q : AVal → AHeap → Prop)
    (hQ : ∀ r, (∀ i, i < l.length → (l.getD i fld0).name ≠ name) → Run Try.prog rfindC K r H Q) (hR : ∀ i, i < l.length → (l.getD i fld0).name = name → (∀ i', i' < i → (l.getD i' fld0).name ≠ name) → Q (.int .i64 (i : Nat)) H) :
    ∀ (m i : Nat), l.length - i = m → i ≤ l.length → (∀ i', i' < i → (l.getD i' fld0).name ≠ name) →
    Rounds Try.prog rfindC cuneiformref16_Find.b0 [.inBlock 0] K [(0, recs encF false l), (1, .str name), (5, .int .i64 (i : Nat))] H Q
  | m, i, h1, h2, h3 => by
    refine loop_V 100 cuneiformref16_Find.b0.eq_1 ?_
    by_cases hil : i < l.length
    · have hld : loadA H none (.sptr (recs encF false l) (i * 7 + 0)) = some (True, .str (l.getD i fld0).name) := load_rec1 (enc := encF) (t := false) encF_len hil (by omega)
      by_cases hs : (l.getD i fld0).name = name
      · have := hR i hil hs h3
        simp (disch := first | omega | (simp only [lnx]; omega)) only [stdh, stdx, ↓reduceIte, seval, hld, hs]
        exact this
      · simp (disch := first | omega | (simp only [lnx]; omega)) only [stdh, stdx, ↓reduceIte, seval, hld, hs]
        refine rfind_loop hlen K H Q hQ hR _ (i + 1) rfl (by omega) fun i' hi' => ?_
        by_cases he : i' = i
        · subst he; exact hs
        · exact h3 i' (by omega)
    · simp (disch := first | omega | (simp only [lnx]; omega)) only [stdh, stdx, ↓reduceIte, seval]
      exact hQ _ fun i' hi' => h3 i' (by omega)
  termination_by m => m

theorem rfind_ok {l : List Fld} (hlen : l.length ≤ 6) (H : AHeap) (name : ByteArray) (Q : AVal → AHeap → Prop)
    (h0 : (∀ i, i < l.length → (l.getD i fld0).name ≠ name) → Q (.int .i64 (-1)) H) (h1 : ∀ i, i < l.length → (l.getD i fld0).name = name → (∀ i', i' < i → (l.getD i' fld0).name ≠ name) → Q (.int .i64 (i : Nat)) H) :
    FunOK Try.prog F.cuneiformref16_Find [recs encF false l, .str name] H Q := by
  refine fun_V 100 cuneiformref16_Find_code rfl ?_
  simp (disch := first | omega | (simp only [lnx]; omega)) only [stdh, stdx, ↓reduceIte, seval, cuneiformref16_Find, cuneiformref16_Find.body]
  refine rfind_loop hlen _ H Q ?_ h1 _ 0 rfl (by omega) (by intro i' hi'; omega)
  intro r hr
  refine run_V0 100 ?_
  have := h0 hr
  simp (disch := first | omega | (simp only [lnx]; omega)) only [stdh, stdx, ↓reduceIte, seval]
  exact this
set_option linter.unusedSimpArgs false
set_option linter.unusedVariables false

/-- A message; whether lists are nil isn't told. -/
structure Mg where
  k : Int
  n0 : Int
  n1 : Int
  n2 : Int
  n3 : Int
  n4 : Int
  n5 : Int
  p : List (Int × Int)
  c : List Int
  t : ByteArray
  g : ByteArray
  deriving DecidableEq

def encP (x : Int × Int) : List AVal := [.int .i64 x.1, .int .i64 x.2]
theorem encP_len (x : Int × Int) : (encP x).length = 2 := rfl
theorem closeds_encP {L : Nat} (x : Int × Int) : closeds L (encP x) := ⟨trivial, trivial, trivial⟩
abbrev pts (l : List (Int × Int)) : AVal := recs encP false l
def encM (m : Mg) : List AVal := [.int .i64 m.k, .int .i64 m.n0, .int .i64 m.n1, .int .i64 m.n2, .int .i64 m.n3, .int .i64 m.n4, .int .i64 m.n5, recs encP false m.p, ints false m.c, .str m.t, .str m.g]
theorem encM_len (m : Mg) : (encM m).length = 11 := rfl
theorem closed_pts {L : Nat} (t : Bool) (l : List (Int × Int)) : closed L (recs encP t l) := closed_recs t l fun x _ => closeds_encP x
theorem closeds_encM {L : Nat} (m : Mg) : closeds L (encM m) := ⟨trivial, trivial, trivial, trivial, trivial, trivial, trivial, closed_pts _ _, closed_ints _ _, trivial, trivial, trivial⟩
def mg0 : Mg := ⟨0, 0, 0, 0, 0, 0, 0, [], [], ⟨#[]⟩, ⟨#[]⟩⟩
/-- Lists whose lengths no machine's memory bars. -/
structure Mg.small (m : Mg) : Prop where
  p : m.p.length ≤ 1000
  c : m.c.length ≤ 1000

theorem flat_inj {xs ys : List (Int × Int)} (h : xs = ys) : xs.flatMap encP = ys.flatMap encP := by rw [h]

abbrev cloPC : Ctx := ⟨F.slices_Clone_msg_Point_msg_Point, 8, [.tmp 2], none⟩

theorem cloneP_ok (H : AHeap) (xs : List (Int × Int)) (hx : xs.length ≤ 1000) (Q : AVal → AHeap → Prop) (h : Q (pts xs) H) : FunOK Try.prog F.slices_Clone_msg_Point_msg_Point [pts xs] H Q := by
  refine fun_iced slices_Clone_msg_Point_msg_Point_code fun _ => ?_
  refine fun_V 8 slices_Clone_msg_Point_msg_Point_code rfl ?_
  simp (disch := first | omega | (simp only [lnx]; omega)) only [stdh, stdx, ↓reduceIte, seval, slices_Clone_msg_Point_msg_Point, slices_Clone_msg_Point_msg_Point.body]
  refine runL_isnil (cs := xs.flatMap encP) (n := xs.length) (t := false) rfl rfl fun b hb => ?_
  refine runL_V 60 ?_
  cases b
  · have hl := flatMap_length encP_len xs
    obtain ⟨p, a1, hp⟩ := Own.append3 (H := H ++ [ABlk.vec [] T.msg_Point 2]) (a := .slc H.length 0 0 2) (x := pts xs) (w := 2) (el := T.msg_Point) (B := 0) (n := 0) (cs := []) (k := xs.length) (ys := xs.flatMap encP) ⟨rfl, .inr ⟨_, Nat.zero_le _, rfl, at_0⟩⟩ 16 rfl rfl hl (by omega) (by omega) (by omega) (by simp [encP, AVal.cellish])
    simp (disch := first | omega | (simp only [lnx]; omega)) only [stdh, stdx, ↓reduceIte, seval, a1, hp, killA, set_0]
    refine ice_own (w := 2) (n := xs.length) (el := T.msg_Point) (cs := xs.flatMap encP) (keeps_append _ _) ⟨hl, .inr ⟨H.length + 1, by omega, by simp, by simp⟩⟩ (by exact closed_pts false xs) h
  · simp (disch := first | omega | (simp only [lnx]; omega)) only [stdh, stdx, ↓reduceIte, seval]
    refine ice_nils (Keeps.refl _) ?_
    have : xs = [] := by simpa using (hb rfl).2
    subst this
    exact h

theorem cloneI_ok (H : AHeap) (xs : List Int) (hx : xs.length ≤ 1000) (Q : AVal → AHeap → Prop) (h : Q (ints false xs) H) : FunOK Try.prog F.slices_Clone_int_int [ints false xs] H Q := by
  refine fun_iced slices_Clone_int_int_code fun _ => ?_
  refine fun_V 8 slices_Clone_int_int_code rfl ?_
  simp (disch := first | omega | (simp only [lnx]; omega)) only [stdh, stdx, ↓reduceIte, seval, slices_Clone_int_int, slices_Clone_int_int.body]
  refine runL_isnil (cs := xs.map fun n : Int => AVal.int .i64 n) (n := xs.length) (t := false) rfl rfl fun b hb => ?_
  refine runL_V 60 ?_
  cases b
  · have hl : (xs.map fun n : Int => AVal.int .i64 n).length = xs.length * 1 := by simp
    obtain ⟨p, a1, hp⟩ := Own.append3 (H := H ++ [ABlk.vec [] T.int 1]) (a := .slc H.length 0 0 1) (x := ints false xs) (w := 1) (el := T.int) (B := 0) (n := 0) (cs := []) (k := xs.length) (ys := xs.map fun n : Int => AVal.int .i64 n) ⟨rfl, .inr ⟨_, Nat.zero_le _, rfl, at_0⟩⟩ 8 rfl rfl hl (by omega) (by omega) (by omega) (by simp [AVal.cellish])
    simp (disch := first | omega | (simp only [lnx]; omega)) only [stdh, stdx, ↓reduceIte, seval, a1, hp, killA, set_0]
    refine ice_own (w := 1) (n := xs.length) (el := T.int) (cs := xs.map fun n : Int => AVal.int .i64 n) (keeps_append _ _) ⟨hl, .inr ⟨H.length + 1, by omega, by simp, by simp⟩⟩ (by exact closed_ints false xs) h
  · simp (disch := first | omega | (simp only [lnx]; omega)) only [stdh, stdx, ↓reduceIte, seval]
    refine ice_nils (Keeps.refl _) ?_
    have : xs = [] := by simpa using (hb rfl).2
    subst this
    exact h

theorem copy_ok (H : AHeap) (m : Mg) (hm : m.small) (Q : AVal → AHeap → Prop) (h : Q (.agg (encM m)) H) : FunOK Try.prog F.msg_Copy [.agg (encM m)] H Q := by
  refine fun_iced msg_Copy_code fun _ => ?_
  refine fun_V 60 msg_Copy_code rfl ?_
  simp (disch := first | omega | (simp only [lnx]; omega)) only [stdh, stdx, ↓reduceIte, seval, msg_Copy, msg_Copy.body, msg_Copy.d0, encM]
  refine callD_fn (cloneP_ok _ _ hm.p _ ?_)
  refine ⟨by simp (disch := first | omega | (simp only [lnx]; omega)) only [stdh, stdx, ↓reduceIte, seval], ?_⟩
  refine runD_V 60 ?_
  simp (disch := first | omega | (simp only [lnx]; omega)) only [stdh, stdx, ↓reduceIte, seval]
  refine callD_fn (cloneI_ok _ _ hm.c _ ?_)
  refine ⟨by simp (disch := first | omega | (simp only [lnx]; omega)) only [stdh, stdx, ↓reduceIte, seval], ?_⟩
  refine runD_V 60 ?_
  simp (disch := first | omega | (simp only [lnx]; omega)) only [stdh, stdx, ↓reduceIte, seval]
  exact ice_none (closeds_encM m) h

abbrev eqIC : Ctx := ⟨F.slices_Equal_int_int, 26, [.tmp 4], none⟩

theorem take_step {α : Type} [Inhabited α] {xs ys : List α} {i : Nat} (h1 : i < xs.length) (h2 : i < ys.length) (h : xs.take i = ys.take i) (h3 : xs.getD i default = ys.getD i default) : xs.take (i + 1) = ys.take (i + 1) := by
  rw [List.take_add_one, List.take_add_one, h, List.getElem?_eq_getElem h1, List.getElem?_eq_getElem h2]
  simp [h1, h2] at h3
  simp [h3]

theorem take_ne {α : Type} [Inhabited α] {xs ys : List α} {i : Nat} (h3 : xs.getD i default ≠ ys.getD i default) : xs ≠ ys := by
  intro h; subst h; exact h3 rfl

theorem eqI_loop {xs ys : List Int} (hl : xs.length = ys.length) (hb : xs.length ≤ 9223372036854775807) {t1 t2 : Bool} (K : List AItem) (H : AHeap) (Q : AVal → AHeap → Prop) (hK : xs = ys → ∀ r, Run Try.prog eqIC K r H Q) (hR : xs ≠ ys → Q (.bool false) H) :
    ∀ (m i : Nat), xs.length - i = m → i ≤ xs.length → xs.take i = ys.take i →
    Rounds Try.prog eqIC slices_Equal_int_int.b1 [.inBlock 0] K [(0, ints t1 xs), (1, ints t2 ys), (12, .int .i64 (xs.length : Nat)), (13, .int .i64 (i : Nat))] H Q
  | m, i, h1, h2, h3 => by
    refine loop_V 100 slices_Equal_int_int.b1.eq_1 ?_
    by_cases hi : i < xs.length
    · by_cases he : xs.getD i 0 = ys.getD i 0
      · simp (disch := first | omega | (simp only [lnx]; omega)) only [stdh, stdx, ↓reduceIte, seval, slices_Equal_int_int.d0, he]
        rw [show (i : Int) + 1 = ((i + 1 : Nat) : Int) by omega]
        exact eqI_loop hl hb K H Q hK hR _ (i + 1) rfl (by omega) (take_step hi (by omega) h3 he)
      · simp (disch := first | omega | (simp only [lnx]; omega)) only [stdh, stdx, ↓reduceIte, seval, slices_Equal_int_int.d0, he]
        exact hR (take_ne he)
    · simp (disch := first | omega | (simp only [lnx]; omega)) only [stdh, stdx, ↓reduceIte, seval]
      refine hK ?_ _
      rw [List.take_of_length_le (by omega), List.take_of_length_le (by omega)] at h3
      exact h3
  termination_by m => m

theorem eqI_ok (H : AHeap) (xs ys : List Int) {t1 t2 : Bool} (hx : xs.length ≤ 9223372036854775807) (Q : AVal → AHeap → Prop) (h : Q (.bool (decide (xs = ys))) H) : FunOK Try.prog F.slices_Equal_int_int [ints t1 xs, ints t2 ys] H Q := by
  refine fun_V 100 slices_Equal_int_int_code rfl ?_
  by_cases hl : xs.length = ys.length
  · have hl' : (xs.length : Int) = (ys.length : Int) := by omega
    simp (disch := first | omega | (simp only [lnx]; omega)) only [stdh, stdx, ↓reduceIte, seval, slices_Equal_int_int, slices_Equal_int_int.body, hl']
    rw [← hl']
    refine eqI_loop hl hx _ H Q ?_ ?_ _ 0 rfl (by omega) rfl
    · intro he r
      refine run_V0 40 ?_
      rw [decide_eq_true he] at h
      simp (disch := first | omega | (simp only [lnx]; omega)) only [stdh, stdx, ↓reduceIte, seval]
      exact h
    · intro he
      rw [decide_eq_false he] at h
      exact h
  · have hl' : ¬ (xs.length : Int) = (ys.length : Int) := by omega
    simp (disch := first | omega | (simp only [lnx]; omega)) only [stdh, stdx, ↓reduceIte, seval, slices_Equal_int_int, slices_Equal_int_int.body, hl']
    rw [decide_eq_false (fun he => hl (by rw [he]))] at h
    exact h

abbrev eqPC : Ctx := ⟨F.slices_Equal_msg_Point_msg_Point, 26, [.tmp 4], none⟩

theorem eqP_loop {xs ys : List (Int × Int)} (hl : xs.length = ys.length) (hb : xs.length ≤ 9223372036854775807) {t1 t2 : Bool} (K : List AItem) (H : AHeap) (Q : AVal → AHeap → Prop) (hK : xs = ys → ∀ r, Run Try.prog eqPC K r H Q) (hR : xs ≠ ys → Q (.bool false) H) :
    ∀ (m i : Nat), xs.length - i = m → i ≤ xs.length → xs.take i = ys.take i →
    Rounds Try.prog eqPC slices_Equal_msg_Point_msg_Point.b1 [.inBlock 0] K [(0, recs encP t1 xs), (1, recs encP t2 ys), (12, .int .i64 (xs.length : Nat)), (13, .int .i64 (i : Nat))] H Q
  | m, i, h1, h2, h3 => by
    refine loop_V 100 slices_Equal_msg_Point_msg_Point.b1.eq_1 ?_
    by_cases hi : i < xs.length
    · have g1 : loadA H (some 2) (.sptr (recs encP t1 xs) (i * 2)) = some (True, .agg (encP (xs.getD i default))) := load_recs encP_len hi
      have g2 : loadA H (some 2) (.sptr (recs encP t2 ys) (i * 2)) = some (True, .agg (encP (ys.getD i default))) := load_recs encP_len (by omega)
      have hs := fun he => take_step (xs := xs) (ys := ys) hi (by omega) h3 he
      have hn := take_ne (xs := xs) (ys := ys) (i := i)
      generalize xs.getD i default = x at *
      generalize ys.getD i default = y at *
      obtain ⟨x1, x2⟩ := x
      obtain ⟨y1, y2⟩ := y
      by_cases he : x1 = y1
      · by_cases he2 : x2 = y2
        · subst he; subst he2
          simp (disch := first | omega | (simp only [lnx]; omega)) only [stdh, stdx, ↓reduceIte, seval, slices_Equal_msg_Point_msg_Point.d0, g1, g2, encP]
          rw [show (i : Int) + 1 = ((i + 1 : Nat) : Int) by omega]
          exact eqP_loop hl hb K H Q hK hR _ (i + 1) rfl (by omega) (hs rfl)
        · simp (disch := first | omega | (simp only [lnx]; omega)) only [stdh, stdx, ↓reduceIte, seval, slices_Equal_msg_Point_msg_Point.d0, g1, g2, encP, he2]
          exact hR (hn fun hh => he2 (by cases hh; rfl))
      · simp (disch := first | omega | (simp only [lnx]; omega)) only [stdh, stdx, ↓reduceIte, seval, slices_Equal_msg_Point_msg_Point.d0, g1, g2, encP, he]
        exact hR (hn fun hh => he (by cases hh; rfl))
    · simp (disch := first | omega | (simp only [lnx]; omega)) only [stdh, stdx, ↓reduceIte, seval]
      refine hK ?_ _
      rw [List.take_of_length_le (by omega), List.take_of_length_le (by omega)] at h3
      exact h3
  termination_by m => m

theorem eqP_ok (H : AHeap) (xs ys : List (Int × Int)) {t1 t2 : Bool} (hx : xs.length ≤ 9223372036854775807) (Q : AVal → AHeap → Prop) (h : Q (.bool (decide (xs = ys))) H) : FunOK Try.prog F.slices_Equal_msg_Point_msg_Point [recs encP t1 xs, recs encP t2 ys] H Q := by
  refine fun_V 100 slices_Equal_msg_Point_msg_Point_code rfl ?_
  by_cases hl : xs.length = ys.length
  · have hl' : (xs.length : Int) = (ys.length : Int) := by omega
    simp (disch := first | omega | (simp only [lnx]; omega)) only [stdh, stdx, ↓reduceIte, seval, slices_Equal_msg_Point_msg_Point, slices_Equal_msg_Point_msg_Point.body, hl']
    rw [← hl']
    refine eqP_loop hl hx _ H Q ?_ ?_ _ 0 rfl (by omega) rfl
    · intro he r
      refine run_V0 40 ?_
      rw [decide_eq_true he] at h
      simp (disch := first | omega | (simp only [lnx]; omega)) only [stdh, stdx, ↓reduceIte, seval]
      exact h
    · intro he
      rw [decide_eq_false he] at h
      exact h
  · have hl' : ¬ (xs.length : Int) = (ys.length : Int) := by omega
    simp (disch := first | omega | (simp only [lnx]; omega)) only [stdh, stdx, ↓reduceIte, seval, slices_Equal_msg_Point_msg_Point, slices_Equal_msg_Point_msg_Point.body, hl']
    rw [decide_eq_false (fun he => hl (by rw [he]))] at h
    exact h
set_option linter.unusedSimpArgs false
set_option linter.unusedVariables false

def Mg.fits (m : Mg) : Prop := m.p.length ≤ 9223372036854775807 ∧ m.c.length ≤ 9223372036854775807
theorem Mg.small.fits {m : Mg} (h : m.small) : m.fits := ⟨by have := h.p; omega, by have := h.c; omega⟩

set_option maxHeartbeats 2000000 in
theorem same_ok (H : AHeap) (a b : Mg) (ha : a.fits) (Q : AVal → AHeap → Prop) (h : Q (.bool (decide (a = b))) H) : FunOK Try.prog F.msg_Same [.agg (encM a), .agg (encM b)] H Q := by
  refine fun_iced msg_Same_code fun _ => ?_
  refine fun_V 60 msg_Same_code rfl ?_
  obtain ⟨ak, a0, a1, a2, a3, a4, a5, ap, ac, at', ag⟩ := a
  obtain ⟨bk, b0, b1, b2, b3, b4, b5, bp, bc, bt, bg⟩ := b
  obtain ⟨hp, hc⟩ := ha
  simp only at hp hc
  have hne : ∀ (P : Prop), ¬ (⟨ak, a0, a1, a2, a3, a4, a5, ap, ac, at', ag⟩ : Mg) = ⟨bk, b0, b1, b2, b3, b4, b5, bp, bc, bt, bg⟩ → Q (.bool false) H := fun _ hn => by rw [decide_eq_false hn] at h; exact h
  by_cases hk : ak = bk
  case neg =>
    simp (disch := first | omega | (simp only [lnx]; omega)) only [stdh, stdx, ↓reduceIte, seval, msg_Same, msg_Same.body, encM, hk]
    exact ice_none trivial (hne True fun hh => hk (by cases hh; rfl))
  by_cases h0 : a0 = b0
  case neg =>
    simp (disch := first | omega | (simp only [lnx]; omega)) only [stdh, stdx, ↓reduceIte, seval, msg_Same, msg_Same.body, encM, hk, h0]
    exact ice_none trivial (hne True fun hh => h0 (by cases hh; rfl))
  by_cases h1 : a1 = b1
  case neg =>
    simp (disch := first | omega | (simp only [lnx]; omega)) only [stdh, stdx, ↓reduceIte, seval, msg_Same, msg_Same.body, encM, hk, h0, h1]
    exact ice_none trivial (hne True fun hh => h1 (by cases hh; rfl))
  by_cases h2 : a2 = b2
  case neg =>
    simp (disch := first | omega | (simp only [lnx]; omega)) only [stdh, stdx, ↓reduceIte, seval, msg_Same, msg_Same.body, encM, hk, h0, h1, h2]
    exact ice_none trivial (hne True fun hh => h2 (by cases hh; rfl))
  by_cases h3 : a3 = b3
  case neg =>
    simp (disch := first | omega | (simp only [lnx]; omega)) only [stdh, stdx, ↓reduceIte, seval, msg_Same, msg_Same.body, encM, hk, h0, h1, h2, h3]
    exact ice_none trivial (hne True fun hh => h3 (by cases hh; rfl))
  by_cases h4 : a4 = b4
  case neg =>
    simp (disch := first | omega | (simp only [lnx]; omega)) only [stdh, stdx, ↓reduceIte, seval, msg_Same, msg_Same.body, encM, hk, h0, h1, h2, h3, h4]
    exact ice_none trivial (hne True fun hh => h4 (by cases hh; rfl))
  by_cases h5 : a5 = b5
  case neg =>
    simp (disch := first | omega | (simp only [lnx]; omega)) only [stdh, stdx, ↓reduceIte, seval, msg_Same, msg_Same.body, encM, hk, h0, h1, h2, h3, h4, h5]
    exact ice_none trivial (hne True fun hh => h5 (by cases hh; rfl))
  simp (disch := first | omega | (simp only [lnx]; omega)) only [stdh, stdx, ↓reduceIte, seval, msg_Same, msg_Same.body, encM, hk, h0, h1, h2, h3, h4, h5]
  refine callK_fn (eqP_ok _ _ _ hp _ ?_)
  refine runL_V 60 ?_
  by_cases h6 : ap = bp
  case neg =>
    simp (disch := first | omega | (simp only [lnx]; omega)) only [stdh, stdx, ↓reduceIte, seval, h6]
    exact ice_none trivial (hne True fun hh => h6 (by cases hh; rfl))
  simp (disch := first | omega | (simp only [lnx]; omega)) only [stdh, stdx, ↓reduceIte, seval, h6]
  refine callK_fn (eqI_ok _ _ _ hc _ ?_)
  refine runL_V 60 ?_
  by_cases h7 : ac = bc
  case neg =>
    simp (disch := first | omega | (simp only [lnx]; omega)) only [stdh, stdx, ↓reduceIte, seval, h7]
    exact ice_none trivial (hne True fun hh => h7 (by cases hh; rfl))
  by_cases h8 : at' = bt
  case neg =>
    simp (disch := first | omega | (simp only [lnx]; omega)) only [stdh, stdx, ↓reduceIte, seval, h7, h8]
    exact ice_none trivial (hne True fun hh => h8 (by cases hh; rfl))
  by_cases h9 : ag = bg
  case neg =>
    simp (disch := first | omega | (simp only [lnx]; omega)) only [stdh, stdx, ↓reduceIte, seval, h7, h8, h9]
    exact ice_none trivial (hne True fun hh => h9 (by cases hh; rfl))
  simp (disch := first | omega | (simp only [lnx]; omega)) only [stdh, stdx, ↓reduceIte, seval, h7, h8, h9]
  refine ice_none trivial ?_
  rw [decide_eq_true (by rw [hk, h0, h1, h2, h3, h4, h5, h6, h7, h8, h9])] at h
  exact h

def manyE (n : Nat) (f : Fld) : Int := if (n : Int) < f.least then 13 else if f.most < (n : Int) then 6 else 0

theorem many_ok (H : AHeap) (n : Nat) (f : Fld) (Q : AVal → AHeap → Prop) (h : Q (.int .i64 (manyE n f)) H) : FunOK Try.prog F.msg_many [.int .i64 (n : Nat), .agg (encF f)] H Q := by
  refine fun_iced msg_many_code fun _ => ?_
  refine fun_V 60 msg_many_code rfl ?_
  unfold manyE at h
  by_cases h1 : (n : Int) < f.least
  · rw [if_pos h1] at h
    simp (disch := first | omega | (simp only [lnx]; omega)) only [stdh, stdx, ↓reduceIte, seval, msg_many, msg_many.body, encF, h1]
    exact ice_none trivial h
  · rw [if_neg h1] at h
    by_cases h2 : f.most < (n : Int)
    · rw [if_pos h2] at h
      simp (disch := first | omega | (simp only [lnx]; omega)) only [stdh, stdx, ↓reduceIte, seval, msg_many, msg_many.body, encF, h1, h2]
      exact ice_none trivial h
    · rw [if_neg h2] at h
      simp (disch := first | omega | (simp only [lnx]; omega)) only [stdh, stdx, ↓reduceIte, seval, msg_many, msg_many.body, encF, h1, h2]
      exact ice_none trivial h

def farP (x : Int × Int) : Bool := decide (1000000 < x.1 ∨ 1000000 < x.2 ∨ x.1 < -1000000 ∨ x.2 < -1000000)
def pathE (l : List (Int × Int)) (f : Fld) : Int := if manyE l.length f ≠ 0 then manyE l.length f else if l.any farP then 5 else 0

abbrev pathC : Ctx := ⟨F.msg_path, 36, [.tmp 4], none⟩

theorem path_loop {l : List (Int × Int)} (hb : l.length ≤ 9223372036854775807) {t : Bool} (K : List AItem) (Q : AVal → AHeap → Prop) {H0 : AHeap} (hK : l.any farP = false → ∀ r H, Keeps H0 H → Run Try.prog pathC K r H (IceQ H0 Q)) (hR : l.any farP = true → Q (.int .i64 5) H0) :
    ∀ (m i : Nat) (H : AHeap), l.length - i = m → i ≤ l.length → l.any farP = (l.drop i).any farP → Keeps H0 H →
    Rounds Try.prog pathC msg_path.b0 [.inBlock 0] K [(15, recs encP t l), (16, .int .i64 (l.length : Nat)), (17, .int .i64 (i : Nat))] H (IceQ H0 Q)
  | m, i, H, h1, h2, h3, hk => by
    refine loop_V 100 msg_path.b0.eq_1 ?_
    by_cases hi : i < l.length
    · have g1 : loadA H (some 2) (.sptr (recs encP t l) (i * 2)) = some (True, .agg (encP (l.getD i default))) := load_recs encP_len hi
      have hd : l.drop i = l.getD i default :: l.drop (i + 1) := by rw [List.drop_eq_getElem_cons hi]; simp [hi]
      rw [hd, List.any_cons] at h3
      generalize l.getD i default = x at *
      obtain ⟨x1, x2⟩ := x
      have e0 : ∀ y : Int, (if y > x1 then y else x1) = max x1 y := fun y => by omega
      by_cases hf : farP (x1, x2) = true
      · rw [hf, Bool.true_or] at h3
        by_cases q1 : (1000000 : Int) < (if x1 < x2 then x2 else x1)
        · simp (disch := first | omega | (simp only [lnx]; omega)) only [stdh, stdx, ↓reduceIte, seval, g1, encP, q1, gt_iff_lt]
          exact ice_keeps (hk.push _) trivial (hR h3)
        · have q2 : (if x2 < x1 then x2 else x1) < (-1000000 : Int) := by
            have := of_decide_eq_true hf
            simp only at this
            repeat' split
            all_goals (split at q1 <;> omega)
          simp (disch := first | omega | (simp only [lnx]; omega)) only [stdh, stdx, ↓reduceIte, seval, g1, encP, q1, q2, gt_iff_lt]
          exact ice_keeps (hk.push _) trivial (hR h3)
      · have hf' : farP (x1, x2) = false := by simpa using hf
        rw [hf', Bool.false_or] at h3
        have hf2 := of_decide_eq_false hf'
        simp only at hf2
        have q1 : ¬ (1000000 : Int) < (if x1 < x2 then x2 else x1) := by split <;> omega
        have q2 : ¬ (if x2 < x1 then x2 else x1) < (-1000000 : Int) := by split <;> omega
        simp (disch := first | omega | (simp only [lnx]; omega)) only [stdh, stdx, ↓reduceIte, seval, g1, encP, q1, q2, gt_iff_lt]
        rw [show (i : Int) + 1 = ((i + 1 : Nat) : Int) by omega]
        exact path_loop hb K Q hK hR _ (i + 1) _ rfl (by omega) h3 (hk.push _)
    · simp (disch := first | omega | (simp only [lnx]; omega)) only [stdh, stdx, ↓reduceIte, seval]
      rw [List.drop_eq_nil_of_le (by omega : l.length ≤ i)] at h3
      exact hK h3 _ _ hk
  termination_by m => m

theorem path_ok (H : AHeap) (l : List (Int × Int)) (f : Fld) {t : Bool} (hb : l.length ≤ 9223372036854775807) (Q : AVal → AHeap → Prop) (h : Q (.int .i64 (pathE l f)) H) : FunOK Try.prog F.msg_path [recs encP t l, .agg (encF f)] H Q := by
  refine fun_iced msg_path_code fun _ => ?_
  refine fun_V 60 msg_path_code rfl ?_
  simp (disch := first | omega | (simp only [lnx]; omega)) only [stdh, stdx, ↓reduceIte, seval, msg_path, msg_path.body, encF]
  refine callK_fn (many_ok _ _ f _ ?_)
  refine runL_V 60 ?_
  unfold pathE at h
  by_cases h1 : manyE l.length f = 0
  · rw [if_neg (by simpa using h1)] at h
    simp (disch := first | omega | (simp only [lnx]; omega)) only [stdh, stdx, ↓reduceIte, seval, h1]
    refine path_loop hb _ Q ?_ ?_ _ 0 _ rfl (by omega) rfl (keeps_append _ _)
    · intro ha r H' hk
      refine run_V0 40 ?_
      rw [ha] at h
      simp (disch := first | omega | (simp only [lnx]; omega)) only [stdh, stdx, ↓reduceIte, seval]
      exact ice_keeps hk trivial (by simpa using h)
    · intro ha
      rw [ha] at h
      simpa using h
  · rw [if_pos (by simpa using h1)] at h
    simp (disch := first | omega | (simp only [lnx]; omega)) only [stdh, stdx, ↓reduceIte, seval, h1]
    exact ice_none trivial h
set_option linter.unusedSimpArgs false
set_option linter.unusedVariables false

/-- What is wrong with cells, behind a last one. -/
def cellsGo : Int → List Int → Int
  | _, [] => 0
  | last, c :: l => if c < 0 ∨ 65535 < c then 5 else if c ≤ last then 3 else cellsGo c l
def cellsE (l : List Int) (f : Fld) : Int := if manyE l.length f ≠ 0 then manyE l.length f else cellsGo (-1) l

abbrev cellsC : Ctx := ⟨F.msg_cells, 35, [.tmp 4], none⟩

theorem cells_loop {l : List Int} (hb : l.length ≤ 9223372036854775807) {t : Bool} (K : List AItem) (H : AHeap) (Q : AVal → AHeap → Prop) (hK : cellsGo (-1) l = 0 → ∀ r, Run Try.prog cellsC K r H Q) (hR : Q (.int .i64 (cellsGo (-1) l)) H) :
    ∀ (m i : Nat) (last : Int), l.length - i = m → i ≤ l.length → cellsGo (-1) l = cellsGo last (l.drop i) →
    Rounds Try.prog cellsC msg_cells.b0 [.inBlock 0] K [(6, .int .i64 last), (16, ints t l), (17, .int .i64 (l.length : Nat)), (18, .int .i64 (i : Nat))] H Q
  | m, i, last, h1, h2, h3 => by
    refine loop_V 100 msg_cells.b0.eq_1 ?_
    by_cases hi : i < l.length
    · have hd : l.drop i = l.getD i 0 :: l.drop (i + 1) := by rw [List.drop_eq_getElem_cons hi]; simp [hi]
      rw [hd, cellsGo] at h3
      by_cases q1 : l.getD i 0 < 0
      · rw [if_pos (.inl q1)] at h3
        rw [h3] at hR
        simp (disch := first | omega | (simp only [lnx]; omega)) only [stdh, stdx, ↓reduceIte, seval, q1]
        exact hR
      by_cases q2 : (65535 : Int) < l.getD i 0
      · rw [if_pos (.inr q2)] at h3
        rw [h3] at hR
        simp (disch := first | omega | (simp only [lnx]; omega)) only [stdh, stdx, ↓reduceIte, seval, q1, q2]
        exact hR
      rw [if_neg (by omega)] at h3
      by_cases q3 : l.getD i 0 ≤ last
      · rw [if_pos q3] at h3
        rw [h3] at hR
        simp (disch := first | omega | (simp only [lnx]; omega)) only [stdh, stdx, ↓reduceIte, seval, q1, q2, q3]
        exact hR
      · rw [if_neg q3] at h3
        simp (disch := first | omega | (simp only [lnx]; omega)) only [stdh, stdx, ↓reduceIte, seval, q1, q2, q3]
        rw [show (i : Int) + 1 = ((i + 1 : Nat) : Int) by omega]
        exact cells_loop hb K H Q hK hR _ (i + 1) _ rfl (by omega) h3
    · simp (disch := first | omega | (simp only [lnx]; omega)) only [stdh, stdx, ↓reduceIte, seval]
      rw [List.drop_eq_nil_of_le (by omega : l.length ≤ i), cellsGo] at h3
      exact hK h3 _
  termination_by m => m

theorem cells_ok (H : AHeap) (l : List Int) (f : Fld) {t : Bool} (hb : l.length ≤ 9223372036854775807) (Q : AVal → AHeap → Prop) (h : Q (.int .i64 (cellsE l f)) H) : FunOK Try.prog F.msg_cells [ints t l, .agg (encF f)] H Q := by
  refine fun_iced msg_cells_code fun _ => ?_
  refine fun_V 60 msg_cells_code rfl ?_
  simp (disch := first | omega | (simp only [lnx]; omega)) only [stdh, stdx, ↓reduceIte, seval, msg_cells, msg_cells.body, encF]
  refine callK_fn (many_ok _ _ f _ ?_)
  refine runL_V 60 ?_
  unfold cellsE at h
  by_cases h1 : manyE l.length f = 0
  · rw [if_neg (by simpa using h1)] at h
    simp (disch := first | omega | (simp only [lnx]; omega)) only [stdh, stdx, ↓reduceIte, seval, h1]
    refine cells_loop hb _ _ _ ?_ ?_ _ 0 _ rfl (by omega) rfl
    · intro ha r
      refine run_V0 40 ?_
      rw [ha] at h
      simp (disch := first | omega | (simp only [lnx]; omega)) only [stdh, stdx, ↓reduceIte, seval]
      exact ice_none trivial h
    · exact ice_none trivial h
  · rw [if_pos (by simpa using h1)] at h
    simp (disch := first | omega | (simp only [lnx]; omega)) only [stdh, stdx, ↓reduceIte, seval, h1]
    exact ice_none trivial h

def badB (n : Nat) : Bool := decide (n < 32 ∨ 126 < n)
def textE (s : ByteArray) (f : Fld) : Int := if manyE s.size f ≠ 0 then manyE s.size f else if (bytesOf s).any badB then 19 else 0
theorem bytesOf_len (s : ByteArray) : (bytesOf s).length = s.size := by simp [bytesOf]
theorem bytesOf_lt (s : ByteArray) : ∀ x ∈ bytesOf s, x < 256 := by
  intro x hx
  obtain ⟨b, _, rfl⟩ := List.mem_map.1 hx
  exact b.toNat_lt

abbrev textC : Ctx := ⟨F.msg_text, 29, [.tmp 4], none⟩

theorem text_loop {l : List Nat} (hb : l.length ≤ 9223372036854775807) {t : Bool} (K : List AItem) (H : AHeap) (Q : AVal → AHeap → Prop) (hK : l.any badB = false → ∀ r, Run Try.prog textC K r H Q) (hR : l.any badB = true → Q (.int .i64 19) H) :
    ∀ (m i : Nat), l.length - i = m → i ≤ l.length → l.any badB = (l.drop i).any badB →
    Rounds Try.prog textC msg_text.b0 [.inBlock 0] K [(16, nums .u8 t l), (17, .int .i64 (l.length : Nat)), (18, .int .i64 (i : Nat))] H Q
  | m, i, h1, h2, h3 => by
    refine loop_V 100 msg_text.b0.eq_1 ?_
    by_cases hi : i < l.length
    · have hd : l.drop i = l.getD i 0 :: l.drop (i + 1) := by rw [List.drop_eq_getElem_cons hi]; simp [hi]
      rw [hd, List.any_cons] at h3
      by_cases q1 : ((l.getD i 0 : Nat) : Int) < 32
      · rw [show badB (l.getD i 0) = true from decide_eq_true (.inl (by omega)), Bool.true_or] at h3
        simp (disch := first | omega | (simp only [lnx]; omega)) only [stdh, stdx, ↓reduceIte, seval, q1]
        exact hR h3
      by_cases q2 : (126 : Int) < ((l.getD i 0 : Nat) : Int)
      · rw [show badB (l.getD i 0) = true from decide_eq_true (.inr (by omega)), Bool.true_or] at h3
        simp (disch := first | omega | (simp only [lnx]; omega)) only [stdh, stdx, ↓reduceIte, seval, q1, q2]
        exact hR h3
      rw [show badB (l.getD i 0) = false from decide_eq_false (by omega), Bool.false_or] at h3
      simp (disch := first | omega | (simp only [lnx]; omega)) only [stdh, stdx, ↓reduceIte, seval, q1, q2]
      rw [show (i : Int) + 1 = ((i + 1 : Nat) : Int) by omega]
      exact text_loop hb K H Q hK hR _ (i + 1) rfl (by omega) h3
    · simp (disch := first | omega | (simp only [lnx]; omega)) only [stdh, stdx, ↓reduceIte, seval]
      rw [List.drop_eq_nil_of_le (by omega : l.length ≤ i)] at h3
      exact hK h3 _
  termination_by m => m

theorem text_ok (H : AHeap) (s : ByteArray) (f : Fld) (hb : s.size ≤ 9223372036854775807) (Q : AVal → AHeap → Prop) (h : Q (.int .i64 (textE s f)) H) : FunOK Try.prog F.msg_text [.str s, .agg (encF f)] H Q := by
  refine fun_iced msg_text_code fun _ => ?_
  refine fun_V 60 msg_text_code rfl ?_
  simp (disch := first | omega | (simp only [lnx]; omega)) only [stdh, stdx, ↓reduceIte, seval, msg_text, msg_text.body, encF]
  refine callK_fn (many_ok _ _ f _ ?_)
  refine runL_V 60 ?_
  unfold textE at h
  by_cases h1 : manyE s.size f = 0
  · rw [if_neg (by simpa using h1)] at h
    simp (disch := first | omega | (simp only [lnx]; omega)) only [stdh, stdx, ↓reduceIte, seval, h1]
    refine text_loop (by rw [bytesOf_len]; exact hb) _ _ _ ?_ ?_ _ 0 rfl (by omega) rfl
    · intro ha r
      refine run_V0 40 ?_
      rw [ha] at h
      simp (disch := first | omega | (simp only [lnx]; omega)) only [stdh, stdx, ↓reduceIte, seval]
      exact ice_none trivial (by simpa using h)
    · intro ha
      rw [ha] at h
      exact ice_none trivial (by simpa using h)
  · rw [if_pos (by simpa using h1)] at h
    simp (disch := first | omega | (simp only [lnx]; omega)) only [stdh, stdx, ↓reduceIte, seval, h1]
    exact ice_none trivial h

/-- The number at a place. -/
def Mg.num (m : Mg) (j : Int) : Int := if j = 0 then m.n0 else if j = 1 then m.n1 else if j = 2 then m.n2 else if j = 3 then m.n3 else if j = 4 then m.n4 else m.n5
def Mg.put (m : Mg) (j v : Int) : Mg := if j = 0 then { m with n0 := v } else if j = 1 then { m with n1 := v } else if j = 2 then { m with n2 := v } else if j = 3 then { m with n3 := v } else if j = 4 then { m with n4 := v } else { m with n5 := v }
/-- A field's place is one, unless its sort needs none. -/
def Fld.ok (f : Fld) : Prop := f.sort = 3 ∨ f.sort = 4 ∨ f.sort = 5 ∨ f.sort = 6 ∨ f.place = 0 ∨ f.place = 1 ∨ f.place = 2 ∨ f.place = 3 ∨ f.place = 4 ∨ f.place = 5
instance (f : Fld) : Decidable f.ok := by unfold Fld.ok; infer_instance

theorem fieldsOf_ok {k : Int} : ∀ f ∈ fieldsOf k, f.ok := by
  unfold fieldsOf
  split
  · decide +kernel
  split
  · decide +kernel
  split
  · decide +kernel
  split
  · decide +kernel
  split
  · decide +kernel
  · simp

def Mg.fine (m : Mg) : Prop := m.p.length ≤ 9223372036854775807 ∧ m.c.length ≤ 9223372036854775807 ∧ m.t.size ≤ 9223372036854775807 ∧ m.g.size ≤ 9223372036854775807

def wrongE (m : Mg) (f : Fld) : Int :=
  if f.sort = 3 then pathE m.p f else if f.sort = 4 then cellsE m.c f else if f.sort = 5 then textE m.t f else if f.sort = 6 then textE m.g f
  else if m.num f.place < f.least ∨ f.most < m.num f.place then 5 else 0

def withoutM (m : Mg) (f : Fld) : Mg :=
  if f.sort = 3 then { m with p := [] } else if f.sort = 4 then { m with c := [] } else if f.sort = 5 then { m with t := ⟨#[]⟩ } else if f.sort = 6 then { m with g := ⟨#[]⟩ }
  else m.put f.place 0

theorem fun_less' {P : Program} {f : FuncId} {args : List AVal} {H : AHeap} {Q : AVal → AHeap → Prop} {fn : AFun} (hf : okFun P f fn = true) (h : closeds H.length args → FunOK P f args H (IceQ H Q)) : FunOK P f args H Q := fun_iced hf h

/-- The result is in cells of its own; some of these are told less of. -/
theorem ice_sees {H L : AHeap} {Q : AVal → AHeap → Prop} {av av' : AVal} (ha : closed H.length av) (hs : Sees av av') (hq : Q av' H) : IceQ H Q av (H ++ L) :=
  ⟨keeps_append _ _, [], av', by simp, by rw [mv_id (L := H.length) (fun n h => toF_low h) av ha]; exact hs, hq⟩

set_option maxHeartbeats 2000000 in
theorem wrong_ok (H : AHeap) (m : Mg) (f : Fld) (hf : f.ok) (hm : m.fine) (Q : AVal → AHeap → Prop) (h : Q (.int .i64 (wrongE m f)) H) : FunOK Try.prog F.msg_wrong [.agg (encM m), .agg (encF f)] H Q := by
  refine fun_iced msg_wrong_code fun _ => ?_
  refine fun_V 100 msg_wrong_code rfl ?_
  obtain ⟨hp, hc, ht, hg⟩ := hm
  unfold wrongE at h
  by_cases s3 : f.sort = 3
  · rw [if_pos s3] at h
    simp (disch := first | omega | (simp only [lnx]; omega)) only [stdh, stdx, ↓reduceIte, seval, msg_wrong, msg_wrong.body, encF, encM, s3]
    rw [← s3]
    refine callK_fn (path_ok _ _ f hp _ ?_)
    refine runL_V 60 ?_
    simp (disch := first | omega | (simp only [lnx]; omega)) only [stdh, stdx, ↓reduceIte, seval]
    exact ice_none trivial h
  rw [if_neg s3] at h
  by_cases s4 : f.sort = 4
  · rw [if_pos s4] at h
    simp (disch := first | omega | (simp only [lnx]; omega)) only [stdh, stdx, ↓reduceIte, seval, msg_wrong, msg_wrong.body, encF, encM, s4]
    rw [← s4]
    refine callK_fn (cells_ok _ _ f hc _ ?_)
    refine runL_V 60 ?_
    simp (disch := first | omega | (simp only [lnx]; omega)) only [stdh, stdx, ↓reduceIte, seval]
    exact ice_none trivial h
  rw [if_neg s4] at h
  by_cases s5 : f.sort = 5
  · rw [if_pos s5] at h
    simp (disch := first | omega | (simp only [lnx]; omega)) only [stdh, stdx, ↓reduceIte, seval, msg_wrong, msg_wrong.body, encF, encM, s5]
    rw [← s5]
    refine callK_fn (text_ok _ _ f ht _ ?_)
    refine runL_V 60 ?_
    simp (disch := first | omega | (simp only [lnx]; omega)) only [stdh, stdx, ↓reduceIte, seval]
    exact ice_none trivial h
  rw [if_neg s5] at h
  by_cases s6 : f.sort = 6
  · rw [if_pos s6] at h
    simp (disch := first | omega | (simp only [lnx]; omega)) only [stdh, stdx, ↓reduceIte, seval, msg_wrong, msg_wrong.body, encF, encM, s6]
    rw [← s6]
    refine callK_fn (text_ok _ _ f hg _ ?_)
    refine runL_V 60 ?_
    simp (disch := first | omega | (simp only [lnx]; omega)) only [stdh, stdx, ↓reduceIte, seval]
    exact ice_none trivial h
  rw [if_neg s6] at h
  have hq : ∀ x, x = m.num f.place → (x < f.least ∨ f.most < x → Q (.int .i64 5) H) ∧ (¬ (x < f.least ∨ f.most < x) → Q (.int .i64 0) H) := by
    rintro x rfl
    exact ⟨fun hh => by rw [if_pos hh] at h; exact h, fun hh => by rw [if_neg hh] at h; exact h⟩
  rcases hf with h3 | h3 | h3 | h3 | h3 | h3 | h3 | h3 | h3 | h3
  · exact absurd h3 s3
  · exact absurd h3 s4
  · exact absurd h3 s5
  · exact absurd h3 s6
  · obtain ⟨hq1, hq2⟩ := hq _ rfl
    simp only [h3, Mg.num, if_true, Int.reduceEq, if_false] at hq1 hq2
    by_cases q1 : m.n0 < f.least
    · simp (disch := first | omega | (simp only [lnx]; omega)) only [stdh, stdx, ↓reduceIte, seval, msg_wrong, msg_wrong.body, encF, encM, s3, s4, s5, s6, h3, q1]
      exact ice_none trivial (hq1 (.inl q1))
    by_cases q2 : f.most < m.n0
    · simp (disch := first | omega | (simp only [lnx]; omega)) only [stdh, stdx, ↓reduceIte, seval, msg_wrong, msg_wrong.body, encF, encM, s3, s4, s5, s6, h3, q1, q2]
      exact ice_none trivial (hq1 (.inr q2))
    · simp (disch := first | omega | (simp only [lnx]; omega)) only [stdh, stdx, ↓reduceIte, seval, msg_wrong, msg_wrong.body, encF, encM, s3, s4, s5, s6, h3, q1, q2]
      exact ice_none trivial (hq2 (by omega))
  · obtain ⟨hq1, hq2⟩ := hq _ rfl
    simp only [h3, Mg.num, if_true, Int.reduceEq, if_false] at hq1 hq2
    by_cases q1 : m.n1 < f.least
    · simp (disch := first | omega | (simp only [lnx]; omega)) only [stdh, stdx, ↓reduceIte, seval, msg_wrong, msg_wrong.body, encF, encM, s3, s4, s5, s6, h3, q1]
      exact ice_none trivial (hq1 (.inl q1))
    by_cases q2 : f.most < m.n1
    · simp (disch := first | omega | (simp only [lnx]; omega)) only [stdh, stdx, ↓reduceIte, seval, msg_wrong, msg_wrong.body, encF, encM, s3, s4, s5, s6, h3, q1, q2]
      exact ice_none trivial (hq1 (.inr q2))
    · simp (disch := first | omega | (simp only [lnx]; omega)) only [stdh, stdx, ↓reduceIte, seval, msg_wrong, msg_wrong.body, encF, encM, s3, s4, s5, s6, h3, q1, q2]
      exact ice_none trivial (hq2 (by omega))
  · obtain ⟨hq1, hq2⟩ := hq _ rfl
    simp only [h3, Mg.num, if_true, Int.reduceEq, if_false] at hq1 hq2
    by_cases q1 : m.n2 < f.least
    · simp (disch := first | omega | (simp only [lnx]; omega)) only [stdh, stdx, ↓reduceIte, seval, msg_wrong, msg_wrong.body, encF, encM, s3, s4, s5, s6, h3, q1]
      exact ice_none trivial (hq1 (.inl q1))
    by_cases q2 : f.most < m.n2
    · simp (disch := first | omega | (simp only [lnx]; omega)) only [stdh, stdx, ↓reduceIte, seval, msg_wrong, msg_wrong.body, encF, encM, s3, s4, s5, s6, h3, q1, q2]
      exact ice_none trivial (hq1 (.inr q2))
    · simp (disch := first | omega | (simp only [lnx]; omega)) only [stdh, stdx, ↓reduceIte, seval, msg_wrong, msg_wrong.body, encF, encM, s3, s4, s5, s6, h3, q1, q2]
      exact ice_none trivial (hq2 (by omega))
  · obtain ⟨hq1, hq2⟩ := hq _ rfl
    simp only [h3, Mg.num, if_true, Int.reduceEq, if_false] at hq1 hq2
    by_cases q1 : m.n3 < f.least
    · simp (disch := first | omega | (simp only [lnx]; omega)) only [stdh, stdx, ↓reduceIte, seval, msg_wrong, msg_wrong.body, encF, encM, s3, s4, s5, s6, h3, q1]
      exact ice_none trivial (hq1 (.inl q1))
    by_cases q2 : f.most < m.n3
    · simp (disch := first | omega | (simp only [lnx]; omega)) only [stdh, stdx, ↓reduceIte, seval, msg_wrong, msg_wrong.body, encF, encM, s3, s4, s5, s6, h3, q1, q2]
      exact ice_none trivial (hq1 (.inr q2))
    · simp (disch := first | omega | (simp only [lnx]; omega)) only [stdh, stdx, ↓reduceIte, seval, msg_wrong, msg_wrong.body, encF, encM, s3, s4, s5, s6, h3, q1, q2]
      exact ice_none trivial (hq2 (by omega))
  · obtain ⟨hq1, hq2⟩ := hq _ rfl
    simp only [h3, Mg.num, if_true, Int.reduceEq, if_false] at hq1 hq2
    by_cases q1 : m.n4 < f.least
    · simp (disch := first | omega | (simp only [lnx]; omega)) only [stdh, stdx, ↓reduceIte, seval, msg_wrong, msg_wrong.body, encF, encM, s3, s4, s5, s6, h3, q1]
      exact ice_none trivial (hq1 (.inl q1))
    by_cases q2 : f.most < m.n4
    · simp (disch := first | omega | (simp only [lnx]; omega)) only [stdh, stdx, ↓reduceIte, seval, msg_wrong, msg_wrong.body, encF, encM, s3, s4, s5, s6, h3, q1, q2]
      exact ice_none trivial (hq1 (.inr q2))
    · simp (disch := first | omega | (simp only [lnx]; omega)) only [stdh, stdx, ↓reduceIte, seval, msg_wrong, msg_wrong.body, encF, encM, s3, s4, s5, s6, h3, q1, q2]
      exact ice_none trivial (hq2 (by omega))
  · obtain ⟨hq1, hq2⟩ := hq _ rfl
    simp only [h3, Mg.num, if_true, Int.reduceEq, if_false] at hq1 hq2
    by_cases q1 : m.n5 < f.least
    · simp (disch := first | omega | (simp only [lnx]; omega)) only [stdh, stdx, ↓reduceIte, seval, msg_wrong, msg_wrong.body, encF, encM, s3, s4, s5, s6, h3, q1]
      exact ice_none trivial (hq1 (.inl q1))
    by_cases q2 : f.most < m.n5
    · simp (disch := first | omega | (simp only [lnx]; omega)) only [stdh, stdx, ↓reduceIte, seval, msg_wrong, msg_wrong.body, encF, encM, s3, s4, s5, s6, h3, q1, q2]
      exact ice_none trivial (hq1 (.inr q2))
    · simp (disch := first | omega | (simp only [lnx]; omega)) only [stdh, stdx, ↓reduceIte, seval, msg_wrong, msg_wrong.body, encF, encM, s3, s4, s5, s6, h3, q1, q2]
      exact ice_none trivial (hq2 (by omega))

set_option maxHeartbeats 2000000 in
theorem without_ok (H : AHeap) (m : Mg) (f : Fld) (hf : f.ok) (Q : AVal → AHeap → Prop) (h : Q (.agg (encM (withoutM m f))) H) : FunOK Try.prog F.msg_without [.agg (encM m), .agg (encF f)] H Q := by
  refine fun_iced msg_without_code fun hcl => ?_
  refine fun_V 60 msg_without_code rfl ?_
  unfold withoutM at h
  have hcm := closeds_encM (L := H.length) m
  by_cases s3 : f.sort = 3
  · rw [if_pos s3] at h
    simp (disch := first | omega | (simp only [lnx]; omega)) only [stdh, stdx, ↓reduceIte, seval, msg_without, msg_without.body, encF, encM, s3]
    refine ice_sees (av' := .agg (encM { m with p := [] })) ?_ ?_ h
    · exact ⟨trivial, trivial, trivial, trivial, trivial, trivial, trivial, trivial, closed_ints _ _, trivial, trivial, trivial⟩
    · exact Sees.agg (.cons (.refl _) (.cons (.refl _) (.cons (.refl _) (.cons (.refl _) (.cons (.refl _) (.cons (.refl _) (.cons (.refl _) (.cons (.nils _) (.refl _)))))))))
  rw [if_neg s3] at h
  by_cases s4 : f.sort = 4
  · rw [if_pos s4] at h
    simp (disch := first | omega | (simp only [lnx]; omega)) only [stdh, stdx, ↓reduceIte, seval, msg_without, msg_without.body, encF, encM, s4]
    refine ice_sees (av' := .agg (encM { m with c := [] })) ?_ ?_ h
    · exact ⟨trivial, trivial, trivial, trivial, trivial, trivial, trivial, closed_pts _ _, trivial, trivial, trivial, trivial⟩
    · exact Sees.agg (.cons (.refl _) (.cons (.refl _) (.cons (.refl _) (.cons (.refl _) (.cons (.refl _) (.cons (.refl _) (.cons (.refl _) (.cons (.refl _) (.cons (.nils _) (.refl _))))))))))
  rw [if_neg s4] at h
  by_cases s5 : f.sort = 5
  · rw [if_pos s5] at h
    simp (disch := first | omega | (simp only [lnx]; omega)) only [stdh, stdx, ↓reduceIte, seval, msg_without, msg_without.body, encF, encM, s5]
    exact ice_none (closeds_encM { m with t := ⟨#[]⟩ }) h
  rw [if_neg s5] at h
  by_cases s6 : f.sort = 6
  · rw [if_pos s6] at h
    simp (disch := first | omega | (simp only [lnx]; omega)) only [stdh, stdx, ↓reduceIte, seval, msg_without, msg_without.body, encF, encM, s6]
    exact ice_none (closeds_encM { m with g := ⟨#[]⟩ }) h
  rw [if_neg s6] at h
  rcases hf with h3 | h3 | h3 | h3 | h3 | h3 | h3 | h3 | h3 | h3
  · exact absurd h3 s3
  · exact absurd h3 s4
  · exact absurd h3 s5
  · exact absurd h3 s6
  all_goals
    simp only [h3, Mg.put, if_true, Int.reduceEq, if_false] at h
    simp (disch := first | omega | (simp only [lnx]; omega)) only [stdh, stdx, ↓reduceIte, seval, msg_without, msg_without.body, encF, encM, s3, s4, s5, s6, h3]
    exact ice_none (closeds_encM _) h
set_option linter.unusedSimpArgs false
set_option linter.unusedVariables false

def Fld.ok2 (f : Fld) : Prop := f.ok ∧ (f.place = -1 ∨ f.place = 0 ∨ f.place = 1 ∨ f.place = 2 ∨ f.place = 3 ∨ f.place = 4 ∨ f.place = 5)
instance (f : Fld) : Decidable f.ok2 := by unfold Fld.ok2; infer_instance
theorem fieldsOf_ok2 {k : Int} : ∀ f ∈ fieldsOf k, f.ok2 := by
  unfold fieldsOf
  split
  · decide +kernel
  split
  · decide +kernel
  split
  · decide +kernel
  split
  · decide +kernel
  split
  · decide +kernel
  · simp
theorem getD_mem {l : List Fld} {i : Nat} (h : i < l.length) : l.getD i fld0 ∈ l := by
  simp [h]
theorem drop_getF {l : List Fld} {i : Nat} (h : i < l.length) : l.drop i = l.getD i fld0 :: l.drop (i + 1) := by
  rw [List.drop_eq_getElem_cons h]; simp [h]
theorem fieldsOf_len (k : Int) : (fieldsOf k).length ≤ 6 := by
  unfold fieldsOf
  split
  · simp
  split
  · simp
  split
  · simp
  split
  · simp
  split <;> simp

def chkGo (m : Mg) : List Fld → Int → Mg → Int × Mg
  | [], e, left => (e, left)
  | f :: fs, e, left => if wrongE m f = 0 then chkGo m fs 0 (withoutM left f) else (wrongE m f, left)
def checkM (m : Mg) : Int :=
  if (chkGo m (fieldsOf m.k) 9 m).1 = 0 ∧ (chkGo m (fieldsOf m.k) 9 m).2 ≠ { mg0 with k := m.k } then 3 else (chkGo m (fieldsOf m.k) 9 m).1

theorem without_fits {m : Mg} (h : m.fits) (f : Fld) : (withoutM m f).fits := by
  obtain ⟨h1, h2⟩ := h
  unfold withoutM Mg.put
  repeat' split
  all_goals exact ⟨by first | exact h1 | simp, by first | exact h2 | simp⟩
theorem chkGo_fits {m : Mg} : ∀ (fs : List Fld) (e : Int) (left : Mg), left.fits → (chkGo m fs e left).2.fits
  | [], e, left, h => h
  | f :: fs, e, left, h => by
    unfold chkGo
    split
    · exact chkGo_fits fs _ _ (without_fits h f)
    · exact h

abbrev checkC : Ctx := ⟨F.msg_Check, 36, [.tmp 2], none⟩

set_option maxHeartbeats 1000000 in
theorem check_loop {m : Mg} {l : List Fld} (hlen : l.length ≤ 6) (hok : ∀ f ∈ l, f.ok) (hm : m.fine) (e0 : Int) (left0 : Mg) (K : List AItem) (Q : AVal → AHeap → Prop) {H0 : AHeap} {c : Nat} (hc : H0.length ≤ c)
    (hQ : ∀ H r, Keeps H0 H → H[c]? = some (.cells (encM m) T.msg_Msg) → H[c + 1]? = some (.cells (encM (chkGo m l e0 left0).2) T.msg_Msg) → rget r 1 = .ptr c 0 → rget r 3 = .int .i64 (chkGo m l e0 left0).1 → rget r 4 = .ptr (c + 1) 0 → Run Try.prog checkC K r H Q) :
    ∀ (n i : Nat) (H : AHeap) (e : Int) (left : Mg), l.length - i = n → i ≤ l.length → chkGo m l e0 left0 = chkGo m (l.drop i) e left → Keeps H0 H → H[c]? = some (.cells (encM m) T.msg_Msg) → H[c + 1]? = some (.cells (encM left) T.msg_Msg) →
    Rounds Try.prog checkC msg_Check.b1 [.inBlock 0] K [(1, .ptr c 0), (3, .int .i64 e), (4, .ptr (c + 1) 0), (10, recs encF false l), (11, .int .i64 l.length), (12, .int .i64 i)] H Q
  | n, i, H, e, left, h1, h2, h4, hk, hh1, hh2 => by
    refine loop_V 100 msg_Check.b1.eq_1 ?_
    have hcl : c + 1 < H.length := (List.getElem?_eq_some_iff.1 hh2).1
    by_cases hil : i < l.length
    · rw [drop_getF hil, chkGo] at h4
      have hld : ∀ H, loadA H (some 7) (.sptr (recs encF false l) (i * 7)) = some (True, .agg (encF (l.getD i fld0))) := fun H => load_recs (enc := encF) (t := false) encF_len hil
      have hfo := hok _ (getD_mem hil)
      generalize hx : l.getD i fld0 = x at *
      have e1 : H[c]? = some (ABlk.cells [.int .i64 m.k, .int .i64 m.n0, .int .i64 m.n1, .int .i64 m.n2, .int .i64 m.n3, .int .i64 m.n4, .int .i64 m.n5, recs encP false m.p, ints false m.c, .str m.t, .str m.g] T.msg_Msg) := hh1
      have e2 : H[c + 1]? = some (ABlk.cells [.int .i64 left.k, .int .i64 left.n0, .int .i64 left.n1, .int .i64 left.n2, .int .i64 left.n3, .int .i64 left.n4, .int .i64 left.n5, recs encP false left.p, ints false left.c, .str left.t, .str left.g] T.msg_Msg) := hh2
      simp (disch := first | omega | (simp only [lnx]; omega)) only [stdh, stdx, ↓reduceIte, seval, hld, encF, at_low, e1]
      refine callK_fn (wrong_ok _ m x hfo hm _ ?_)
      refine runL_V 100 ?_
      by_cases hw : wrongE m x = 0
      · rw [if_pos hw] at h4
        simp (disch := first | omega | (simp only [lnx]; omega)) only [stdh, stdx, ↓reduceIte, seval, hw, at_low, e1, e2]
        refine callK_fn (without_ok _ left x hfo _ ?_)
        refine runL_V 100 ?_
        generalize hy : withoutM left x = y at *
        simp (disch := first | omega | (simp only [lnx]; omega)) only [stdh, stdx, ↓reduceIte, seval, at_low, e2, set_low, encM]
        refine check_loop hlen hok hm e0 left0 K Q hc hQ _ (i + 1) _ _ y rfl (by omega) h4 ((hk.set (by omega) _).push _) ?_ ?_
        · rw [List.getElem?_append_left (by simp; omega), List.getElem?_set_ne (by omega)]; exact hh1
        · rw [List.getElem?_append_left (by simp; omega), List.getElem?_set_self (by omega)]; rfl
      · rw [if_neg hw] at h4
        simp (disch := first | omega | (simp only [lnx]; omega)) only [stdh, stdx, ↓reduceIte, seval, hw, at_low, e1, e2]
        rw [h4] at hQ
        exact hQ _ _ (hk.push _) (by rw [List.getElem?_append_left (by omega)]; exact hh1) (by rw [List.getElem?_append_left (by omega)]; exact hh2) rfl rfl rfl
    · rw [List.drop_eq_nil_of_le (by omega : l.length ≤ i), chkGo] at h4
      simp (disch := first | omega | (simp only [lnx]; omega)) only [stdh, stdx, ↓reduceIte, seval]
      rw [h4] at hQ
      exact hQ H _ hk hh1 hh2 rfl rfl rfl
  termination_by n => n

/-- A message with a kind, and nothing else, in cells of its own. -/
theorem sees_bare (k : Int) : SeesL [.int .i64 k, .int .i64 0, .int .i64 0, .int .i64 0, .int .i64 0, .int .i64 0, .int .i64 0, .nils, .nils, .str ⟨#[]⟩, .str ⟨#[]⟩] (encM { mg0 with k := k }) :=
  .cons (.refl _) (.cons (.refl _) (.cons (.refl _) (.cons (.refl _) (.cons (.refl _) (.cons (.refl _) (.cons (.refl _) (.cons (.nils _) (.cons (.nils _) (.refl _)))))))))

theorem check_ok (H : AHeap) (m : Mg) (hm : m.fine) (Q : AVal → AHeap → Prop) (h : Q (.int .i64 (checkM m)) H) : FunOK Try.prog F.msg_Check [.agg (encM m)] H Q := by
  refine fun_iced msg_Check_code fun _ => ?_
  refine fun_V 100 msg_Check_code rfl ?_
  simp (disch := first | omega | (simp only [lnx]; omega)) only [stdh, stdx, ↓reduceIte, seval, msg_Check, msg_Check.body, msg_Check.d0, encM]
  refine callK_fn (of_ok _ _ _ ?_)
  refine runL_V 100 ?_
  simp (disch := first | omega | (simp only [lnx]; omega)) only [stdh, stdx, ↓reduceIte, seval]
  refine check_loop (fieldsOf_len m.k) (fun f hf => fieldsOf_ok f hf) hm 9 m _ _ (H0 := H) (c := H.length) (by omega) ?_ _ 0 _ _ m rfl (by omega) rfl (keeps_append _ _) at_0 at_k
  intro H' r hk e1 e2 r1 r3 r4
  refine run_V0 100 ?_
  have hf := chkGo_fits (m := m) (fieldsOf m.k) 9 m ⟨hm.1, hm.2.1⟩
  unfold checkM at h
  generalize chkGo m (fieldsOf m.k) 9 m = R at *
  obtain ⟨e, left⟩ := R
  simp only at h e2 r3 hf
  by_cases he : e = 0
  · simp (disch := first | omega | (simp only [lnx]; omega)) only [stdh, stdx, ↓reduceIte, seval, r1, r3, r4, he, e1, e2, encM]
    refine callK_fn (fun_sees (.cons (.refl _) (.cons (.agg (sees_bare m.k)) .nil)) (same_ok _ left _ hf _ ?_))
    refine runL_V 100 ?_
    by_cases hs : left = { mg0 with k := m.k }
    · rw [if_neg (by simp [hs])] at h
      simp (disch := first | omega | (simp only [lnx]; omega)) only [stdh, stdx, ↓reduceIte, seval, hs, r3]
      exact ice_keeps hk trivial h
    · rw [if_pos ⟨he, hs⟩] at h
      simp (disch := first | omega | (simp only [lnx]; omega)) only [stdh, stdx, ↓reduceIte, seval, hs]
      exact ice_keeps hk trivial h
  · rw [if_neg (by simp [he])] at h
    simp (disch := first | omega | (simp only [lnx]; omega)) only [stdh, stdx, ↓reduceIte, seval, r1, r3, r4, he, e1, e2, encM]
    exact ice_keeps hk trivial h
set_option linter.unusedSimpArgs false
set_option linter.unusedVariables false

def projF (m : Mg) (f : Fld) : Mg := if f.place = -1 then withoutM m f else (withoutM m f).put f.place f.absent
def projGo (v : Int) : List Fld → Mg → Mg
  | [], m => m
  | f :: fs, m => projGo v fs (if v ≠ 1 ∨ f.since = 1 then m else projF m f)
def projectM (m : Mg) (v : Int) : Mg := projGo v (fieldsOf m.k) m

abbrev projC : Ctx := ⟨F.msg_Project, 38, [.cell 4 (some 11)], none⟩
def mgz : List AVal := [.int .i64 0, .int .i64 0, .int .i64 0, .int .i64 0, .int .i64 0, .int .i64 0, .int .i64 0, .nils, .nils, .str ⟨#[]⟩, .str ⟨#[]⟩]

set_option maxHeartbeats 2000000 in
theorem proj_loop {v : Int} {l : List Fld} (hlen : l.length ≤ 6) (hok : ∀ f ∈ l, f.ok2) (m0 : Mg) (K : List AItem) (Q : AVal → AHeap → Prop) {H0 : AHeap} {c : Nat} (hc : H0.length ≤ c)
    (hQ : ∀ H r, Keeps H0 H → H[c]? = some (.cells (encM (projGo v l m0)) T.msg_Msg) → H[c + 1]? = some (.cells mgz T.msg_Msg) → rget r 2 = .ptr c 0 → rget r 4 = .ptr (c + 1) 0 → Run Try.prog projC K r H Q) :
    ∀ (n i : Nat) (H : AHeap) (m : Mg), l.length - i = n → i ≤ l.length → projGo v l m0 = projGo v (l.drop i) m → Keeps H0 H → H[c]? = some (.cells (encM m) T.msg_Msg) → H[c + 1]? = some (.cells mgz T.msg_Msg) →
    Rounds Try.prog projC msg_Project.b0 [.inBlock 0] K [(1, .int .i64 v), (2, .ptr c 0), (4, .ptr (c + 1) 0), (11, recs encF false l), (12, .int .i64 l.length), (13, .int .i64 i)] H Q
  | n, i, H, m, h1, h2, h4, hk, hh1, hh2 => by
    refine loop_V 100 msg_Project.b0.eq_1 ?_
    have hcl : c + 1 < H.length := (List.getElem?_eq_some_iff.1 hh2).1
    by_cases hil : i < l.length
    · rw [drop_getF hil, projGo] at h4
      have hld : ∀ H, loadA H (some 7) (.sptr (recs encF false l) (i * 7)) = some (True, .agg (encF (l.getD i fld0))) := fun H => load_recs (enc := encF) (t := false) encF_len hil
      have hfo := hok _ (getD_mem hil)
      generalize hx : l.getD i fld0 = x at *
      have e1 : H[c]? = some (ABlk.cells [.int .i64 m.k, .int .i64 m.n0, .int .i64 m.n1, .int .i64 m.n2, .int .i64 m.n3, .int .i64 m.n4, .int .i64 m.n5, recs encP false m.p, ints false m.c, .str m.t, .str m.g] T.msg_Msg) := hh1
      by_cases hv : v = 1
      · have hd1 : decide (v = 1) = true := decide_eq_true hv
        by_cases hs : x.since = 1
        · rw [if_pos (.inr hs)] at h4
          simp (disch := first | omega | (simp only [lnx]; omega)) only [stdh, stdx, ↓reduceIte, seval, hld, encF, hs, hd1]
          exact proj_loop hlen hok m0 K Q hc hQ _ (i + 1) _ m rfl (by omega) h4 (hk.push _) (by rw [List.getElem?_append_left (by omega)]; exact hh1) (by rw [List.getElem?_append_left (by omega)]; exact hh2)
        · rw [if_neg (by omega)] at h4
          simp (disch := first | omega | (simp only [lnx]; omega)) only [stdh, stdx, ↓reduceIte, seval, hld, encF, hs, hd1, at_low, e1]
          refine callK_fn (without_ok _ m x hfo.1 _ ?_)
          refine runL_V 100 ?_
          unfold projF at h4
          generalize hy : withoutM m x = y at *
          have hgo : ∀ y' B, projGo v l m0 = projGo v (l.drop (i + 1)) y' → Rounds Try.prog projC msg_Project.b0 [.inBlock 0] K [(1, .int .i64 v), (2, .ptr c 0), (4, .ptr (c + 1) 0), (11, recs encF false l), (12, .int .i64 l.length), (13, .int .i64 (i + 1 : Nat))] (H.set c (.cells (encM y') T.msg_Msg) ++ [B]) Q := fun y' B h5 =>
            proj_loop hlen hok m0 K Q hc hQ _ (i + 1) _ y' rfl (by omega) h5 ((hk.set (by omega) _).push _) (by rw [List.getElem?_append_left (by simp; omega), List.getElem?_set_self (by omega)]) (by rw [List.getElem?_append_left (by simp; omega), List.getElem?_set_ne (by omega)]; exact hh2)
          obtain ⟨hfo1, p | p | p | p | p | p | p⟩ := hfo
          · rw [if_pos p] at h4
            simp (disch := first | omega | (simp only [lnx]; omega)) only [stdh, stdx, ↓reduceIte, seval, at_low, set_low, e1, encM, p, at_0s, encF]
            exact hgo y _ h4
          all_goals
            rw [if_neg (by omega), p] at h4
            simp (disch := first | omega | (simp only [lnx]; omega)) only [stdh, stdx, ↓reduceIte, seval, at_low, set_low, e1, encM, p, List.set_set, at_0s, encF, List.getElem?_set_self]
            exact hgo _ _ h4
      · rw [if_pos (.inl hv)] at h4
        simp (disch := first | omega | (simp only [lnx]; omega)) only [stdh, stdx, ↓reduceIte, seval, hld, encF, hv]
        exact proj_loop hlen hok m0 K Q hc hQ _ (i + 1) _ m rfl (by omega) h4 (hk.push _) (by rw [List.getElem?_append_left (by omega)]; exact hh1) (by rw [List.getElem?_append_left (by omega)]; exact hh2)
    · rw [List.drop_eq_nil_of_le (by omega : l.length ≤ i), projGo] at h4
      simp (disch := first | omega | (simp only [lnx]; omega)) only [stdh, stdx, ↓reduceIte, seval]
      rw [h4] at hQ
      exact hQ H _ hk hh1 hh2 rfl rfl
  termination_by n => n

theorem project_ok (H : AHeap) (m : Mg) (v : Int) (hm : m.small) (Q : AVal → AHeap → Prop) (h : Q (.agg (encM (projectM m v))) H) : FunOK Try.prog F.msg_Project [.agg (encM m), .int .i64 v] H Q := by
  refine fun_iced msg_Project_code fun _ => ?_
  refine fun_V 100 msg_Project_code rfl ?_
  simp (disch := first | omega | (simp only [lnx]; omega)) only [stdh, stdx, ↓reduceIte, seval, msg_Project, msg_Project.body, encM]
  refine callK_fn (copy_ok _ m hm _ ?_)
  refine runL_V 100 ?_
  simp (disch := first | omega | (simp only [lnx]; omega)) only [stdh, stdx, ↓reduceIte, seval, encM]
  refine callK_fn (of_ok _ _ _ ?_)
  refine runL_V 100 ?_
  simp (disch := first | omega | (simp only [lnx]; omega)) only [stdh, stdx, ↓reduceIte, seval]
  refine proj_loop (fieldsOf_len m.k) (fun f hf => fieldsOf_ok2 f hf) m _ _ (H0 := H) (c := H.length) (by omega) ?_ _ 0 _ m rfl (by omega) rfl (keeps_append _ _) at_0 at_k
  intro H' r hk e1 e2 r2 r4
  refine run_V0 100 ?_
  unfold projectM at h
  generalize projGo v (fieldsOf m.k) m = y at *
  have hl : H.length + 1 < H'.length := (List.getElem?_eq_some_iff.1 e2).1
  simp (disch := first | omega | (simp only [lnx]; omega)) only [stdh, stdx, ↓reduceIte, seval, r2, r4, e1, e2, encM, mgz, List.getElem?_set_self]
  exact ice_keeps (hk.set (by omega) _) (closeds_encM y) h
set_option linter.unusedSimpArgs false
set_option linter.unusedVariables false

def newM (k : Int) : Mg :=
  if k = 1 then ⟨1, 0, 1, 500, 0, 0, 0, [(0, 0)], [], ⟨#[]⟩, ⟨#[]⟩⟩
  else if k = 2 then { mg0 with k := 2 }
  else if k = 3 then ⟨3, 0, 0, 1, 0, 0, 0, [], [0], ⟨#[]⟩, ⟨#[]⟩⟩
  else if k = 4 then ⟨4, 0, 0, 0, 0, 0, 100, [], [], ⟨#[]⟩, ⟨#[]⟩⟩
  else if k = 5 then ⟨5, 0, 1, 0, 0, 1, 0, [], [], ⟨#[]⟩, ⟨#[]⟩⟩
  else mg0

theorem known17_ok (H : AHeap) (Q : AVal → AHeap → Prop) (h : Q (.bool true) H) : FunOK Try.prog F.cuneiformlaw17_known [] H Q := fun_reck codes_ok 10000 (.bool true) (by kernel_rfl) rfl rfl H Q h

theorem new_ok (H : AHeap) (k : Int) (Q : AVal → AHeap → Prop) (h : Q (.agg (encM (newM k))) H) : FunOK Try.prog F.msg_New [.int .i64 k] H Q := by
  by_cases h1 : k = 1
  · subst h1; exact fun_reckI codes_ok 10000 _ (by kernel_rfl) rfl H Q h
  by_cases h2 : k = 2
  · subst h2; exact fun_reckI codes_ok 10000 _ (by kernel_rfl) rfl H Q h
  by_cases h3 : k = 3
  · subst h3; exact fun_reckI codes_ok 10000 _ (by kernel_rfl) rfl H Q h
  by_cases h4 : k = 4
  · subst h4; exact fun_reckI codes_ok 10000 _ (by kernel_rfl) rfl H Q h
  by_cases h5 : k = 5
  · subst h5; exact fun_reckI codes_ok 10000 _ (by kernel_rfl) rfl H Q h
  have e1 : newM k = mg0 := by simp [newM, h1, h2, h3, h4, h5]
  have e2 : versionFields k 2 = [] := by simp [versionFields, fieldsOf, h1, h2, h3, h4, h5]
  rw [e1] at h
  refine fun_iced msg_New_code fun _ => ?_
  refine fun_V 60 msg_New_code rfl ?_
  simp (disch := first | omega | (simp only [lnx]; omega)) only [stdh, stdx, ↓reduceIte, seval, msg_New, msg_New.body]
  refine callK_fn (fall_ok _ _ _ _ ?_)
  refine runL_V 60 ?_
  simp (disch := first | omega | (simp only [lnx]; omega)) only [stdh, stdx, ↓reduceIte, seval]
  have hit := fun (H1 : AHeap) (n : Nat) => @fall1_iter H1 n k 2
  rw [e2] at hit
  refine range_vars (g := F.field_All_1) (first := []) (captured := [cell (.int .i64 k), cell (.int .i64 2)]) rfl (by intro n hn; cases hn) (item := fldArgs []) (len := 0) (fun j => rfl) [] (fun _ => none) vars_nil (fun _ _ _ _ hj => absurd hj (by omega)) (fun _ _ _ => hit _ _) ?_ (fun _ _ _ _ _ _ hh => by cases hh)
  intro H' hl hk _ _
  have hk0 : H'[H.length + 1]? = some (.cells mgz T.msg_Msg) := (hk _ (by (first | omega | (simp only [lnx]; omega))) (by simp)).trans (by simp (disch := first | omega | (simp only [lnx]; omega)) only [List.getElem?_append_left, List.getElem?_set_ne, List.getElem?_set_self, at_0, at_k, List.getElem?_cons_zero, List.getElem?_cons_succ, List.length_append, List.length_set, List.length_cons, List.length_nil, ne_eq, not_false_eq_true, Nat.zero_add]; rfl)
  have hk1 : H'[H.length + 2]? = some (.cells mgz T.msg_Msg) := (hk _ (by (first | omega | (simp only [lnx]; omega))) (by simp)).trans (by simp (disch := first | omega | (simp only [lnx]; omega)) only [List.getElem?_append_left, List.getElem?_set_ne, List.getElem?_set_self, at_0, at_k, List.getElem?_cons_zero, List.getElem?_cons_succ, List.length_append, List.length_set, List.length_cons, List.length_nil, ne_eq, not_false_eq_true, Nat.zero_add]; rfl)
  have hkk : Keeps H H' := ⟨by simp at hl; omega, fun n hn => (hk n (by simp; omega) (by simp)).trans (by rw [List.getElem?_append_left hn])⟩
  have hl' : H.length + 2 < H'.length := (List.getElem?_eq_some_iff.1 hk1).1
  refine run_V0 60 ?_
  simp (disch := first | omega | (simp only [lnx]; omega)) only [stdh, stdx, ↓reduceIte, seval, hk0, hk1, mgz, List.getElem?_set_self]
  refine ⟨hkk.set (by omega) _, [], .agg (encM mg0), by simp, ?_, h⟩
  rw [mv_id (L := H.length) (fun n h => toF_low h) _ (by exact ⟨trivial, trivial, trivial, trivial, trivial, trivial, trivial, trivial, trivial, trivial, trivial, trivial⟩)]
  exact Sees.agg (sees_bare 0)

theorem rnew_ok (H : AHeap) (k : Int) (Q : AVal → AHeap → Prop) (h : Q (.agg (encM (newM k))) H) : FunOK Try.prog F.cuneiformref17_New [.int .i64 k] H Q := by
  by_cases h1 : k = 1
  · subst h1; exact fun_reckI codes_ok 10000 _ (by kernel_rfl) rfl H Q h
  by_cases h2 : k = 2
  · subst h2; exact fun_reckI codes_ok 10000 _ (by kernel_rfl) rfl H Q h
  by_cases h3 : k = 3
  · subst h3; exact fun_reckI codes_ok 10000 _ (by kernel_rfl) rfl H Q h
  by_cases h4 : k = 4
  · subst h4; exact fun_reckI codes_ok 10000 _ (by kernel_rfl) rfl H Q h
  by_cases h5 : k = 5
  · subst h5; exact fun_reckI codes_ok 10000 _ (by kernel_rfl) rfl H Q h
  have e1 : newM k = mg0 := by simp [newM, h1, h2, h3, h4, h5]
  have e2 : fieldsOf k = [] := by simp [fieldsOf, h1, h2, h3, h4, h5]
  rw [e1] at h
  refine fun_iced cuneiformref17_New_code fun _ => ?_
  refine fun_V 60 cuneiformref17_New_code rfl ?_
  simp (disch := first | omega | (simp only [lnx]; omega)) only [stdh, stdx, ↓reduceIte, seval, cuneiformref17_New, cuneiformref17_New.body]
  refine callK_fn (rall16_ok _ _ _ ?_)
  refine runL_V 60 ?_
  rw [e2]
  simp (disch := first | omega | (simp only [lnx]; omega)) only [stdh, stdx, ↓reduceIte, seval]
  refine loop_V 100 cuneiformref17_New.b2.eq_1 ?_
  simp (disch := first | omega | (simp only [lnx]; omega)) only [stdh, stdx, ↓reduceIte, seval]
  refine run_V0 60 ?_
  simp (disch := first | omega | (simp only [lnx]; omega)) only [stdh, stdx, ↓reduceIte, seval]
  refine ice_sees (av' := .agg (encM mg0)) ?_ (Sees.agg (sees_bare 0)) h
  exact ⟨trivial, trivial, trivial, trivial, trivial, trivial, trivial, trivial, trivial, trivial, trivial, trivial⟩
set_option linter.unusedSimpArgs false
set_option linter.unusedVariables false

def getM (m : Mg) (name : ByteArray) : Int × Bool := match findF m.k name with
  | some f => if f.place < 0 then (0, false) else (m.num f.place, true)
  | none => (0, false)
def setM (m : Mg) (name : ByteArray) (v : Int) : Mg × Bool := match findF m.k name with
  | some f => if f.place < 0 then (m, false) else (m.put f.place v, true)
  | none => (m, false)

theorem findF_mem {k : Int} {name : ByteArray} {f : Fld} (h : findF k name = some f) : f ∈ fieldsOf k := List.mem_of_find?_eq_some h

set_option maxHeartbeats 2000000 in
theorem get_ok (H : AHeap) (m : Mg) (name : ByteArray) (Q : AVal → AHeap → Prop) (h : Q (.tup [.int .i64 (getM m name).1, .bool (getM m name).2]) H) : FunOK Try.prog F.msg_Get [.agg (encM m), .str name] H Q := by
  refine fun_iced msg_Get_code fun _ => ?_
  refine fun_V 100 msg_Get_code rfl ?_
  simp (disch := first | omega | (simp only [lnx]; omega)) only [stdh, stdx, ↓reduceIte, seval, msg_Get, msg_Get.body, encM]
  refine callK_fn (ffind_ok _ _ _ _ ?_)
  refine runL_V 100 ?_
  unfold getM at h
  cases hf : findF m.k name with
  | none =>
    rw [hf] at h
    simp (disch := first | omega | (simp only [lnx]; omega)) only [stdh, stdx, ↓reduceIte, seval, Option.getD_none, Option.isSome_none, encF, fld0]
    exact ice_none ⟨trivial, trivial, trivial⟩ h
  | some f =>
    rw [hf] at h
    obtain ⟨_, p | p | p | p | p | p | p⟩ := fieldsOf_ok2 f (findF_mem hf)
    all_goals
      simp only [p, Int.reduceNeg, Int.reduceLT, if_true, if_false, Mg.num, Int.reduceEq] at h
      simp (disch := first | omega | (simp only [lnx]; omega)) only [stdh, stdx, ↓reduceIte, seval, Option.getD_some, Option.isSome_some, encF, p]
      exact ice_none ⟨trivial, trivial, trivial⟩ h

set_option maxHeartbeats 2000000 in
theorem set_ok (H : AHeap) (m : Mg) (hm : m.small) (name : ByteArray) (v : Int) (Q : AVal → AHeap → Prop) (h : Q (.tup [.agg (encM (setM m name v).1), .bool (setM m name v).2]) H) : FunOK Try.prog F.msg_Set [.agg (encM m), .str name, .int .i64 v] H Q := by
  refine fun_iced msg_Set_code fun _ => ?_
  refine fun_V 100 msg_Set_code rfl ?_
  simp (disch := first | omega | (simp only [lnx]; omega)) only [stdh, stdx, ↓reduceIte, seval, msg_Set, msg_Set.body, encM]
  refine callK_fn (copy_ok _ m hm _ ?_)
  refine runL_V 100 ?_
  simp (disch := first | omega | (simp only [lnx]; omega)) only [stdh, stdx, ↓reduceIte, seval, encM]
  refine callK_fn (ffind_ok _ _ _ _ ?_)
  refine runL_V 100 ?_
  unfold setM at h
  cases hf : findF m.k name with
  | none =>
    rw [hf] at h
    simp (disch := first | omega | (simp only [lnx]; omega)) only [stdh, stdx, ↓reduceIte, seval, Option.getD_none, Option.isSome_none, encF, fld0]
    exact ice_none ⟨closeds_encM m, trivial, trivial⟩ h
  | some f =>
    rw [hf] at h
    obtain ⟨_, p | p | p | p | p | p | p⟩ := fieldsOf_ok2 f (findF_mem hf)
    all_goals
      simp only [p, Int.reduceNeg, Int.reduceLT, if_true, if_false, Mg.put, Int.reduceEq] at h
      simp (disch := first | omega | (simp only [lnx]; omega)) only [stdh, stdx, ↓reduceIte, seval, Option.getD_some, Option.isSome_some, encF, p]
      exact ice_none ⟨closeds_encM _, trivial, trivial⟩ h
end Go.Proofs.Ytlkadcahjifolaa
