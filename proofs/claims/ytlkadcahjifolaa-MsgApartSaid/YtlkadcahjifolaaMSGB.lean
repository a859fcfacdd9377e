/-
  Lemmas on the way to the statements of this seat. By an AI agent. No person has read it.
-/
import Derived.Test.YtlkadcahjifolaaMSGA
set_option linter.unusedSimpArgs false
set_option linter.unusedVariables false

namespace Go.Proofs.Ytlkadcahjifolaa
open Go Go.Am
set_option linter.unusedSimpArgs false
set_option linter.unusedVariables false

/-! ### The document's side -/

abbrev rintC : Ctx := ⟨F.cuneiformref01_Ints, 26, [.tmp 4], none⟩

theorem rints_loop {xs ys : List Int} (hl : xs.length = ys.length) (hb : xs.length < 9223372036854775807) {t1 t2 : Bool} (K : List AItem) (H : AHeap) (Q : AVal → AHeap → Prop) (hK : xs = ys → ∀ r, Run Try.prog rintC K r H Q) (hR : xs ≠ ys → Q (.bool false) H) :
    ∀ (m i : Nat), xs.length - i = m → i ≤ xs.length → xs.take i = ys.take i →
    Rounds Try.prog rintC cuneiformref01_Ints.b1 [.inBlock 0] K [(0, ints t1 xs), (1, ints t2 ys), (5, .int .i64 (i : Nat))] H Q
  | m, i, h1, h2, h3 => by
    refine loop_V 100 cuneiformref01_Ints.b1.eq_1 ?_
    by_cases hi : i < xs.length
    · by_cases he : xs.getD i 0 = ys.getD i 0
      · simp (disch := first | omega | (simp only [lnx]; omega)) only [stdh, stdx, ↓reduceIte, seval, cuneiformref01_Ints.d0, he]
        rw [show (i : Int) + 1 = ((i + 1 : Nat) : Int) by omega]
        exact rints_loop hl hb K H Q hK hR _ (i + 1) rfl (by omega) (take_step hi (by omega) h3 he)
      · simp (disch := first | omega | (simp only [lnx]; omega)) only [stdh, stdx, ↓reduceIte, seval, cuneiformref01_Ints.d0, he]
        exact hR (take_ne he)
    · simp (disch := first | omega | (simp only [lnx]; omega)) only [stdh, stdx, ↓reduceIte, seval]
      refine hK ?_ _
      rw [List.take_of_length_le (by omega), List.take_of_length_le (by omega)] at h3
      exact h3
  termination_by m => m

theorem rints_ok (H : AHeap) (xs ys : List Int) {t1 t2 : Bool} (hx : xs.length < 9223372036854775807) (Q : AVal → AHeap → Prop) (h : Q (.bool (decide (xs = ys))) H) : FunOK Try.prog F.cuneiformref01_Ints [ints t1 xs, ints t2 ys] H Q := by
  refine fun_V 100 cuneiformref01_Ints_code rfl ?_
  by_cases hl : xs.length = ys.length
  · have hl' : (xs.length : Int) = (ys.length : Int) := by omega
    simp (disch := first | omega | (simp only [lnx]; omega)) only [stdh, stdx, ↓reduceIte, seval, cuneiformref01_Ints, cuneiformref01_Ints.body, hl']
    refine rints_loop hl hx _ H Q ?_ ?_ _ 0 rfl (by omega) rfl
    · intro he r
      refine run_V0 40 ?_
      rw [decide_eq_true he] at h
      simp (disch := first | omega | (simp only [lnx]; omega)) only [stdh, stdx, ↓reduceIte, seval]
      exact h
    · intro he
      rw [decide_eq_false he] at h
      exact h
  · have hl' : ¬ (xs.length : Int) = (ys.length : Int) := by omega
    simp (disch := first | omega | (simp only [lnx]; omega)) only [stdh, stdx, ↓reduceIte, seval, cuneiformref01_Ints, cuneiformref01_Ints.body, hl']
    rw [decide_eq_false (fun he => hl (by rw [he]))] at h
    exact h

abbrev rsameC : Ctx := ⟨F.cuneiformref17_Same, 67, [.tmp 4], none⟩

theorem rsame_loop {a b : Mg} (hl : a.p.length = b.p.length) (hb : a.p.length < 9223372036854775807) (K : List AItem) (H : AHeap) (Q : AVal → AHeap → Prop) {c : Nat} (e1 : H[c]? = some (.cells (encM a) T.cuneiformref17_M)) (e2 : H[c + 1]? = some (.cells (encM b) T.cuneiformref17_M)) (hK : a.p = b.p → ∀ r, Run Try.prog rsameC K r H Q) (hR : a.p ≠ b.p → Q (.bool false) H) :
    ∀ (m i : Nat), a.p.length - i = m → i ≤ a.p.length → a.p.take i = b.p.take i →
    Rounds Try.prog rsameC cuneiformref17_Same.b1 [.inBlock 0] K [(2, .ptr c 0), (3, .ptr (c + 1) 0), (5, .int .i64 (i : Nat))] H Q
  | m, i, h1, h2, h3 => by
    refine loop_V 100 cuneiformref17_Same.b1.eq_1 ?_
    by_cases hi : i < a.p.length
    · have g1 : loadA H (some 2) (.sptr (recs encP false a.p) (i * 2)) = some (True, .agg (encP (a.p.getD i default))) := load_recs encP_len hi
      have g2 : loadA H (some 2) (.sptr (recs encP false b.p) (i * 2)) = some (True, .agg (encP (b.p.getD i default))) := load_recs encP_len (by omega)
      have hs := fun he => take_step (xs := a.p) (ys := b.p) hi (by omega) h3 he
      have hn := take_ne (xs := a.p) (ys := b.p) (i := i)
      generalize a.p.getD i default = x at *
      generalize b.p.getD i default = y at *
      obtain ⟨x1, x2⟩ := x
      obtain ⟨y1, y2⟩ := y
      by_cases he : x1 = y1
      · by_cases he2 : x2 = y2
        · subst he; subst he2
          simp (disch := first | omega | (simp only [lnx]; omega)) only [stdh, stdx, ↓reduceIte, seval, cuneiformref17_Same.d0, g1, g2, e1, e2, encM, encP]
          rw [show (i : Int) + 1 = ((i + 1 : Nat) : Int) by omega]
          exact rsame_loop hl hb K H Q e1 e2 hK hR _ (i + 1) rfl (by omega) (hs rfl)
        · simp (disch := first | omega | (simp only [lnx]; omega)) only [stdh, stdx, ↓reduceIte, seval, cuneiformref17_Same.d0, g1, g2, e1, e2, encM, encP, he2]
          exact hR (hn fun hh => he2 (by cases hh; rfl))
      · simp (disch := first | omega | (simp only [lnx]; omega)) only [stdh, stdx, ↓reduceIte, seval, cuneiformref17_Same.d0, g1, g2, e1, e2, encM, encP, he]
        exact hR (hn fun hh => he (by cases hh; rfl))
    · simp (disch := first | omega | (simp only [lnx]; omega)) only [stdh, stdx, ↓reduceIte, seval, e1, encM]
      refine hK ?_ _
      rw [List.take_of_length_le (by omega), List.take_of_length_le (by omega)] at h3
      exact h3
  termination_by m => m

def Mg.fit2 (m : Mg) : Prop := m.p.length < 9223372036854775807 ∧ m.c.length < 9223372036854775807
theorem Mg.small.fit2 {m : Mg} (h : m.small) : m.fit2 := ⟨by have := h.p; omega, by have := h.c; omega⟩

set_option maxHeartbeats 2000000 in
theorem rsame_ok (H : AHeap) (a b : Mg) (ha : a.fit2) (Q : AVal → AHeap → Prop) (h : Q (.bool (decide (a = b))) H) : FunOK Try.prog F.cuneiformref17_Same [.agg (encM a), .agg (encM b)] H Q := by
  refine fun_iced cuneiformref17_Same_code fun _ => ?_
  refine fun_V 60 cuneiformref17_Same_code rfl ?_
  obtain ⟨hp, hc⟩ := ha
  have hne : a ≠ b → IceQ H Q (.bool false) (H ++ [.cells (encM a) T.cuneiformref17_M, .cells (encM b) T.cuneiformref17_M]) := fun hn => ice_none trivial (by rw [decide_eq_false hn] at h; exact h)
  by_cases hk : a.k = b.k
  case neg =>
    simp (disch := first | omega | (simp only [lnx]; omega)) only [stdh, stdx, ↓reduceIte, seval, cuneiformref17_Same, cuneiformref17_Same.body, encM, hk]
    exact hne fun hh => hk (by rw [hh])
  by_cases h0 : a.n0 = b.n0
  case neg =>
    simp (disch := first | omega | (simp only [lnx]; omega)) only [stdh, stdx, ↓reduceIte, seval, cuneiformref17_Same, cuneiformref17_Same.body, encM, hk, h0]
    exact ice_none trivial (by rw [decide_eq_false (fun hh => h0 (by rw [hh]))] at h; exact h)
  by_cases h1 : a.n1 = b.n1
  case neg =>
    simp (disch := first | omega | (simp only [lnx]; omega)) only [stdh, stdx, ↓reduceIte, seval, cuneiformref17_Same, cuneiformref17_Same.body, encM, hk, h0, h1]
    exact ice_none trivial (by rw [decide_eq_false (fun hh => h1 (by rw [hh]))] at h; exact h)
  by_cases h2 : a.n2 = b.n2
  case neg =>
    simp (disch := first | omega | (simp only [lnx]; omega)) only [stdh, stdx, ↓reduceIte, seval, cuneiformref17_Same, cuneiformref17_Same.body, encM, hk, h0, h1, h2]
    exact ice_none trivial (by rw [decide_eq_false (fun hh => h2 (by rw [hh]))] at h; exact h)
  by_cases h3 : a.n3 = b.n3
  case neg =>
    simp (disch := first | omega | (simp only [lnx]; omega)) only [stdh, stdx, ↓reduceIte, seval, cuneiformref17_Same, cuneiformref17_Same.body, encM, hk, h0, h1, h2, h3]
    exact ice_none trivial (by rw [decide_eq_false (fun hh => h3 (by rw [hh]))] at h; exact h)
  by_cases h4 : a.n4 = b.n4
  case neg =>
    simp (disch := first | omega | (simp only [lnx]; omega)) only [stdh, stdx, ↓reduceIte, seval, cuneiformref17_Same, cuneiformref17_Same.body, encM, hk, h0, h1, h2, h3, h4]
    exact ice_none trivial (by rw [decide_eq_false (fun hh => h4 (by rw [hh]))] at h; exact h)
  by_cases h5 : a.n5 = b.n5
  case neg =>
    simp (disch := first | omega | (simp only [lnx]; omega)) only [stdh, stdx, ↓reduceIte, seval, cuneiformref17_Same, cuneiformref17_Same.body, encM, hk, h0, h1, h2, h3, h4, h5]
    exact ice_none trivial (by rw [decide_eq_false (fun hh => h5 (by rw [hh]))] at h; exact h)
  by_cases h6 : a.p.length = b.p.length
  case neg =>
    have h6' : ¬ (a.p.length : Int) = (b.p.length : Int) := by omega
    simp (disch := first | omega | (simp only [lnx]; omega)) only [stdh, stdx, ↓reduceIte, seval, cuneiformref17_Same, cuneiformref17_Same.body, encM, hk, h0, h1, h2, h3, h4, h5, h6']
    exact ice_none trivial (by rw [decide_eq_false (fun hh => h6 (by rw [hh]))] at h; exact h)
  have h6' : decide ((a.p.length : Int) = (b.p.length : Int)) = true := decide_eq_true (by omega)
  simp (disch := first | omega | (simp only [lnx]; omega)) only [stdh, stdx, ↓reduceIte, seval, cuneiformref17_Same, cuneiformref17_Same.body, encM, hk, h0, h1, h2, h3, h4, h5, h6']
  refine callK_fn (rints_ok _ _ _ hc _ ?_)
  refine runL_V 60 ?_
  by_cases h7 : a.c = b.c
  case neg =>
    simp (disch := first | omega | (simp only [lnx]; omega)) only [stdh, stdx, ↓reduceIte, seval, h7]
    exact ice_none trivial (by rw [decide_eq_false (fun hh => h7 (by rw [hh]))] at h; exact h)
  by_cases h8 : a.t = b.t
  case neg =>
    simp (disch := first | omega | (simp only [lnx]; omega)) only [stdh, stdx, ↓reduceIte, seval, h7, h8]
    exact ice_none trivial (by rw [decide_eq_false (fun hh => h8 (by rw [hh]))] at h; exact h)
  by_cases h9 : a.g = b.g
  case neg =>
    simp (disch := first | omega | (simp only [lnx]; omega)) only [stdh, stdx, ↓reduceIte, seval, h7, h8, h9]
    exact ice_none trivial (by rw [decide_eq_false (fun hh => h9 (by rw [hh]))] at h; exact h)
  have d7 : decide (a.c = b.c) = true := decide_eq_true h7
  have d8 : decide (a.t = b.t) = true := decide_eq_true h8
  have d9 : decide (a.g = b.g) = true := decide_eq_true h9
  simp (disch := first | omega | (simp only [lnx]; omega)) only [stdh, stdx, ↓reduceIte, seval, d7, d8, d9]
  refine rsame_loop (a := a) (b := b) (c := H.length) h6 hp _ _ _ ?_ ?_ ?_ ?_ _ 0 rfl (by omega) rfl
  · rw [at_0]; simp [encM, hk, h0, h1, h2, h3, h4, h5]
  · rw [at_k]; rfl
  · intro hpp r
    refine run_V0 40 ?_
    simp (disch := first | omega | (simp only [lnx]; omega)) only [stdh, stdx, ↓reduceIte, seval]
    refine ice_none trivial ?_
    rw [decide_eq_true (by obtain ⟨ak, a0, a1, a2, a3, a4, a5, ap, ac, at', ag⟩ := a; simp only at hk h0 h1 h2 h3 h4 h5 hpp h7 h8 h9; simp only [hk, h0, h1, h2, h3, h4, h5, hpp, h7, h8, h9])] at h
    exact h
  · intro hpp
    refine ice_none trivial ?_
    rw [decide_eq_false (fun hh => hpp (by rw [hh]))] at h
    exact h
set_option linter.unusedSimpArgs false
set_option linter.unusedVariables false

def rpathE (l : List (Int × Int)) : Int := if l.length = 0 then 13 else if 16 < l.length then 6 else if l.any farP then 5 else 0

abbrev rpathC : Ctx := ⟨F.cuneiformref17_path, 37, [.tmp 2], none⟩

set_option maxHeartbeats 1000000 in
theorem rpath_loop {l : List (Int × Int)} (hb : l.length ≤ 16) {t : Bool} (K : List AItem) (H : AHeap) (Q : AVal → AHeap → Prop) (hK : l.any farP = false → ∀ r, Run Try.prog rpathC K r H Q) (hR : l.any farP = true → Q (.int .i64 5) H) :
    ∀ (m i : Nat), l.length - i = m → i ≤ l.length → l.any farP = (l.drop i).any farP →
    Rounds Try.prog rpathC cuneiformref17_path.b1 [.inBlock 0] K [(0, recs encP t l), (3, .int .i64 (i : Nat))] H Q
  | m, i, h1, h2, h3 => by
    refine loop_V 100 cuneiformref17_path.b1.eq_1 ?_
    by_cases hi : i < l.length
    · have g0 : loadA H none (.sptr (recs encP t l) (i * 2 + 0)) = some (True, ((encP (l.getD i default)).getD 0 .junk)) := load_rec1 (o := 0) encP_len hi (by omega)
      have g1 : loadA H none (.sptr (recs encP t l) (i * 2 + 1)) = some (True, ((encP (l.getD i default)).getD 1 .junk)) := load_rec1 encP_len hi (by omega)
      have hd : l.drop i = l.getD i default :: l.drop (i + 1) := by rw [List.drop_eq_getElem_cons hi]; simp [hi]
      rw [hd, List.any_cons] at h3
      generalize l.getD i default = x at *
      obtain ⟨x1, x2⟩ := x
      have hfar : farP (x1, x2) = decide (1000000 < x1 ∨ 1000000 < x2 ∨ x1 < -1000000 ∨ x2 < -1000000) := rfl
      simp (disch := first | omega | (simp only [lnx]; omega)) only [stdh, stdx, ↓reduceIte, seval]
      refine loop_V 100 cuneiformref17_path.b0.eq_1 ?_
      by_cases q1 : x1 < -1000000
      · rw [hfar, decide_eq_true (.inr (.inr (.inl q1))), Bool.true_or] at h3
        simp (disch := first | omega | (simp only [lnx]; omega)) only [stdh, stdx, ↓reduceIte, seval, g0, encP, q1]
        exact hR h3
      by_cases q2 : (1000000 : Int) < x1
      · rw [hfar, decide_eq_true (.inl q2), Bool.true_or] at h3
        simp (disch := first | omega | (simp only [lnx]; omega)) only [stdh, stdx, ↓reduceIte, seval, g0, encP, q1, q2]
        exact hR h3
      simp (disch := first | omega | (simp only [lnx]; omega)) only [stdh, stdx, ↓reduceIte, seval, g0, encP, q1, q2, Int.reduceAdd]
      refine loop_V 100 cuneiformref17_path.b0.eq_1 ?_
      by_cases q3 : x2 < -1000000
      · rw [hfar, decide_eq_true (.inr (.inr (.inr q3))), Bool.true_or] at h3
        simp (disch := first | omega | (simp only [lnx]; omega)) only [stdh, stdx, ↓reduceIte, seval, g1, encP, q3]
        exact hR h3
      by_cases q4 : (1000000 : Int) < x2
      · rw [hfar, decide_eq_true (.inr (.inl q4)), Bool.true_or] at h3
        simp (disch := first | omega | (simp only [lnx]; omega)) only [stdh, stdx, ↓reduceIte, seval, g1, encP, q3, q4]
        exact hR h3
      simp (disch := first | omega | (simp only [lnx]; omega)) only [stdh, stdx, ↓reduceIte, seval, g1, encP, q3, q4, Int.reduceAdd]
      refine loop_V 100 cuneiformref17_path.b0.eq_1 ?_
      rw [hfar, decide_eq_false (by omega), Bool.false_or] at h3
      simp (disch := first | omega | (simp only [lnx]; omega)) only [stdh, stdx, ↓reduceIte, seval]
      refine run_VT 100 [_, _, _, _] K rfl ?_
      simp (disch := first | omega | (simp only [lnx]; omega)) only [stdh, stdx, ↓reduceIte, seval]
      rw [show (i : Int) + 1 = ((i + 1 : Nat) : Int) by omega]
      exact rpath_loop hb K H Q hK hR _ (i + 1) rfl (by omega) h3
    · simp (disch := first | omega | (simp only [lnx]; omega)) only [stdh, stdx, ↓reduceIte, seval]
      rw [List.drop_eq_nil_of_le (by omega : l.length ≤ i)] at h3
      exact hK h3 _
  termination_by m => m

theorem rpath_ok (H : AHeap) (l : List (Int × Int)) {t : Bool} (Q : AVal → AHeap → Prop) (h : Q (.int .i64 (rpathE l)) H) : FunOK Try.prog F.cuneiformref17_path [recs encP t l] H Q := by
  refine fun_V 100 cuneiformref17_path_code rfl ?_
  unfold rpathE at h
  by_cases h1 : l.length = 0
  · rw [if_pos h1] at h
    have h1' : (l.length : Int) = 0 := by omega
    simp (disch := first | omega | (simp only [lnx]; omega)) only [stdh, stdx, ↓reduceIte, seval, cuneiformref17_path, cuneiformref17_path.body, h1']
    exact h
  rw [if_neg h1] at h
  have h1' : ¬ (l.length : Int) = 0 := by omega
  by_cases h2 : 16 < l.length
  · rw [if_pos h2] at h
    have h2' : (16 : Int) < l.length := by omega
    simp (disch := first | omega | (simp only [lnx]; omega)) only [stdh, stdx, ↓reduceIte, seval, cuneiformref17_path, cuneiformref17_path.body, h1', h2']
    exact h
  rw [if_neg h2] at h
  simp (disch := first | omega | (simp only [lnx]; omega)) only [stdh, stdx, ↓reduceIte, seval, cuneiformref17_path, cuneiformref17_path.body, h1']
  refine rpath_loop (by omega) _ _ _ ?_ ?_ _ 0 rfl (by omega) rfl
  · intro ha r
    refine run_V0 40 ?_
    rw [ha] at h
    simp (disch := first | omega | (simp only [lnx]; omega)) only [stdh, stdx, ↓reduceIte, seval]
    simpa using h
  · intro ha
    rw [ha] at h
    simpa using h

def rcellsE (l : List Int) : Int := if l.length = 0 then 13 else if 32 < l.length then 6 else cellsGo (-1) l

abbrev rcellsC : Ctx := ⟨F.cuneiformref17_cells, 42, [.tmp 2], none⟩

set_option maxHeartbeats 1000000 in
theorem rcells_loop {l : List Int} (hb : l.length ≤ 32) {t : Bool} (K : List AItem) (H : AHeap) (Q : AVal → AHeap → Prop) (hK : cellsGo (-1) l = 0 → ∀ r, Run Try.prog rcellsC K r H Q) (hR : Q (.int .i64 (cellsGo (-1) l)) H) :
    ∀ (m i : Nat) (last : Int), l.length - i = m → i ≤ l.length → ((i = 0 ∧ last = -1) ∨ (0 < i ∧ last = l.getD (i - 1) 0)) → cellsGo (-1) l = cellsGo last (l.drop i) →
    Rounds Try.prog rcellsC cuneiformref17_cells.b1 [.inBlock 0] K [(0, ints t l), (3, .int .i64 (i : Nat))] H Q
  | m, i, last, h1, h2, hl, h3 => by
    refine loop_V 100 cuneiformref17_cells.b1.eq_1 ?_
    by_cases hi : i < l.length
    · have hd : l.drop i = l.getD i 0 :: l.drop (i + 1) := by rw [List.drop_eq_getElem_cons hi]; simp [hi]
      rw [hd, cellsGo] at h3
      by_cases q1 : l.getD i 0 < 0
      · rw [if_pos (.inl q1)] at h3
        rw [h3] at hR
        simp (disch := first | omega | (simp only [lnx]; omega)) only [stdh, stdx, ↓reduceIte, seval, q1]
        exact hR
      by_cases q2 : (65535 : Int) < l.getD i 0
      · rw [if_pos (.inr q2)] at h3
        rw [h3] at hR
        simp (disch := first | omega | (simp only [lnx]; omega)) only [stdh, stdx, ↓reduceIte, seval, q1, q2]
        exact hR
      rw [if_neg (by omega)] at h3
      rcases hl with ⟨h0, hl⟩ | ⟨h0, hl⟩
      · rw [if_neg (by omega)] at h3
        have h0' : ¬ (0 : Int) < (i : Int) := by omega
        simp (disch := first | omega | (simp only [lnx]; omega)) only [stdh, stdx, ↓reduceIte, seval, q1, q2, h0', cuneiformref17_cells.d0]
        rw [show (i : Int) + 1 = ((i + 1 : Nat) : Int) by omega]
        exact rcells_loop hb K H Q hK hR _ (i + 1) _ rfl (by omega) (.inr ⟨by omega, rfl⟩) h3
      · have h0' : (0 : Int) < (i : Int) := by omega
        obtain ⟨j, rfl⟩ : ∃ j, i = j + 1 := ⟨i - 1, by omega⟩
        have hj : ((j + 1 : Nat) : Int) - 1 = (j : Nat) := by omega
        simp only [Nat.add_sub_cancel] at hl
        by_cases q3 : l.getD (j + 1) 0 ≤ last
        · rw [if_pos q3] at h3
          rw [h3] at hR
          rw [hl] at q3
          simp (disch := first | omega | (simp only [lnx]; omega)) only [stdh, stdx, ↓reduceIte, seval, q1, q2, q3, h0', hj, cuneiformref17_cells.d0]
          try exact hR
        · rw [if_neg q3] at h3
          rw [hl] at q3
          simp (disch := first | omega | (simp only [lnx]; omega)) only [stdh, stdx, ↓reduceIte, seval, q1, q2, q3, h0', hj, cuneiformref17_cells.d0]
          rw [show ((j + 1 : Nat) : Int) + 1 = ((j + 1 + 1 : Nat) : Int) by omega]
          exact rcells_loop hb K H Q hK hR _ (j + 1 + 1) _ rfl (by omega) (.inr ⟨by omega, rfl⟩) h3
    · simp (disch := first | omega | (simp only [lnx]; omega)) only [stdh, stdx, ↓reduceIte, seval]
      rw [List.drop_eq_nil_of_le (by omega : l.length ≤ i), cellsGo] at h3
      exact hK h3 _
  termination_by m => m

theorem rcells_ok (H : AHeap) (l : List Int) {t : Bool} (Q : AVal → AHeap → Prop) (h : Q (.int .i64 (rcellsE l)) H) : FunOK Try.prog F.cuneiformref17_cells [ints t l] H Q := by
  refine fun_V 100 cuneiformref17_cells_code rfl ?_
  unfold rcellsE at h
  by_cases h1 : l.length = 0
  · rw [if_pos h1] at h
    have h1' : (l.length : Int) = 0 := by omega
    simp (disch := first | omega | (simp only [lnx]; omega)) only [stdh, stdx, ↓reduceIte, seval, cuneiformref17_cells, cuneiformref17_cells.body, h1']
    exact h
  rw [if_neg h1] at h
  have h1' : ¬ (l.length : Int) = 0 := by omega
  by_cases h2 : 32 < l.length
  · rw [if_pos h2] at h
    have h2' : (32 : Int) < l.length := by omega
    simp (disch := first | omega | (simp only [lnx]; omega)) only [stdh, stdx, ↓reduceIte, seval, cuneiformref17_cells, cuneiformref17_cells.body, h1', h2']
    exact h
  rw [if_neg h2] at h
  simp (disch := first | omega | (simp only [lnx]; omega)) only [stdh, stdx, ↓reduceIte, seval, cuneiformref17_cells, cuneiformref17_cells.body, h1']
  refine rcells_loop (by omega) _ _ _ ?_ h _ 0 _ rfl (by omega) (.inl ⟨rfl, rfl⟩) rfl
  intro ha r
  refine run_V0 40 ?_
  rw [ha] at h
  simp (disch := first | omega | (simp only [lnx]; omega)) only [stdh, stdx, ↓reduceIte, seval]
  exact h

theorem get_byte {s : ByteArray} {i : Nat} (hi : i < s.size) : ((s.get! i).toNat : Int) = (((bytesOf s).getD i 0 : Nat) : Int) := by
  have h1 : s.get! i = s.data[i]! := rfl
  have h2 : i < s.data.size := hi
  have h3 : i < s.data.toList.length := by simpa using hi
  rw [h1, bytesOf, List.getD_eq_getElem?_getD, List.getElem?_map, List.getElem?_eq_getElem h3]
  rw [getElem!_pos s.data i h2]
  simp

def rtextE (s : ByteArray) (most : Int) : Int := if most < (s.size : Int) then 6 else if (bytesOf s).any badB then 19 else 0

abbrev rtextC : Ctx := ⟨F.cuneiformref17_text, 26, [.tmp 4], none⟩

theorem rtext_loop {s : ByteArray} (hb : s.size < 9223372036854775807) (K : List AItem) (H : AHeap) (Q : AVal → AHeap → Prop) (hK : (bytesOf s).any badB = false → ∀ r, Run Try.prog rtextC K r H Q) (hR : (bytesOf s).any badB = true → Q (.int .i64 19) H) :
    ∀ (m i : Nat), s.size - i = m → i ≤ s.size → (bytesOf s).any badB = ((bytesOf s).drop i).any badB →
    Rounds Try.prog rtextC cuneiformref17_text.b0 [.inBlock 0] K [(0, .str s), (5, .int .i64 (i : Nat))] H Q
  | m, i, h1, h2, h3 => by
    refine loop_V 100 cuneiformref17_text.b0.eq_1 ?_
    have hlen := bytesOf_len s
    by_cases hi : i < s.size
    · have hd : (bytesOf s).drop i = (bytesOf s).getD i 0 :: (bytesOf s).drop (i + 1) := by rw [List.drop_eq_getElem_cons (by omega)]; simp [show i < (bytesOf s).length by omega]
      rw [hd, List.any_cons] at h3
      have hg := get_byte hi
      by_cases q1 : (((bytesOf s).getD i 0 : Nat) : Int) < 32
      · rw [show badB ((bytesOf s).getD i 0) = true from decide_eq_true (.inl (by omega)), Bool.true_or] at h3
        simp (disch := first | omega | (simp only [lnx]; omega)) only [stdh, stdx, ↓reduceIte, seval, hg, q1]
        exact hR h3
      by_cases q2 : (126 : Int) < (((bytesOf s).getD i 0 : Nat) : Int)
      · rw [show badB ((bytesOf s).getD i 0) = true from decide_eq_true (.inr (by omega)), Bool.true_or] at h3
        simp (disch := first | omega | (simp only [lnx]; omega)) only [stdh, stdx, ↓reduceIte, seval, hg, q1, q2]
        exact hR h3
      rw [show badB ((bytesOf s).getD i 0) = false from decide_eq_false (by omega), Bool.false_or] at h3
      simp (disch := first | omega | (simp only [lnx]; omega)) only [stdh, stdx, ↓reduceIte, seval, hg, q1, q2]
      rw [show (i : Int) + 1 = ((i + 1 : Nat) : Int) by omega]
      exact rtext_loop hb K H Q hK hR _ (i + 1) rfl (by omega) h3
    · simp (disch := first | omega | (simp only [lnx]; omega)) only [stdh, stdx, ↓reduceIte, seval]
      rw [List.drop_eq_nil_of_le (by omega)] at h3
      exact hK h3 _
  termination_by m => m

theorem rtext_ok (H : AHeap) (s : ByteArray) (most : Int) (hb : s.size < 9223372036854775807) (Q : AVal → AHeap → Prop) (h : Q (.int .i64 (rtextE s most)) H) : FunOK Try.prog F.cuneiformref17_text [.str s, .int .i64 most] H Q := by
  refine fun_V 100 cuneiformref17_text_code rfl ?_
  unfold rtextE at h
  by_cases h1 : most < (s.size : Int)
  · rw [if_pos h1] at h
    simp (disch := first | omega | (simp only [lnx]; omega)) only [stdh, stdx, ↓reduceIte, seval, cuneiformref17_text, cuneiformref17_text.body, h1]
    exact h
  rw [if_neg h1] at h
  simp (disch := first | omega | (simp only [lnx]; omega)) only [stdh, stdx, ↓reduceIte, seval, cuneiformref17_text, cuneiformref17_text.body, h1]
  refine rtext_loop hb _ _ _ ?_ ?_ _ 0 rfl (by omega) rfl
  · intro ha r
    refine run_V0 40 ?_
    rw [ha] at h
    simp (disch := first | omega | (simp only [lnx]; omega)) only [stdh, stdx, ↓reduceIte, seval]
    simpa using h
  · intro ha
    rw [ha] at h
    simpa using h
set_option linter.unusedSimpArgs false
set_option linter.unusedVariables false

/-- What has been seen: sorts, and places. -/
structure RS where
  a0 : Bool
  a1 : Bool
  a2 : Bool
  a3 : Bool
  a4 : Bool
  a5 : Bool
  a6 : Bool
  b0 : Bool
  b1 : Bool
  b2 : Bool
  b3 : Bool
  b4 : Bool
  b5 : Bool
  deriving DecidableEq
def rs0 : RS := ⟨false, false, false, false, false, false, false, false, false, false, false, false, false⟩
def RS.has (s : RS) : List AVal := [.bool s.a0, .bool s.a1, .bool s.a2, .bool s.a3, .bool s.a4, .bool s.a5, .bool s.a6]
def RS.num (s : RS) : List AVal := [.bool s.b0, .bool s.b1, .bool s.b2, .bool s.b3, .bool s.b4, .bool s.b5]
def RS.sort (s : RS) (j : Int) : RS := if j = 1 then { s with a1 := true } else if j = 2 then { s with a2 := true } else if j = 3 then { s with a3 := true } else if j = 4 then { s with a4 := true } else if j = 5 then { s with a5 := true } else if j = 6 then { s with a6 := true } else s
def RS.plc (s : RS) (j : Int) : RS := if j = 0 then { s with b0 := true } else if j = 1 then { s with b1 := true } else if j = 2 then { s with b2 := true } else if j = 3 then { s with b3 := true } else if j = 4 then { s with b4 := true } else if j = 5 then { s with b5 := true } else s
def RS.add (s : RS) (f : Fld) : RS := if f.sort = 1 ∨ f.sort = 2 then (s.sort f.sort).plc f.place else s.sort f.sort

def rwrongE (m : Mg) (f : Fld) : Int :=
  if f.sort = 3 then rpathE m.p else if f.sort = 4 then rcellsE m.c else if f.sort = 5 then rtextE m.t 64 else if f.sort = 6 then rtextE m.g 16
  else if m.num f.place < f.least ∨ f.most < m.num f.place then 5 else 0
def rgo (m : Mg) : List Fld → Int
  | [] => 0
  | f :: fs => if rwrongE m f = 0 then rgo m fs else rwrongE m f
def Fld.ok3 (f : Fld) : Prop := (f.place = -1 ∧ (f.sort = 3 ∨ f.sort = 4 ∨ f.sort = 5 ∨ f.sort = 6)) ∨ ((f.sort = 1 ∨ f.sort = 2) ∧ (f.place = 0 ∨ f.place = 1 ∨ f.place = 2 ∨ f.place = 3 ∨ f.place = 4 ∨ f.place = 5))
instance (f : Fld) : Decidable f.ok3 := by unfold Fld.ok3; infer_instance
theorem fieldsOf_ok3 {k : Int} : ∀ f ∈ fieldsOf k, f.ok3 := by
  unfold fieldsOf
  split
  · decide +kernel
  split
  · decide +kernel
  split
  · decide +kernel
  split
  · decide +kernel
  split
  · decide +kernel
  · simp

abbrev rchkC : Ctx := ⟨F.cuneiformref17_Check, 146, [.tmp 2], none⟩
def Mg.fine2 (m : Mg) : Prop := m.p.length < 9223372036854775807 ∧ m.c.length < 9223372036854775807 ∧ m.t.size < 9223372036854775807 ∧ m.g.size < 9223372036854775807

set_option maxRecDepth 10000 in
set_option maxHeartbeats 4000000 in
theorem rcheck_loop {m : Mg} (hm : m.fine2) {l : List Fld} (hlen : l.length ≤ 6) (hok : ∀ f ∈ l, f.ok3) (K : List AItem) (Q : AVal → AHeap → Prop) {H0 : AHeap} {c : Nat} (hc : H0.length ≤ c) {sz : RS}
    (hK : rgo m l = 0 → ∀ r H, Keeps H0 H → H[c]? = some (.cells (encM m) T.cuneiformref17_M) → H[c + 1]? = some (.cells sz.has T.n7_bool) → H[c + 2]? = some (.cells sz.num T.n6_bool) → rget r 1 = .ptr c 0 → rget r 4 = .ptr (c + 1) 0 → rget r 5 = .ptr (c + 2) 0 → Run Try.prog rchkC K r H (IceQ H0 Q)) (hR : rgo m l ≠ 0 → Q (.int .i64 (rgo m l)) H0) :
    ∀ (n i : Nat) (s : RS) (H : AHeap), l.length - i = n → i ≤ l.length → rgo m l = rgo m (l.drop i) → sz = (l.drop i).foldl RS.add s → Keeps H0 H → H[c]? = some (.cells (encM m) T.cuneiformref17_M) → H[c + 1]? = some (.cells s.has T.n7_bool) → H[c + 2]? = some (.cells s.num T.n6_bool) →
    Rounds Try.prog rchkC cuneiformref17_Check.b1 [.inBlock 0] K [(1, .ptr c 0), (3, recs encF false l), (4, .ptr (c + 1) 0), (5, .ptr (c + 2) 0), (6, .int .i64 (i : Nat))] H (IceQ H0 Q)
  | n, i, s, H, h1, h2, h3, hs, hk, e0, e1, e2 => by
    refine loop_V 200 cuneiformref17_Check.b1.eq_1 ?_
    have hl : c + 2 < H.length := (List.getElem?_eq_some_iff.1 e2).1
    by_cases hi : i < l.length
    case neg =>
      rw [List.drop_eq_nil_of_le (by omega : l.length ≤ i)] at h3 hs
      subst hs
      simp (disch := first | omega | (simp only [lnx]; omega)) only [stdh, stdx, ↓reduceIte, seval]
      exact hK h3 _ _ hk e0 e1 e2 rfl rfl rfl
    have hfo := hok _ (getD_mem hi)
    have hld : ∀ H o, o < 7 → loadA H none (.sptr (recs encF false l) (i * 7 + o)) = some (True, (encF (l.getD i fld0)).getD o .junk) := fun H o ho => load_rec1 (enc := encF) (t := false) encF_len hi ho
    rw [drop_getF hi, rgo] at h3
    rw [drop_getF hi, List.foldl_cons] at hs
    generalize hx : l.getD i fld0 = x at *
    have l1 : ∀ H, loadA H none (.sptr (recs encF false l) (i * 7 + 1)) = some (True, .int .i64 x.sort) := fun H => hld H 1 (by omega)
    have l2 : ∀ H, loadA H none (.sptr (recs encF false l) (i * 7 + 2)) = some (True, .int .i64 x.place) := fun H => hld H 2 (by omega)
    have l3 : ∀ H, loadA H none (.sptr (recs encF false l) (i * 7 + 3)) = some (True, .int .i64 x.least) := fun H => hld H 3 (by omega)
    have l4 : ∀ H, loadA H none (.sptr (recs encF false l) (i * 7 + 4)) = some (True, .int .i64 x.most) := fun H => hld H 4 (by omega)
    clear hld
    have hcast : (i : Int) + 1 = ((i + 1 : Nat) : Int) := by omega
    have hgo : ∀ s' H', sz = (l.drop (i + 1)).foldl RS.add s' → rgo m l = rgo m (l.drop (i + 1)) → Keeps H0 H' → H'[c]? = some (.cells (encM m) T.cuneiformref17_M) → H'[c + 1]? = some (.cells s'.has T.n7_bool) → H'[c + 2]? = some (.cells s'.num T.n6_bool) →
        Rounds Try.prog rchkC cuneiformref17_Check.b1 [.inBlock 0] K [(1, .ptr c 0), (3, recs encF false l), (4, .ptr (c + 1) 0), (5, .ptr (c + 2) 0), (6, .int .i64 (i + 1 : Nat))] H' (IceQ H0 Q) :=
      fun s' H' a1 a2 a3 a4 a5 a6 => rcheck_loop hm hlen hok K Q hc hK hR _ (i + 1) s' H' rfl (by omega) a2 a1 a3 a4 a5 a6
    obtain ⟨g0, g1, g2, g3⟩ := hm
    rcases hfo with ⟨hp, hf | hf | hf | hf⟩ | ⟨hf, hp⟩
    · have ha : s.add x = { s with a3 := true } := by simp [RS.add, RS.sort, hf]
      have hw : rwrongE m x = rpathE m.p := by simp [rwrongE, hf]
      rw [ha] at hs
      simp (disch := first | omega | (simp only [lnx]; omega)) only [stdh, stdx, ↓reduceIte, seval, l1, hf, e1, RS.has, List.getElem?_set_ne, e0, encM]
      refine callK_fn (rpath_ok _ _ _ ?_)
      refine runL_V 60 ?_
      rw [hw] at h3
      by_cases he : rpathE m.p = 0
      · rw [if_pos he] at h3
        simp (disch := first | omega | (simp only [lnx]; omega)) only [stdh, stdx, ↓reduceIte, seval, he]
        rw [hcast]
        refine hgo _ _ hs h3 (hk.set (by omega) _) ?_ ?_ ?_
        · rw [List.getElem?_set_ne (by omega)]; exact e0
        · rw [List.getElem?_set_self (by omega)]; rfl
        · rw [List.getElem?_set_ne (by omega)]; exact e2
      · rw [if_neg he] at h3
        simp (disch := first | omega | (simp only [lnx]; omega)) only [stdh, stdx, ↓reduceIte, seval, he]
        refine ice_keeps (hk.set (by omega) _) trivial ?_
        rw [h3] at hR
        exact hR he
    · have ha : s.add x = { s with a4 := true } := by simp [RS.add, RS.sort, hf]
      have hw : rwrongE m x = rcellsE m.c := by simp [rwrongE, hf]
      rw [ha] at hs
      simp (disch := first | omega | (simp only [lnx]; omega)) only [stdh, stdx, ↓reduceIte, seval, l1, hf, e1, RS.has, List.getElem?_set_ne, e0, encM]
      refine callK_fn (rcells_ok _ _ _ ?_)
      refine runL_V 60 ?_
      rw [hw] at h3
      by_cases he : rcellsE m.c = 0
      · rw [if_pos he] at h3
        simp (disch := first | omega | (simp only [lnx]; omega)) only [stdh, stdx, ↓reduceIte, seval, he]
        rw [hcast]
        refine hgo _ _ hs h3 (hk.set (by omega) _) ?_ ?_ ?_
        · rw [List.getElem?_set_ne (by omega)]; exact e0
        · rw [List.getElem?_set_self (by omega)]; rfl
        · rw [List.getElem?_set_ne (by omega)]; exact e2
      · rw [if_neg he] at h3
        simp (disch := first | omega | (simp only [lnx]; omega)) only [stdh, stdx, ↓reduceIte, seval, he]
        refine ice_keeps (hk.set (by omega) _) trivial ?_
        rw [h3] at hR
        exact hR he
    · have ha : s.add x = { s with a5 := true } := by simp [RS.add, RS.sort, hf]
      have hw : rwrongE m x = rtextE m.t 64 := by simp [rwrongE, hf]
      rw [ha] at hs
      simp (disch := first | omega | (simp only [lnx]; omega)) only [stdh, stdx, ↓reduceIte, seval, l1, hf, e1, RS.has, List.getElem?_set_ne, e0, encM]
      refine callK_fn (rtext_ok _ _ _ g2 _ ?_)
      refine runL_V 60 ?_
      rw [hw] at h3
      by_cases he : rtextE m.t 64 = 0
      · rw [if_pos he] at h3
        simp (disch := first | omega | (simp only [lnx]; omega)) only [stdh, stdx, ↓reduceIte, seval, he]
        rw [hcast]
        refine hgo _ _ hs h3 (hk.set (by omega) _) ?_ ?_ ?_
        · rw [List.getElem?_set_ne (by omega)]; exact e0
        · rw [List.getElem?_set_self (by omega)]; rfl
        · rw [List.getElem?_set_ne (by omega)]; exact e2
      · rw [if_neg he] at h3
        simp (disch := first | omega | (simp only [lnx]; omega)) only [stdh, stdx, ↓reduceIte, seval, he]
        refine ice_keeps (hk.set (by omega) _) trivial ?_
        rw [h3] at hR
        exact hR he
    · have ha : s.add x = { s with a6 := true } := by simp [RS.add, RS.sort, hf]
      have hw : rwrongE m x = rtextE m.g 16 := by simp [rwrongE, hf]
      rw [ha] at hs
      simp (disch := first | omega | (simp only [lnx]; omega)) only [stdh, stdx, ↓reduceIte, seval, l1, hf, e1, RS.has, List.getElem?_set_ne, e0, encM]
      refine callK_fn (rtext_ok _ _ _ g3 _ ?_)
      refine runL_V 60 ?_
      rw [hw] at h3
      by_cases he : rtextE m.g 16 = 0
      · rw [if_pos he] at h3
        simp (disch := first | omega | (simp only [lnx]; omega)) only [stdh, stdx, ↓reduceIte, seval, he]
        rw [hcast]
        refine hgo _ _ hs h3 (hk.set (by omega) _) ?_ ?_ ?_
        · rw [List.getElem?_set_ne (by omega)]; exact e0
        · rw [List.getElem?_set_self (by omega)]; rfl
        · rw [List.getElem?_set_ne (by omega)]; exact e2
      · rw [if_neg he] at h3
        simp (disch := first | omega | (simp only [lnx]; omega)) only [stdh, stdx, ↓reduceIte, seval, he]
        refine ice_keeps (hk.set (by omega) _) trivial ?_
        rw [h3] at hR
        exact hR he
    · have hq : ∀ y, y = m.num x.place → (y < x.least ∨ x.most < y → rwrongE m x = 5) ∧ (¬ (y < x.least ∨ x.most < y) → rwrongE m x = 0) := by
        rintro y rfl
        have h34 : ¬ x.sort = 3 ∧ ¬ x.sort = 4 ∧ ¬ x.sort = 5 ∧ ¬ x.sort = 6 := by omega
        refine ⟨fun hh => ?_, fun hh => ?_⟩
        · rw [rwrongE, if_neg h34.1, if_neg h34.2.1, if_neg h34.2.2.1, if_neg h34.2.2.2, if_pos hh]
        · rw [rwrongE, if_neg h34.1, if_neg h34.2.1, if_neg h34.2.2.1, if_neg h34.2.2.2, if_neg hh]
      rcases hf with hf | hf
      · rcases hp with hp | hp | hp | hp | hp | hp
        · have ha : s.add x = { s with a1 := true, b0 := true } := by simp [RS.add, RS.sort, RS.plc, hf, hp]
          rw [ha] at hs
          have hq := hq m.n0 (by rw [hp]; rfl)
          have hfin : ∀ s' H', s' = { s with a1 := true, b0 := true } → H' = (H.set (c + 1) (.cells { s with a1 := true, b0 := true }.has T.n7_bool)).set (c + 2) (.cells { s with a1 := true, b0 := true }.num T.n6_bool) → H'[c]? = some (.cells (encM m) T.cuneiformref17_M) ∧ H'[c + 1]? = some (.cells s'.has T.n7_bool) ∧ H'[c + 2]? = some (.cells s'.num T.n6_bool) ∧ Keeps H0 H' := by
            rintro s' H' rfl rfl
            refine ⟨?_, ?_, ?_, (hk.set (by omega) _).set (by omega) _⟩
            · rw [List.getElem?_set_ne (by omega), List.getElem?_set_ne (by omega)]; exact e0
            · rw [List.getElem?_set_ne (by omega), List.getElem?_set_self (by omega)]
            · rw [List.getElem?_set_self (by simp; omega)]
          obtain ⟨f0, f1, f2, f3⟩ := hfin _ _ rfl rfl
          by_cases q1 : m.n0 < x.least
          · have hw := hq.1 (.inl q1)
            rw [hw, if_neg (by decide)] at h3
            rw [h3] at hR
            simp (disch := first | omega | (simp only [lnx]; omega)) only [stdh, stdx, ↓reduceIte, seval, l1, l2, l3, l4, hf, hp, e0, e1, e2, RS.has, RS.num, List.getElem?_set_ne, encM, cuneiformref17_Check.d0, q1]
            exact ice_keeps f3 trivial (hR (by decide))
          by_cases q2 : x.most < m.n0
          · have hw := hq.1 (.inr q2)
            rw [hw, if_neg (by decide)] at h3
            rw [h3] at hR
            simp (disch := first | omega | (simp only [lnx]; omega)) only [stdh, stdx, ↓reduceIte, seval, l1, l2, l3, l4, hf, hp, e0, e1, e2, RS.has, RS.num, List.getElem?_set_ne, encM, cuneiformref17_Check.d0, q1, q2]
            exact ice_keeps f3 trivial (hR (by decide))
          · have hw := hq.2 (by omega)
            rw [hw, if_pos rfl] at h3
            simp (disch := first | omega | (simp only [lnx]; omega)) only [stdh, stdx, ↓reduceIte, seval, l1, l2, l3, l4, hf, hp, e0, e1, e2, RS.has, RS.num, List.getElem?_set_ne, encM, cuneiformref17_Check.d0, q1, q2]
            rw [hcast]
            exact hgo _ _ hs h3 f3 f0 f1 f2
        · have ha : s.add x = { s with a1 := true, b1 := true } := by simp [RS.add, RS.sort, RS.plc, hf, hp]
          rw [ha] at hs
          have hq := hq m.n1 (by rw [hp]; rfl)
          have hfin : ∀ s' H', s' = { s with a1 := true, b1 := true } → H' = (H.set (c + 1) (.cells { s with a1 := true, b1 := true }.has T.n7_bool)).set (c + 2) (.cells { s with a1 := true, b1 := true }.num T.n6_bool) → H'[c]? = some (.cells (encM m) T.cuneiformref17_M) ∧ H'[c + 1]? = some (.cells s'.has T.n7_bool) ∧ H'[c + 2]? = some (.cells s'.num T.n6_bool) ∧ Keeps H0 H' := by
            rintro s' H' rfl rfl
            refine ⟨?_, ?_, ?_, (hk.set (by omega) _).set (by omega) _⟩
            · rw [List.getElem?_set_ne (by omega), List.getElem?_set_ne (by omega)]; exact e0
            · rw [List.getElem?_set_ne (by omega), List.getElem?_set_self (by omega)]
            · rw [List.getElem?_set_self (by simp; omega)]
          obtain ⟨f0, f1, f2, f3⟩ := hfin _ _ rfl rfl
          by_cases q1 : m.n1 < x.least
          · have hw := hq.1 (.inl q1)
            rw [hw, if_neg (by decide)] at h3
            rw [h3] at hR
            simp (disch := first | omega | (simp only [lnx]; omega)) only [stdh, stdx, ↓reduceIte, seval, l1, l2, l3, l4, hf, hp, e0, e1, e2, RS.has, RS.num, List.getElem?_set_ne, encM, cuneiformref17_Check.d0, q1]
            exact ice_keeps f3 trivial (hR (by decide))
          by_cases q2 : x.most < m.n1
          · have hw := hq.1 (.inr q2)
            rw [hw, if_neg (by decide)] at h3
            rw [h3] at hR
            simp (disch := first | omega | (simp only [lnx]; omega)) only [stdh, stdx, ↓reduceIte, seval, l1, l2, l3, l4, hf, hp, e0, e1, e2, RS.has, RS.num, List.getElem?_set_ne, encM, cuneiformref17_Check.d0, q1, q2]
            exact ice_keeps f3 trivial (hR (by decide))
          · have hw := hq.2 (by omega)
            rw [hw, if_pos rfl] at h3
            simp (disch := first | omega | (simp only [lnx]; omega)) only [stdh, stdx, ↓reduceIte, seval, l1, l2, l3, l4, hf, hp, e0, e1, e2, RS.has, RS.num, List.getElem?_set_ne, encM, cuneiformref17_Check.d0, q1, q2]
            rw [hcast]
            exact hgo _ _ hs h3 f3 f0 f1 f2
        · have ha : s.add x = { s with a1 := true, b2 := true } := by simp [RS.add, RS.sort, RS.plc, hf, hp]
          rw [ha] at hs
          have hq := hq m.n2 (by rw [hp]; rfl)
          have hfin : ∀ s' H', s' = { s with a1 := true, b2 := true } → H' = (H.set (c + 1) (.cells { s with a1 := true, b2 := true }.has T.n7_bool)).set (c + 2) (.cells { s with a1 := true, b2 := true }.num T.n6_bool) → H'[c]? = some (.cells (encM m) T.cuneiformref17_M) ∧ H'[c + 1]? = some (.cells s'.has T.n7_bool) ∧ H'[c + 2]? = some (.cells s'.num T.n6_bool) ∧ Keeps H0 H' := by
            rintro s' H' rfl rfl
            refine ⟨?_, ?_, ?_, (hk.set (by omega) _).set (by omega) _⟩
            · rw [List.getElem?_set_ne (by omega), List.getElem?_set_ne (by omega)]; exact e0
            · rw [List.getElem?_set_ne (by omega), List.getElem?_set_self (by omega)]
            · rw [List.getElem?_set_self (by simp; omega)]
          obtain ⟨f0, f1, f2, f3⟩ := hfin _ _ rfl rfl
          by_cases q1 : m.n2 < x.least
          · have hw := hq.1 (.inl q1)
            rw [hw, if_neg (by decide)] at h3
            rw [h3] at hR
            simp (disch := first | omega | (simp only [lnx]; omega)) only [stdh, stdx, ↓reduceIte, seval, l1, l2, l3, l4, hf, hp, e0, e1, e2, RS.has, RS.num, List.getElem?_set_ne, encM, cuneiformref17_Check.d0, q1]
            exact ice_keeps f3 trivial (hR (by decide))
          by_cases q2 : x.most < m.n2
          · have hw := hq.1 (.inr q2)
            rw [hw, if_neg (by decide)] at h3
            rw [h3] at hR
            simp (disch := first | omega | (simp only [lnx]; omega)) only [stdh, stdx, ↓reduceIte, seval, l1, l2, l3, l4, hf, hp, e0, e1, e2, RS.has, RS.num, List.getElem?_set_ne, encM, cuneiformref17_Check.d0, q1, q2]
            exact ice_keeps f3 trivial (hR (by decide))
          · have hw := hq.2 (by omega)
            rw [hw, if_pos rfl] at h3
            simp (disch := first | omega | (simp only [lnx]; omega)) only [stdh, stdx, ↓reduceIte, seval, l1, l2, l3, l4, hf, hp, e0, e1, e2, RS.has, RS.num, List.getElem?_set_ne, encM, cuneiformref17_Check.d0, q1, q2]
            rw [hcast]
            exact hgo _ _ hs h3 f3 f0 f1 f2
        · have ha : s.add x = { s with a1 := true, b3 := true } := by simp [RS.add, RS.sort, RS.plc, hf, hp]
          rw [ha] at hs
          have hq := hq m.n3 (by rw [hp]; rfl)
          have hfin : ∀ s' H', s' = { s with a1 := true, b3 := true } → H' = (H.set (c + 1) (.cells { s with a1 := true, b3 := true }.has T.n7_bool)).set (c + 2) (.cells { s with a1 := true, b3 := true }.num T.n6_bool) → H'[c]? = some (.cells (encM m) T.cuneiformref17_M) ∧ H'[c + 1]? = some (.cells s'.has T.n7_bool) ∧ H'[c + 2]? = some (.cells s'.num T.n6_bool) ∧ Keeps H0 H' := by
            rintro s' H' rfl rfl
            refine ⟨?_, ?_, ?_, (hk.set (by omega) _).set (by omega) _⟩
            · rw [List.getElem?_set_ne (by omega), List.getElem?_set_ne (by omega)]; exact e0
            · rw [List.getElem?_set_ne (by omega), List.getElem?_set_self (by omega)]
            · rw [List.getElem?_set_self (by simp; omega)]
          obtain ⟨f0, f1, f2, f3⟩ := hfin _ _ rfl rfl
          by_cases q1 : m.n3 < x.least
          · have hw := hq.1 (.inl q1)
            rw [hw, if_neg (by decide)] at h3
            rw [h3] at hR
            simp (disch := first | omega | (simp only [lnx]; omega)) only [stdh, stdx, ↓reduceIte, seval, l1, l2, l3, l4, hf, hp, e0, e1, e2, RS.has, RS.num, List.getElem?_set_ne, encM, cuneiformref17_Check.d0, q1]
            exact ice_keeps f3 trivial (hR (by decide))
          by_cases q2 : x.most < m.n3
          · have hw := hq.1 (.inr q2)
            rw [hw, if_neg (by decide)] at h3
            rw [h3] at hR
            simp (disch := first | omega | (simp only [lnx]; omega)) only [stdh, stdx, ↓reduceIte, seval, l1, l2, l3, l4, hf, hp, e0, e1, e2, RS.has, RS.num, List.getElem?_set_ne, encM, cuneiformref17_Check.d0, q1, q2]
            exact ice_keeps f3 trivial (hR (by decide))
          · have hw := hq.2 (by omega)
            rw [hw, if_pos rfl] at h3
            simp (disch := first | omega | (simp only [lnx]; omega)) only [stdh, stdx, ↓reduceIte, seval, l1, l2, l3, l4, hf, hp, e0, e1, e2, RS.has, RS.num, List.getElem?_set_ne, encM, cuneiformref17_Check.d0, q1, q2]
            rw [hcast]
            exact hgo _ _ hs h3 f3 f0 f1 f2
        · have ha : s.add x = { s with a1 := true, b4 := true } := by simp [RS.add, RS.sort, RS.plc, hf, hp]
          rw [ha] at hs
          have hq := hq m.n4 (by rw [hp]; rfl)
          have hfin : ∀ s' H', s' = { s with a1 := true, b4 := true } → H' = (H.set (c + 1) (.cells { s with a1 := true, b4 := true }.has T.n7_bool)).set (c + 2) (.cells { s with a1 := true, b4 := true }.num T.n6_bool) → H'[c]? = some (.cells (encM m) T.cuneiformref17_M) ∧ H'[c + 1]? = some (.cells s'.has T.n7_bool) ∧ H'[c + 2]? = some (.cells s'.num T.n6_bool) ∧ Keeps H0 H' := by
            rintro s' H' rfl rfl
            refine ⟨?_, ?_, ?_, (hk.set (by omega) _).set (by omega) _⟩
            · rw [List.getElem?_set_ne (by omega), List.getElem?_set_ne (by omega)]; exact e0
            · rw [List.getElem?_set_ne (by omega), List.getElem?_set_self (by omega)]
            · rw [List.getElem?_set_self (by simp; omega)]
          obtain ⟨f0, f1, f2, f3⟩ := hfin _ _ rfl rfl
          by_cases q1 : m.n4 < x.least
          · have hw := hq.1 (.inl q1)
            rw [hw, if_neg (by decide)] at h3
            rw [h3] at hR
            simp (disch := first | omega | (simp only [lnx]; omega)) only [stdh, stdx, ↓reduceIte, seval, l1, l2, l3, l4, hf, hp, e0, e1, e2, RS.has, RS.num, List.getElem?_set_ne, encM, cuneiformref17_Check.d0, q1]
            exact ice_keeps f3 trivial (hR (by decide))
          by_cases q2 : x.most < m.n4
          · have hw := hq.1 (.inr q2)
            rw [hw, if_neg (by decide)] at h3
            rw [h3] at hR
            simp (disch := first | omega | (simp only [lnx]; omega)) only [stdh, stdx, ↓reduceIte, seval, l1, l2, l3, l4, hf, hp, e0, e1, e2, RS.has, RS.num, List.getElem?_set_ne, encM, cuneiformref17_Check.d0, q1, q2]
            exact ice_keeps f3 trivial (hR (by decide))
          · have hw := hq.2 (by omega)
            rw [hw, if_pos rfl] at h3
            simp (disch := first | omega | (simp only [lnx]; omega)) only [stdh, stdx, ↓reduceIte, seval, l1, l2, l3, l4, hf, hp, e0, e1, e2, RS.has, RS.num, List.getElem?_set_ne, encM, cuneiformref17_Check.d0, q1, q2]
            rw [hcast]
            exact hgo _ _ hs h3 f3 f0 f1 f2
        · have ha : s.add x = { s with a1 := true, b5 := true } := by simp [RS.add, RS.sort, RS.plc, hf, hp]
          rw [ha] at hs
          have hq := hq m.n5 (by rw [hp]; rfl)
          have hfin : ∀ s' H', s' = { s with a1 := true, b5 := true } → H' = (H.set (c + 1) (.cells { s with a1 := true, b5 := true }.has T.n7_bool)).set (c + 2) (.cells { s with a1 := true, b5 := true }.num T.n6_bool) → H'[c]? = some (.cells (encM m) T.cuneiformref17_M) ∧ H'[c + 1]? = some (.cells s'.has T.n7_bool) ∧ H'[c + 2]? = some (.cells s'.num T.n6_bool) ∧ Keeps H0 H' := by
            rintro s' H' rfl rfl
            refine ⟨?_, ?_, ?_, (hk.set (by omega) _).set (by omega) _⟩
            · rw [List.getElem?_set_ne (by omega), List.getElem?_set_ne (by omega)]; exact e0
            · rw [List.getElem?_set_ne (by omega), List.getElem?_set_self (by omega)]
            · rw [List.getElem?_set_self (by simp; omega)]
          obtain ⟨f0, f1, f2, f3⟩ := hfin _ _ rfl rfl
          by_cases q1 : m.n5 < x.least
          · have hw := hq.1 (.inl q1)
            rw [hw, if_neg (by decide)] at h3
            rw [h3] at hR
            simp (disch := first | omega | (simp only [lnx]; omega)) only [stdh, stdx, ↓reduceIte, seval, l1, l2, l3, l4, hf, hp, e0, e1, e2, RS.has, RS.num, List.getElem?_set_ne, encM, cuneiformref17_Check.d0, q1]
            exact ice_keeps f3 trivial (hR (by decide))
          by_cases q2 : x.most < m.n5
          · have hw := hq.1 (.inr q2)
            rw [hw, if_neg (by decide)] at h3
            rw [h3] at hR
            simp (disch := first | omega | (simp only [lnx]; omega)) only [stdh, stdx, ↓reduceIte, seval, l1, l2, l3, l4, hf, hp, e0, e1, e2, RS.has, RS.num, List.getElem?_set_ne, encM, cuneiformref17_Check.d0, q1, q2]
            exact ice_keeps f3 trivial (hR (by decide))
          · have hw := hq.2 (by omega)
            rw [hw, if_pos rfl] at h3
            simp (disch := first | omega | (simp only [lnx]; omega)) only [stdh, stdx, ↓reduceIte, seval, l1, l2, l3, l4, hf, hp, e0, e1, e2, RS.has, RS.num, List.getElem?_set_ne, encM, cuneiformref17_Check.d0, q1, q2]
            rw [hcast]
            exact hgo _ _ hs h3 f3 f0 f1 f2
      · rcases hp with hp | hp | hp | hp | hp | hp
        · have ha : s.add x = { s with a2 := true, b0 := true } := by simp [RS.add, RS.sort, RS.plc, hf, hp]
          rw [ha] at hs
          have hq := hq m.n0 (by rw [hp]; rfl)
          have hfin : ∀ s' H', s' = { s with a2 := true, b0 := true } → H' = (H.set (c + 1) (.cells { s with a2 := true, b0 := true }.has T.n7_bool)).set (c + 2) (.cells { s with a2 := true, b0 := true }.num T.n6_bool) → H'[c]? = some (.cells (encM m) T.cuneiformref17_M) ∧ H'[c + 1]? = some (.cells s'.has T.n7_bool) ∧ H'[c + 2]? = some (.cells s'.num T.n6_bool) ∧ Keeps H0 H' := by
            rintro s' H' rfl rfl
            refine ⟨?_, ?_, ?_, (hk.set (by omega) _).set (by omega) _⟩
            · rw [List.getElem?_set_ne (by omega), List.getElem?_set_ne (by omega)]; exact e0
            · rw [List.getElem?_set_ne (by omega), List.getElem?_set_self (by omega)]
            · rw [List.getElem?_set_self (by simp; omega)]
          obtain ⟨f0, f1, f2, f3⟩ := hfin _ _ rfl rfl
          by_cases q1 : m.n0 < x.least
          · have hw := hq.1 (.inl q1)
            rw [hw, if_neg (by decide)] at h3
            rw [h3] at hR
            simp (disch := first | omega | (simp only [lnx]; omega)) only [stdh, stdx, ↓reduceIte, seval, l1, l2, l3, l4, hf, hp, e0, e1, e2, RS.has, RS.num, List.getElem?_set_ne, encM, cuneiformref17_Check.d0, q1]
            exact ice_keeps f3 trivial (hR (by decide))
          by_cases q2 : x.most < m.n0
          · have hw := hq.1 (.inr q2)
            rw [hw, if_neg (by decide)] at h3
            rw [h3] at hR
            simp (disch := first | omega | (simp only [lnx]; omega)) only [stdh, stdx, ↓reduceIte, seval, l1, l2, l3, l4, hf, hp, e0, e1, e2, RS.has, RS.num, List.getElem?_set_ne, encM, cuneiformref17_Check.d0, q1, q2]
            exact ice_keeps f3 trivial (hR (by decide))
          · have hw := hq.2 (by omega)
            rw [hw, if_pos rfl] at h3
            simp (disch := first | omega | (simp only [lnx]; omega)) only [stdh, stdx, ↓reduceIte, seval, l1, l2, l3, l4, hf, hp, e0, e1, e2, RS.has, RS.num, List.getElem?_set_ne, encM, cuneiformref17_Check.d0, q1, q2]
            rw [hcast]
            exact hgo _ _ hs h3 f3 f0 f1 f2
        · have ha : s.add x = { s with a2 := true, b1 := true } := by simp [RS.add, RS.sort, RS.plc, hf, hp]
          rw [ha] at hs
          have hq := hq m.n1 (by rw [hp]; rfl)
          have hfin : ∀ s' H', s' = { s with a2 := true, b1 := true } → H' = (H.set (c + 1) (.cells { s with a2 := true, b1 := true }.has T.n7_bool)).set (c + 2) (.cells { s with a2 := true, b1 := true }.num T.n6_bool) → H'[c]? = some (.cells (encM m) T.cuneiformref17_M) ∧ H'[c + 1]? = some (.cells s'.has T.n7_bool) ∧ H'[c + 2]? = some (.cells s'.num T.n6_bool) ∧ Keeps H0 H' := by
            rintro s' H' rfl rfl
            refine ⟨?_, ?_, ?_, (hk.set (by omega) _).set (by omega) _⟩
            · rw [List.getElem?_set_ne (by omega), List.getElem?_set_ne (by omega)]; exact e0
            · rw [List.getElem?_set_ne (by omega), List.getElem?_set_self (by omega)]
            · rw [List.getElem?_set_self (by simp; omega)]
          obtain ⟨f0, f1, f2, f3⟩ := hfin _ _ rfl rfl
          by_cases q1 : m.n1 < x.least
          · have hw := hq.1 (.inl q1)
            rw [hw, if_neg (by decide)] at h3
            rw [h3] at hR
            simp (disch := first | omega | (simp only [lnx]; omega)) only [stdh, stdx, ↓reduceIte, seval, l1, l2, l3, l4, hf, hp, e0, e1, e2, RS.has, RS.num, List.getElem?_set_ne, encM, cuneiformref17_Check.d0, q1]
            exact ice_keeps f3 trivial (hR (by decide))
          by_cases q2 : x.most < m.n1
          · have hw := hq.1 (.inr q2)
            rw [hw, if_neg (by decide)] at h3
            rw [h3] at hR
            simp (disch := first | omega | (simp only [lnx]; omega)) only [stdh, stdx, ↓reduceIte, seval, l1, l2, l3, l4, hf, hp, e0, e1, e2, RS.has, RS.num, List.getElem?_set_ne, encM, cuneiformref17_Check.d0, q1, q2]
            exact ice_keeps f3 trivial (hR (by decide))
          · have hw := hq.2 (by omega)
            rw [hw, if_pos rfl] at h3
            simp (disch := first | omega | (simp only [lnx]; omega)) only [stdh, stdx, ↓reduceIte, seval, l1, l2, l3, l4, hf, hp, e0, e1, e2, RS.has, RS.num, List.getElem?_set_ne, encM, cuneiformref17_Check.d0, q1, q2]
            rw [hcast]
            exact hgo _ _ hs h3 f3 f0 f1 f2
        · have ha : s.add x = { s with a2 := true, b2 := true } := by simp [RS.add, RS.sort, RS.plc, hf, hp]
          rw [ha] at hs
          have hq := hq m.n2 (by rw [hp]; rfl)
          have hfin : ∀ s' H', s' = { s with a2 := true, b2 := true } → H' = (H.set (c + 1) (.cells { s with a2 := true, b2 := true }.has T.n7_bool)).set (c + 2) (.cells { s with a2 := true, b2 := true }.num T.n6_bool) → H'[c]? = some (.cells (encM m) T.cuneiformref17_M) ∧ H'[c + 1]? = some (.cells s'.has T.n7_bool) ∧ H'[c + 2]? = some (.cells s'.num T.n6_bool) ∧ Keeps H0 H' := by
            rintro s' H' rfl rfl
            refine ⟨?_, ?_, ?_, (hk.set (by omega) _).set (by omega) _⟩
            · rw [List.getElem?_set_ne (by omega), List.getElem?_set_ne (by omega)]; exact e0
            · rw [List.getElem?_set_ne (by omega), List.getElem?_set_self (by omega)]
            · rw [List.getElem?_set_self (by simp; omega)]
          obtain ⟨f0, f1, f2, f3⟩ := hfin _ _ rfl rfl
          by_cases q1 : m.n2 < x.least
          · have hw := hq.1 (.inl q1)
            rw [hw, if_neg (by decide)] at h3
            rw [h3] at hR
            simp (disch := first | omega | (simp only [lnx]; omega)) only [stdh, stdx, ↓reduceIte, seval, l1, l2, l3, l4, hf, hp, e0, e1, e2, RS.has, RS.num, List.getElem?_set_ne, encM, cuneiformref17_Check.d0, q1]
            exact ice_keeps f3 trivial (hR (by decide))
          by_cases q2 : x.most < m.n2
          · have hw := hq.1 (.inr q2)
            rw [hw, if_neg (by decide)] at h3
            rw [h3] at hR
            simp (disch := first | omega | (simp only [lnx]; omega)) only [stdh, stdx, ↓reduceIte, seval, l1, l2, l3, l4, hf, hp, e0, e1, e2, RS.has, RS.num, List.getElem?_set_ne, encM, cuneiformref17_Check.d0, q1, q2]
            exact ice_keeps f3 trivial (hR (by decide))
          · have hw := hq.2 (by omega)
            rw [hw, if_pos rfl] at h3
            simp (disch := first | omega | (simp only [lnx]; omega)) only [stdh, stdx, ↓reduceIte, seval, l1, l2, l3, l4, hf, hp, e0, e1, e2, RS.has, RS.num, List.getElem?_set_ne, encM, cuneiformref17_Check.d0, q1, q2]
            rw [hcast]
            exact hgo _ _ hs h3 f3 f0 f1 f2
        · have ha : s.add x = { s with a2 := true, b3 := true } := by simp [RS.add, RS.sort, RS.plc, hf, hp]
          rw [ha] at hs
          have hq := hq m.n3 (by rw [hp]; rfl)
          have hfin : ∀ s' H', s' = { s with a2 := true, b3 := true } → H' = (H.set (c + 1) (.cells { s with a2 := true, b3 := true }.has T.n7_bool)).set (c + 2) (.cells { s with a2 := true, b3 := true }.num T.n6_bool) → H'[c]? = some (.cells (encM m) T.cuneiformref17_M) ∧ H'[c + 1]? = some (.cells s'.has T.n7_bool) ∧ H'[c + 2]? = some (.cells s'.num T.n6_bool) ∧ Keeps H0 H' := by
            rintro s' H' rfl rfl
            refine ⟨?_, ?_, ?_, (hk.set (by omega) _).set (by omega) _⟩
            · rw [List.getElem?_set_ne (by omega), List.getElem?_set_ne (by omega)]; exact e0
            · rw [List.getElem?_set_ne (by omega), List.getElem?_set_self (by omega)]
            · rw [List.getElem?_set_self (by simp; omega)]
          obtain ⟨f0, f1, f2, f3⟩ := hfin _ _ rfl rfl
          by_cases q1 : m.n3 < x.least
          · have hw := hq.1 (.inl q1)
            rw [hw, if_neg (by decide)] at h3
            rw [h3] at hR
            simp (disch := first | omega | (simp only [lnx]; omega)) only [stdh, stdx, ↓reduceIte, seval, l1, l2, l3, l4, hf, hp, e0, e1, e2, RS.has, RS.num, List.getElem?_set_ne, encM, cuneiformref17_Check.d0, q1]
            exact ice_keeps f3 trivial (hR (by decide))
          by_cases q2 : x.most < m.n3
          · have hw := hq.1 (.inr q2)
            rw [hw, if_neg (by decide)] at h3
            rw [h3] at hR
            simp (disch := first | omega | (simp only [lnx]; omega)) only [stdh, stdx, ↓reduceIte, seval, l1, l2, l3, l4, hf, hp, e0, e1, e2, RS.has, RS.num, List.getElem?_set_ne, encM, cuneiformref17_Check.d0, q1, q2]
            exact ice_keeps f3 trivial (hR (by decide))
          · have hw := hq.2 (by omega)
            rw [hw, if_pos rfl] at h3
            simp (disch := first | omega | (simp only [lnx]; omega)) only [stdh, stdx, ↓reduceIte, seval, l1, l2, l3, l4, hf, hp, e0, e1, e2, RS.has, RS.num, List.getElem?_set_ne, encM, cuneiformref17_Check.d0, q1, q2]
            rw [hcast]
            exact hgo _ _ hs h3 f3 f0 f1 f2
        · have ha : s.add x = { s with a2 := true, b4 := true } := by simp [RS.add, RS.sort, RS.plc, hf, hp]
          rw [ha] at hs
          have hq := hq m.n4 (by rw [hp]; rfl)
          have hfin : ∀ s' H', s' = { s with a2 := true, b4 := true } → H' = (H.set (c + 1) (.cells { s with a2 := true, b4 := true }.has T.n7_bool)).set (c + 2) (.cells { s with a2 := true, b4 := true }.num T.n6_bool) → H'[c]? = some (.cells (encM m) T.cuneiformref17_M) ∧ H'[c + 1]? = some (.cells s'.has T.n7_bool) ∧ H'[c + 2]? = some (.cells s'.num T.n6_bool) ∧ Keeps H0 H' := by
            rintro s' H' rfl rfl
            refine ⟨?_, ?_, ?_, (hk.set (by omega) _).set (by omega) _⟩
            · rw [List.getElem?_set_ne (by omega), List.getElem?_set_ne (by omega)]; exact e0
            · rw [List.getElem?_set_ne (by omega), List.getElem?_set_self (by omega)]
            · rw [List.getElem?_set_self (by simp; omega)]
          obtain ⟨f0, f1, f2, f3⟩ := hfin _ _ rfl rfl
          by_cases q1 : m.n4 < x.least
          · have hw := hq.1 (.inl q1)
            rw [hw, if_neg (by decide)] at h3
            rw [h3] at hR
            simp (disch := first | omega | (simp only [lnx]; omega)) only [stdh, stdx, ↓reduceIte, seval, l1, l2, l3, l4, hf, hp, e0, e1, e2, RS.has, RS.num, List.getElem?_set_ne, encM, cuneiformref17_Check.d0, q1]
            exact ice_keeps f3 trivial (hR (by decide))
          by_cases q2 : x.most < m.n4
          · have hw := hq.1 (.inr q2)
            rw [hw, if_neg (by decide)] at h3
            rw [h3] at hR
            simp (disch := first | omega | (simp only [lnx]; omega)) only [stdh, stdx, ↓reduceIte, seval, l1, l2, l3, l4, hf, hp, e0, e1, e2, RS.has, RS.num, List.getElem?_set_ne, encM, cuneiformref17_Check.d0, q1, q2]
            exact ice_keeps f3 trivial (hR (by decide))
          · have hw := hq.2 (by omega)
            rw [hw, if_pos rfl] at h3
            simp (disch := first | omega | (simp only [lnx]; omega)) only [stdh, stdx, ↓reduceIte, seval, l1, l2, l3, l4, hf, hp, e0, e1, e2, RS.has, RS.num, List.getElem?_set_ne, encM, cuneiformref17_Check.d0, q1, q2]
            rw [hcast]
            exact hgo _ _ hs h3 f3 f0 f1 f2
        · have ha : s.add x = { s with a2 := true, b5 := true } := by simp [RS.add, RS.sort, RS.plc, hf, hp]
          rw [ha] at hs
          have hq := hq m.n5 (by rw [hp]; rfl)
          have hfin : ∀ s' H', s' = { s with a2 := true, b5 := true } → H' = (H.set (c + 1) (.cells { s with a2 := true, b5 := true }.has T.n7_bool)).set (c + 2) (.cells { s with a2 := true, b5 := true }.num T.n6_bool) → H'[c]? = some (.cells (encM m) T.cuneiformref17_M) ∧ H'[c + 1]? = some (.cells s'.has T.n7_bool) ∧ H'[c + 2]? = some (.cells s'.num T.n6_bool) ∧ Keeps H0 H' := by
            rintro s' H' rfl rfl
            refine ⟨?_, ?_, ?_, (hk.set (by omega) _).set (by omega) _⟩
            · rw [List.getElem?_set_ne (by omega), List.getElem?_set_ne (by omega)]; exact e0
            · rw [List.getElem?_set_ne (by omega), List.getElem?_set_self (by omega)]
            · rw [List.getElem?_set_self (by simp; omega)]
          obtain ⟨f0, f1, f2, f3⟩ := hfin _ _ rfl rfl
          by_cases q1 : m.n5 < x.least
          · have hw := hq.1 (.inl q1)
            rw [hw, if_neg (by decide)] at h3
            rw [h3] at hR
            simp (disch := first | omega | (simp only [lnx]; omega)) only [stdh, stdx, ↓reduceIte, seval, l1, l2, l3, l4, hf, hp, e0, e1, e2, RS.has, RS.num, List.getElem?_set_ne, encM, cuneiformref17_Check.d0, q1]
            exact ice_keeps f3 trivial (hR (by decide))
          by_cases q2 : x.most < m.n5
          · have hw := hq.1 (.inr q2)
            rw [hw, if_neg (by decide)] at h3
            rw [h3] at hR
            simp (disch := first | omega | (simp only [lnx]; omega)) only [stdh, stdx, ↓reduceIte, seval, l1, l2, l3, l4, hf, hp, e0, e1, e2, RS.has, RS.num, List.getElem?_set_ne, encM, cuneiformref17_Check.d0, q1, q2]
            exact ice_keeps f3 trivial (hR (by decide))
          · have hw := hq.2 (by omega)
            rw [hw, if_pos rfl] at h3
            simp (disch := first | omega | (simp only [lnx]; omega)) only [stdh, stdx, ↓reduceIte, seval, l1, l2, l3, l4, hf, hp, e0, e1, e2, RS.has, RS.num, List.getElem?_set_ne, encM, cuneiformref17_Check.d0, q1, q2]
            rw [hcast]
            exact hgo _ _ hs h3 f3 f0 f1 f2
  termination_by n => n
set_option linter.unusedSimpArgs false
set_option linter.unusedVariables false

theorem bytes_size (s : ByteArray) : (bytesOf s).length = s.size := bytesOf_len s

/-- What each field's part is asked is the same on both sides. -/
def Fld.std (f : Fld) : Prop := (f.sort = 3 → f.least = 1 ∧ f.most = 16) ∧ (f.sort = 4 → f.least = 1 ∧ f.most = 32) ∧ (f.sort = 5 → f.least = 0 ∧ f.most = 64) ∧ (f.sort = 6 → f.least = 0 ∧ f.most = 16)
instance (f : Fld) : Decidable f.std := by unfold Fld.std; infer_instance
theorem fieldsOf_std {k : Int} : ∀ f ∈ fieldsOf k, f.std := by
  unfold fieldsOf
  split
  · decide +kernel
  split
  · decide +kernel
  split
  · decide +kernel
  split
  · decide +kernel
  split
  · decide +kernel
  · simp

theorem wrong_eq {m : Mg} {f : Fld} (h : f.std) : wrongE m f = rwrongE m f := by
  obtain ⟨h3, h4, h5, h6⟩ := h
  unfold wrongE rwrongE
  split
  · rename_i q; obtain ⟨a, b⟩ := h3 q
    unfold pathE rpathE manyE
    rw [a, b]
    repeat' split
    all_goals first | rfl | omega
  split
  · rename_i _ q; obtain ⟨a, b⟩ := h4 q
    unfold cellsE rcellsE manyE
    rw [a, b]
    repeat' split
    all_goals first | rfl | omega
  split
  · rename_i _ _ q; obtain ⟨a, b⟩ := h5 q
    unfold textE rtextE manyE
    rw [a, b]
    repeat' split
    all_goals first | rfl | omega
  split
  · rename_i _ _ _ q; obtain ⟨a, b⟩ := h6 q
    unfold textE rtextE manyE
    rw [a, b]
    repeat' split
    all_goals first | rfl | omega
  · rfl

theorem chk_rgo {m : Mg} : ∀ (l : List Fld) (e : Int) (left : Mg), (∀ f ∈ l, f.std) → chkGo m l e left = (if l = [] then (e, left) else if rgo m l = 0 then (0, l.foldl withoutM left) else ((chkGo m l e left).1, (chkGo m l e left).2)) ∧ (l ≠ [] → (chkGo m l e left).1 = rgo m l)
  | [], e, left, _ => ⟨rfl, fun h => absurd rfl h⟩
  | f :: fs, e, left, h => by
    have hw := wrong_eq (m := m) (h f (by simp))
    have ih := chk_rgo (m := m) fs 0 (withoutM left f) fun g hg => h g (by simp [hg])
    unfold chkGo rgo
    rw [hw]
    by_cases h0 : rwrongE m f = 0
    · simp only [h0, if_true]
      by_cases hfs : fs = []
      · subst hfs; simp [chkGo, rgo]
      · obtain ⟨i1, i2⟩ := ih
        rw [if_neg hfs] at i1
        refine ⟨?_, fun _ => i2 hfs⟩
        simp only [reduceCtorEq, if_false, List.foldl_cons]
        exact i1
    · simp [h0]

theorem checkM_eq (m : Mg) (hl : fieldsOf m.k ≠ []) : checkM m = if rgo m (fieldsOf m.k) = 0 then (if (fieldsOf m.k).foldl withoutM m ≠ { mg0 with k := m.k } then 3 else 0) else rgo m (fieldsOf m.k) := by
  obtain ⟨h1, h2⟩ := chk_rgo (m := m) (fieldsOf m.k) 9 m fun f hf => fieldsOf_std f hf
  rw [if_neg hl] at h1
  have h2 := h2 hl
  unfold checkM
  by_cases h0 : rgo m (fieldsOf m.k) = 0
  · rw [if_pos h0] at h1 ⊢
    rw [h1]
    simp
  · rw [if_neg h0, h2]
    simp [h0]

theorem left_1 {m : Mg} (h : m.k = 1) : (fieldsOf m.k).foldl withoutM m = { m with n0 := 0, n1 := 0, n2 := 0, p := [], g := ⟨#[]⟩ } := by
  obtain ⟨k, n0, n1, n2, n3, n4, n5, p, c, t, g⟩ := m
  simp only at h
  subst h
  simp [fieldsOf, withoutM, Mg.put, List.foldl]

set_option maxRecDepth 10000 in
set_option maxHeartbeats 4000000 in
theorem rcheck_1 (H : AHeap) (m : Mg) (hk : m.k = 1) (hm : m.fine2) (Q : AVal → AHeap → Prop) (h : Q (.int .i64 (checkM m)) H) : FunOK Try.prog F.cuneiformref17_Check [.agg (encM m)] H Q := by
  have hne : fieldsOf m.k ≠ [] := by rw [hk]; decide
  rw [checkM_eq m hne, left_1 hk] at h
  have h3 : rgo m (fieldsOf m.k) = 0 → { m with n0 := 0, n1 := 0, n2 := 0, p := [], g := ⟨#[]⟩ } ≠ ({ mg0 with k := m.k } : Mg) → Q (.int .i64 3) H := fun a b => by rw [if_pos a, if_pos b] at h; exact h
  have h0 : rgo m (fieldsOf m.k) = 0 → { m with n0 := 0, n1 := 0, n2 := 0, p := [], g := ⟨#[]⟩ } = ({ mg0 with k := m.k } : Mg) → Q (.int .i64 0) H := fun a b => by rw [if_pos a, if_neg (fun c => c b)] at h; exact h
  have hr : rgo m (fieldsOf m.k) ≠ 0 → Q (.int .i64 (rgo m (fieldsOf m.k))) H := fun a => by rw [if_neg a] at h; exact h
  clear h
  have hlen := fieldsOf_len m.k
  have hok := fun f (hf : f ∈ fieldsOf m.k) => fieldsOf_ok3 f hf
  have hsz : (⟨false, true, false, true, false, false, true, true, true, true, false, false, false⟩ : RS) = (fieldsOf m.k).foldl RS.add rs0 := by rw [hk]; decide +kernel
  have hl0 : ((fieldsOf m.k).length : Int) ≠ 0 := by have := List.length_pos_iff.2 hne; omega
  refine fun_iced cuneiformref17_Check_code fun _ => ?_
  refine fun_V 60 cuneiformref17_Check_code rfl ?_
  simp (disch := first | omega | (simp only [lnx]; omega)) only [stdh, stdx, ↓reduceIte, seval, cuneiformref17_Check, cuneiformref17_Check.body, encM]
  refine callK_fn (rall16_ok _ _ _ ?_)
  refine runL_V 60 ?_
  generalize fieldsOf m.k = l at *
  simp (disch := first | omega | (simp only [lnx]; omega)) only [stdh, stdx, ↓reduceIte, seval, hl0]
  refine rcheck_loop (m := m) hm hlen hok _ _ (H0 := H) (c := H.length) (by omega) (sz := ⟨false, true, false, true, false, false, true, true, true, true, false, false, false⟩) ?_ hr _ 0 rs0 _ rfl (by omega) rfl hsz (keeps_append _ _) at_0 at_k at_k
  intro hz r H' hkk e0 e1 e2 r1 r4 r5
  refine run_V0 60 ?_
  simp (disch := first | omega | (simp only [lnx]; omega)) only [stdh, stdx, ↓reduceIte, seval, r1, r4, r5]
  refine loop_V 100 cuneiformref17_Check.b2.eq_1 ?_
  simp (disch := first | omega | (simp only [lnx]; omega)) only [stdh, stdx, ↓reduceIte, seval, e0, e1, e2, RS.num, encM, Int.reduceAdd]
  refine loop_V 100 cuneiformref17_Check.b2.eq_1 ?_
  simp (disch := first | omega | (simp only [lnx]; omega)) only [stdh, stdx, ↓reduceIte, seval, e0, e1, e2, RS.num, encM, Int.reduceAdd]
  refine loop_V 100 cuneiformref17_Check.b2.eq_1 ?_
  simp (disch := first | omega | (simp only [lnx]; omega)) only [stdh, stdx, ↓reduceIte, seval, e0, e1, e2, RS.num, encM, Int.reduceAdd]
  refine loop_V 100 cuneiformref17_Check.b2.eq_1 ?_
  by_cases z3 : m.n3 = 0
  case neg =>
    simp (disch := first | omega | (simp only [lnx]; omega)) only [stdh, stdx, ↓reduceIte, seval, e0, e1, e2, RS.num, encM, z3, Int.reduceAdd]
    exact ice_keeps hkk trivial (h3 hz fun hh => z3 (by cases m; simp only [mg0, Mg.mk.injEq] at hh; simp only; omega))
  simp (disch := first | omega | (simp only [lnx]; omega)) only [stdh, stdx, ↓reduceIte, seval, e0, e1, e2, RS.num, encM, z3, Int.reduceAdd]
  refine loop_V 100 cuneiformref17_Check.b2.eq_1 ?_
  by_cases z4 : m.n4 = 0
  case neg =>
    simp (disch := first | omega | (simp only [lnx]; omega)) only [stdh, stdx, ↓reduceIte, seval, e0, e1, e2, RS.num, encM, z4, Int.reduceAdd]
    exact ice_keeps hkk trivial (h3 hz fun hh => z4 (by cases m; simp only [mg0, Mg.mk.injEq] at hh; simp only; omega))
  simp (disch := first | omega | (simp only [lnx]; omega)) only [stdh, stdx, ↓reduceIte, seval, e0, e1, e2, RS.num, encM, z4, Int.reduceAdd]
  refine loop_V 100 cuneiformref17_Check.b2.eq_1 ?_
  by_cases z5 : m.n5 = 0
  case neg =>
    simp (disch := first | omega | (simp only [lnx]; omega)) only [stdh, stdx, ↓reduceIte, seval, e0, e1, e2, RS.num, encM, z5, Int.reduceAdd]
    exact ice_keeps hkk trivial (h3 hz fun hh => z5 (by cases m; simp only [mg0, Mg.mk.injEq] at hh; simp only; omega))
  simp (disch := first | omega | (simp only [lnx]; omega)) only [stdh, stdx, ↓reduceIte, seval, e0, e1, e2, RS.num, encM, z5, Int.reduceAdd]
  refine loop_V 100 cuneiformref17_Check.b2.eq_1 ?_
  simp (disch := first | omega | (simp only [lnx]; omega)) only [stdh, stdx, ↓reduceIte, seval]
  refine run_V0 200 ?_
  by_cases y4 : m.c.length = 0
  case neg =>
    have y4' : (0 : Int) < (m.c.length : Int) := by omega
    simp (disch := first | omega | (simp only [lnx]; omega)) only [stdh, stdx, ↓reduceIte, seval, e0, e1, e2, RS.has, encM, y4']
    exact ice_keeps hkk trivial (h3 hz fun hh => y4 (by have hc := congrArg (fun q : Mg => q.c.length) hh; exact hc))
  have y4' : ¬ (0 : Int) < (m.c.length : Int) := by omega
  by_cases y5 : m.t = ⟨#[]⟩
  case neg =>
    simp (disch := first | omega | (simp only [lnx]; omega)) only [stdh, stdx, ↓reduceIte, seval, e0, e1, e2, RS.has, encM, y4', y5]
    exact ice_keeps hkk trivial (h3 hz fun hh => y5 (by have hc := congrArg (fun q : Mg => q.t) hh; exact hc))
  simp (disch := first | omega | (simp only [lnx]; omega)) only [stdh, stdx, ↓reduceIte, seval, e0, e1, e2, RS.has, encM, y4', y5]
  refine ice_keeps hkk trivial (h0 hz ?_)
  replace y4 := List.eq_nil_of_length_eq_zero y4
  obtain ⟨k, n0, n1, n2, n3, n4, n5, p, c, t, g⟩ := m
  simp only at z3 z4 z5 y4 y5
  simp only [mg0, z3, z4, z5, y4, y5]

theorem left_2 {m : Mg} (h : m.k = 2) : (fieldsOf m.k).foldl withoutM m = { m with n0 := 0, n1 := 0, n2 := 0 } := by
  obtain ⟨k, n0, n1, n2, n3, n4, n5, p, c, t, g⟩ := m
  simp only at h
  subst h
  simp [fieldsOf, withoutM, Mg.put, List.foldl]

set_option maxRecDepth 10000 in
set_option maxHeartbeats 4000000 in
theorem rcheck_2 (H : AHeap) (m : Mg) (hk : m.k = 2) (hm : m.fine2) (Q : AVal → AHeap → Prop) (h : Q (.int .i64 (checkM m)) H) : FunOK Try.prog F.cuneiformref17_Check [.agg (encM m)] H Q := by
  have hne : fieldsOf m.k ≠ [] := by rw [hk]; decide
  rw [checkM_eq m hne, left_2 hk] at h
  have h3 : rgo m (fieldsOf m.k) = 0 → { m with n0 := 0, n1 := 0, n2 := 0 } ≠ ({ mg0 with k := m.k } : Mg) → Q (.int .i64 3) H := fun a b => by rw [if_pos a, if_pos b] at h; exact h
  have h0 : rgo m (fieldsOf m.k) = 0 → { m with n0 := 0, n1 := 0, n2 := 0 } = ({ mg0 with k := m.k } : Mg) → Q (.int .i64 0) H := fun a b => by rw [if_pos a, if_neg (fun c => c b)] at h; exact h
  have hr : rgo m (fieldsOf m.k) ≠ 0 → Q (.int .i64 (rgo m (fieldsOf m.k))) H := fun a => by rw [if_neg a] at h; exact h
  clear h
  have hlen := fieldsOf_len m.k
  have hok := fun f (hf : f ∈ fieldsOf m.k) => fieldsOf_ok3 f hf
  have hsz : (⟨false, true, false, false, false, false, false, true, true, true, false, false, false⟩ : RS) = (fieldsOf m.k).foldl RS.add rs0 := by rw [hk]; decide +kernel
  have hl0 : ((fieldsOf m.k).length : Int) ≠ 0 := by have := List.length_pos_iff.2 hne; omega
  refine fun_iced cuneiformref17_Check_code fun _ => ?_
  refine fun_V 60 cuneiformref17_Check_code rfl ?_
  simp (disch := first | omega | (simp only [lnx]; omega)) only [stdh, stdx, ↓reduceIte, seval, cuneiformref17_Check, cuneiformref17_Check.body, encM]
  refine callK_fn (rall16_ok _ _ _ ?_)
  refine runL_V 60 ?_
  generalize fieldsOf m.k = l at *
  simp (disch := first | omega | (simp only [lnx]; omega)) only [stdh, stdx, ↓reduceIte, seval, hl0]
  refine rcheck_loop (m := m) hm hlen hok _ _ (H0 := H) (c := H.length) (by omega) (sz := ⟨false, true, false, false, false, false, false, true, true, true, false, false, false⟩) ?_ hr _ 0 rs0 _ rfl (by omega) rfl hsz (keeps_append _ _) at_0 at_k at_k
  intro hz r H' hkk e0 e1 e2 r1 r4 r5
  refine run_V0 60 ?_
  simp (disch := first | omega | (simp only [lnx]; omega)) only [stdh, stdx, ↓reduceIte, seval, r1, r4, r5]
  refine loop_V 100 cuneiformref17_Check.b2.eq_1 ?_
  simp (disch := first | omega | (simp only [lnx]; omega)) only [stdh, stdx, ↓reduceIte, seval, e0, e1, e2, RS.num, encM, Int.reduceAdd]
  refine loop_V 100 cuneiformref17_Check.b2.eq_1 ?_
  simp (disch := first | omega | (simp only [lnx]; omega)) only [stdh, stdx, ↓reduceIte, seval, e0, e1, e2, RS.num, encM, Int.reduceAdd]
  refine loop_V 100 cuneiformref17_Check.b2.eq_1 ?_
  simp (disch := first | omega | (simp only [lnx]; omega)) only [stdh, stdx, ↓reduceIte, seval, e0, e1, e2, RS.num, encM, Int.reduceAdd]
  refine loop_V 100 cuneiformref17_Check.b2.eq_1 ?_
  by_cases z3 : m.n3 = 0
  case neg =>
    simp (disch := first | omega | (simp only [lnx]; omega)) only [stdh, stdx, ↓reduceIte, seval, e0, e1, e2, RS.num, encM, z3, Int.reduceAdd]
    exact ice_keeps hkk trivial (h3 hz fun hh => z3 (by cases m; simp only [mg0, Mg.mk.injEq] at hh; simp only; omega))
  simp (disch := first | omega | (simp only [lnx]; omega)) only [stdh, stdx, ↓reduceIte, seval, e0, e1, e2, RS.num, encM, z3, Int.reduceAdd]
  refine loop_V 100 cuneiformref17_Check.b2.eq_1 ?_
  by_cases z4 : m.n4 = 0
  case neg =>
    simp (disch := first | omega | (simp only [lnx]; omega)) only [stdh, stdx, ↓reduceIte, seval, e0, e1, e2, RS.num, encM, z4, Int.reduceAdd]
    exact ice_keeps hkk trivial (h3 hz fun hh => z4 (by cases m; simp only [mg0, Mg.mk.injEq] at hh; simp only; omega))
  simp (disch := first | omega | (simp only [lnx]; omega)) only [stdh, stdx, ↓reduceIte, seval, e0, e1, e2, RS.num, encM, z4, Int.reduceAdd]
  refine loop_V 100 cuneiformref17_Check.b2.eq_1 ?_
  by_cases z5 : m.n5 = 0
  case neg =>
    simp (disch := first | omega | (simp only [lnx]; omega)) only [stdh, stdx, ↓reduceIte, seval, e0, e1, e2, RS.num, encM, z5, Int.reduceAdd]
    exact ice_keeps hkk trivial (h3 hz fun hh => z5 (by cases m; simp only [mg0, Mg.mk.injEq] at hh; simp only; omega))
  simp (disch := first | omega | (simp only [lnx]; omega)) only [stdh, stdx, ↓reduceIte, seval, e0, e1, e2, RS.num, encM, z5, Int.reduceAdd]
  refine loop_V 100 cuneiformref17_Check.b2.eq_1 ?_
  simp (disch := first | omega | (simp only [lnx]; omega)) only [stdh, stdx, ↓reduceIte, seval]
  refine run_V0 200 ?_
  by_cases y3 : m.p.length = 0
  case neg =>
    have y3' : (0 : Int) < (m.p.length : Int) := by omega
    simp (disch := first | omega | (simp only [lnx]; omega)) only [stdh, stdx, ↓reduceIte, seval, e0, e1, e2, RS.has, encM, y3']
    exact ice_keeps hkk trivial (h3 hz fun hh => y3 (by have hc := congrArg (fun q : Mg => q.p.length) hh; exact hc))
  have y3' : ¬ (0 : Int) < (m.p.length : Int) := by omega
  by_cases y4 : m.c.length = 0
  case neg =>
    have y4' : (0 : Int) < (m.c.length : Int) := by omega
    simp (disch := first | omega | (simp only [lnx]; omega)) only [stdh, stdx, ↓reduceIte, seval, e0, e1, e2, RS.has, encM, y3', y4']
    exact ice_keeps hkk trivial (h3 hz fun hh => y4 (by have hc := congrArg (fun q : Mg => q.c.length) hh; exact hc))
  have y4' : ¬ (0 : Int) < (m.c.length : Int) := by omega
  by_cases y5 : m.t = ⟨#[]⟩
  case neg =>
    simp (disch := first | omega | (simp only [lnx]; omega)) only [stdh, stdx, ↓reduceIte, seval, e0, e1, e2, RS.has, encM, y3', y4', y5]
    exact ice_keeps hkk trivial (h3 hz fun hh => y5 (by have hc := congrArg (fun q : Mg => q.t) hh; exact hc))
  by_cases y6 : m.g = ⟨#[]⟩
  case neg =>
    simp (disch := first | omega | (simp only [lnx]; omega)) only [stdh, stdx, ↓reduceIte, seval, e0, e1, e2, RS.has, encM, y3', y4', y5, y6]
    exact ice_keeps hkk trivial (h3 hz fun hh => y6 (by have hc := congrArg (fun q : Mg => q.g) hh; exact hc))
  simp (disch := first | omega | (simp only [lnx]; omega)) only [stdh, stdx, ↓reduceIte, seval, e0, e1, e2, RS.has, encM, y3', y4', y5, y6]
  refine ice_keeps hkk trivial (h0 hz ?_)
  replace y3 := List.eq_nil_of_length_eq_zero y3
  replace y4 := List.eq_nil_of_length_eq_zero y4
  obtain ⟨k, n0, n1, n2, n3, n4, n5, p, c, t, g⟩ := m
  simp only at z3 z4 z5 y3 y4 y5 y6
  simp only [mg0, z3, z4, z5, y3, y4, y5, y6]

theorem left_3 {m : Mg} (h : m.k = 3) : (fieldsOf m.k).foldl withoutM m = { m with n0 := 0, n1 := 0, n2 := 0, c := [] } := by
  obtain ⟨k, n0, n1, n2, n3, n4, n5, p, c, t, g⟩ := m
  simp only at h
  subst h
  simp [fieldsOf, withoutM, Mg.put, List.foldl]

set_option maxRecDepth 10000 in
set_option maxHeartbeats 4000000 in
theorem rcheck_3 (H : AHeap) (m : Mg) (hk : m.k = 3) (hm : m.fine2) (Q : AVal → AHeap → Prop) (h : Q (.int .i64 (checkM m)) H) : FunOK Try.prog F.cuneiformref17_Check [.agg (encM m)] H Q := by
  have hne : fieldsOf m.k ≠ [] := by rw [hk]; decide
  rw [checkM_eq m hne, left_3 hk] at h
  have h3 : rgo m (fieldsOf m.k) = 0 → { m with n0 := 0, n1 := 0, n2 := 0, c := [] } ≠ ({ mg0 with k := m.k } : Mg) → Q (.int .i64 3) H := fun a b => by rw [if_pos a, if_pos b] at h; exact h
  have h0 : rgo m (fieldsOf m.k) = 0 → { m with n0 := 0, n1 := 0, n2 := 0, c := [] } = ({ mg0 with k := m.k } : Mg) → Q (.int .i64 0) H := fun a b => by rw [if_pos a, if_neg (fun c => c b)] at h; exact h
  have hr : rgo m (fieldsOf m.k) ≠ 0 → Q (.int .i64 (rgo m (fieldsOf m.k))) H := fun a => by rw [if_neg a] at h; exact h
  clear h
  have hlen := fieldsOf_len m.k
  have hok := fun f (hf : f ∈ fieldsOf m.k) => fieldsOf_ok3 f hf
  have hsz : (⟨false, true, false, false, true, false, false, true, true, true, false, false, false⟩ : RS) = (fieldsOf m.k).foldl RS.add rs0 := by rw [hk]; decide +kernel
  have hl0 : ((fieldsOf m.k).length : Int) ≠ 0 := by have := List.length_pos_iff.2 hne; omega
  refine fun_iced cuneiformref17_Check_code fun _ => ?_
  refine fun_V 60 cuneiformref17_Check_code rfl ?_
  simp (disch := first | omega | (simp only [lnx]; omega)) only [stdh, stdx, ↓reduceIte, seval, cuneiformref17_Check, cuneiformref17_Check.body, encM]
  refine callK_fn (rall16_ok _ _ _ ?_)
  refine runL_V 60 ?_
  generalize fieldsOf m.k = l at *
  simp (disch := first | omega | (simp only [lnx]; omega)) only [stdh, stdx, ↓reduceIte, seval, hl0]
  refine rcheck_loop (m := m) hm hlen hok _ _ (H0 := H) (c := H.length) (by omega) (sz := ⟨false, true, false, false, true, false, false, true, true, true, false, false, false⟩) ?_ hr _ 0 rs0 _ rfl (by omega) rfl hsz (keeps_append _ _) at_0 at_k at_k
  intro hz r H' hkk e0 e1 e2 r1 r4 r5
  refine run_V0 60 ?_
  simp (disch := first | omega | (simp only [lnx]; omega)) only [stdh, stdx, ↓reduceIte, seval, r1, r4, r5]
  refine loop_V 100 cuneiformref17_Check.b2.eq_1 ?_
  simp (disch := first | omega | (simp only [lnx]; omega)) only [stdh, stdx, ↓reduceIte, seval, e0, e1, e2, RS.num, encM, Int.reduceAdd]
  refine loop_V 100 cuneiformref17_Check.b2.eq_1 ?_
  simp (disch := first | omega | (simp only [lnx]; omega)) only [stdh, stdx, ↓reduceIte, seval, e0, e1, e2, RS.num, encM, Int.reduceAdd]
  refine loop_V 100 cuneiformref17_Check.b2.eq_1 ?_
  simp (disch := first | omega | (simp only [lnx]; omega)) only [stdh, stdx, ↓reduceIte, seval, e0, e1, e2, RS.num, encM, Int.reduceAdd]
  refine loop_V 100 cuneiformref17_Check.b2.eq_1 ?_
  by_cases z3 : m.n3 = 0
  case neg =>
    simp (disch := first | omega | (simp only [lnx]; omega)) only [stdh, stdx, ↓reduceIte, seval, e0, e1, e2, RS.num, encM, z3, Int.reduceAdd]
    exact ice_keeps hkk trivial (h3 hz fun hh => z3 (by cases m; simp only [mg0, Mg.mk.injEq] at hh; simp only; omega))
  simp (disch := first | omega | (simp only [lnx]; omega)) only [stdh, stdx, ↓reduceIte, seval, e0, e1, e2, RS.num, encM, z3, Int.reduceAdd]
  refine loop_V 100 cuneiformref17_Check.b2.eq_1 ?_
  by_cases z4 : m.n4 = 0
  case neg =>
    simp (disch := first | omega | (simp only [lnx]; omega)) only [stdh, stdx, ↓reduceIte, seval, e0, e1, e2, RS.num, encM, z4, Int.reduceAdd]
    exact ice_keeps hkk trivial (h3 hz fun hh => z4 (by cases m; simp only [mg0, Mg.mk.injEq] at hh; simp only; omega))
  simp (disch := first | omega | (simp only [lnx]; omega)) only [stdh, stdx, ↓reduceIte, seval, e0, e1, e2, RS.num, encM, z4, Int.reduceAdd]
  refine loop_V 100 cuneiformref17_Check.b2.eq_1 ?_
  by_cases z5 : m.n5 = 0
  case neg =>
    simp (disch := first | omega | (simp only [lnx]; omega)) only [stdh, stdx, ↓reduceIte, seval, e0, e1, e2, RS.num, encM, z5, Int.reduceAdd]
    exact ice_keeps hkk trivial (h3 hz fun hh => z5 (by cases m; simp only [mg0, Mg.mk.injEq] at hh; simp only; omega))
  simp (disch := first | omega | (simp only [lnx]; omega)) only [stdh, stdx, ↓reduceIte, seval, e0, e1, e2, RS.num, encM, z5, Int.reduceAdd]
  refine loop_V 100 cuneiformref17_Check.b2.eq_1 ?_
  simp (disch := first | omega | (simp only [lnx]; omega)) only [stdh, stdx, ↓reduceIte, seval]
  refine run_V0 200 ?_
  by_cases y3 : m.p.length = 0
  case neg =>
    have y3' : (0 : Int) < (m.p.length : Int) := by omega
    simp (disch := first | omega | (simp only [lnx]; omega)) only [stdh, stdx, ↓reduceIte, seval, e0, e1, e2, RS.has, encM, y3']
    exact ice_keeps hkk trivial (h3 hz fun hh => y3 (by have hc := congrArg (fun q : Mg => q.p.length) hh; exact hc))
  have y3' : ¬ (0 : Int) < (m.p.length : Int) := by omega
  by_cases y5 : m.t = ⟨#[]⟩
  case neg =>
    simp (disch := first | omega | (simp only [lnx]; omega)) only [stdh, stdx, ↓reduceIte, seval, e0, e1, e2, RS.has, encM, y3', y5]
    exact ice_keeps hkk trivial (h3 hz fun hh => y5 (by have hc := congrArg (fun q : Mg => q.t) hh; exact hc))
  by_cases y6 : m.g = ⟨#[]⟩
  case neg =>
    simp (disch := first | omega | (simp only [lnx]; omega)) only [stdh, stdx, ↓reduceIte, seval, e0, e1, e2, RS.has, encM, y3', y5, y6]
    exact ice_keeps hkk trivial (h3 hz fun hh => y6 (by have hc := congrArg (fun q : Mg => q.g) hh; exact hc))
  simp (disch := first | omega | (simp only [lnx]; omega)) only [stdh, stdx, ↓reduceIte, seval, e0, e1, e2, RS.has, encM, y3', y5, y6]
  refine ice_keeps hkk trivial (h0 hz ?_)
  replace y3 := List.eq_nil_of_length_eq_zero y3
  obtain ⟨k, n0, n1, n2, n3, n4, n5, p, c, t, g⟩ := m
  simp only at z3 z4 z5 y3 y5 y6
  simp only [mg0, z3, z4, z5, y3, y5, y6]

theorem left_4 {m : Mg} (h : m.k = 4) : (fieldsOf m.k).foldl withoutM m = { m with n0 := 0, n1 := 0, n2 := 0, n3 := 0, n4 := 0, n5 := 0 } := by
  obtain ⟨k, n0, n1, n2, n3, n4, n5, p, c, t, g⟩ := m
  simp only at h
  subst h
  simp [fieldsOf, withoutM, Mg.put, List.foldl]

set_option maxRecDepth 10000 in
set_option maxHeartbeats 4000000 in
theorem rcheck_4 (H : AHeap) (m : Mg) (hk : m.k = 4) (hm : m.fine2) (Q : AVal → AHeap → Prop) (h : Q (.int .i64 (checkM m)) H) : FunOK Try.prog F.cuneiformref17_Check [.agg (encM m)] H Q := by
  have hne : fieldsOf m.k ≠ [] := by rw [hk]; decide
  rw [checkM_eq m hne, left_4 hk] at h
  have h3 : rgo m (fieldsOf m.k) = 0 → { m with n0 := 0, n1 := 0, n2 := 0, n3 := 0, n4 := 0, n5 := 0 } ≠ ({ mg0 with k := m.k } : Mg) → Q (.int .i64 3) H := fun a b => by rw [if_pos a, if_pos b] at h; exact h
  have h0 : rgo m (fieldsOf m.k) = 0 → { m with n0 := 0, n1 := 0, n2 := 0, n3 := 0, n4 := 0, n5 := 0 } = ({ mg0 with k := m.k } : Mg) → Q (.int .i64 0) H := fun a b => by rw [if_pos a, if_neg (fun c => c b)] at h; exact h
  have hr : rgo m (fieldsOf m.k) ≠ 0 → Q (.int .i64 (rgo m (fieldsOf m.k))) H := fun a => by rw [if_neg a] at h; exact h
  clear h
  have hlen := fieldsOf_len m.k
  have hok := fun f (hf : f ∈ fieldsOf m.k) => fieldsOf_ok3 f hf
  have hsz : (⟨false, true, true, false, false, false, false, true, true, true, true, true, true⟩ : RS) = (fieldsOf m.k).foldl RS.add rs0 := by rw [hk]; decide +kernel
  have hl0 : ((fieldsOf m.k).length : Int) ≠ 0 := by have := List.length_pos_iff.2 hne; omega
  refine fun_iced cuneiformref17_Check_code fun _ => ?_
  refine fun_V 60 cuneiformref17_Check_code rfl ?_
  simp (disch := first | omega | (simp only [lnx]; omega)) only [stdh, stdx, ↓reduceIte, seval, cuneiformref17_Check, cuneiformref17_Check.body, encM]
  refine callK_fn (rall16_ok _ _ _ ?_)
  refine runL_V 60 ?_
  generalize fieldsOf m.k = l at *
  simp (disch := first | omega | (simp only [lnx]; omega)) only [stdh, stdx, ↓reduceIte, seval, hl0]
  refine rcheck_loop (m := m) hm hlen hok _ _ (H0 := H) (c := H.length) (by omega) (sz := ⟨false, true, true, false, false, false, false, true, true, true, true, true, true⟩) ?_ hr _ 0 rs0 _ rfl (by omega) rfl hsz (keeps_append _ _) at_0 at_k at_k
  intro hz r H' hkk e0 e1 e2 r1 r4 r5
  refine run_V0 60 ?_
  simp (disch := first | omega | (simp only [lnx]; omega)) only [stdh, stdx, ↓reduceIte, seval, r1, r4, r5]
  refine loop_V 100 cuneiformref17_Check.b2.eq_1 ?_
  simp (disch := first | omega | (simp only [lnx]; omega)) only [stdh, stdx, ↓reduceIte, seval, e0, e1, e2, RS.num, encM, Int.reduceAdd]
  refine loop_V 100 cuneiformref17_Check.b2.eq_1 ?_
  simp (disch := first | omega | (simp only [lnx]; omega)) only [stdh, stdx, ↓reduceIte, seval, e0, e1, e2, RS.num, encM, Int.reduceAdd]
  refine loop_V 100 cuneiformref17_Check.b2.eq_1 ?_
  simp (disch := first | omega | (simp only [lnx]; omega)) only [stdh, stdx, ↓reduceIte, seval, e0, e1, e2, RS.num, encM, Int.reduceAdd]
  refine loop_V 100 cuneiformref17_Check.b2.eq_1 ?_
  simp (disch := first | omega | (simp only [lnx]; omega)) only [stdh, stdx, ↓reduceIte, seval, e0, e1, e2, RS.num, encM, Int.reduceAdd]
  refine loop_V 100 cuneiformref17_Check.b2.eq_1 ?_
  simp (disch := first | omega | (simp only [lnx]; omega)) only [stdh, stdx, ↓reduceIte, seval, e0, e1, e2, RS.num, encM, Int.reduceAdd]
  refine loop_V 100 cuneiformref17_Check.b2.eq_1 ?_
  simp (disch := first | omega | (simp only [lnx]; omega)) only [stdh, stdx, ↓reduceIte, seval, e0, e1, e2, RS.num, encM, Int.reduceAdd]
  refine loop_V 100 cuneiformref17_Check.b2.eq_1 ?_
  simp (disch := first | omega | (simp only [lnx]; omega)) only [stdh, stdx, ↓reduceIte, seval]
  refine run_V0 200 ?_
  by_cases y3 : m.p.length = 0
  case neg =>
    have y3' : (0 : Int) < (m.p.length : Int) := by omega
    simp (disch := first | omega | (simp only [lnx]; omega)) only [stdh, stdx, ↓reduceIte, seval, e0, e1, e2, RS.has, encM, y3']
    exact ice_keeps hkk trivial (h3 hz fun hh => y3 (by have hc := congrArg (fun q : Mg => q.p.length) hh; exact hc))
  have y3' : ¬ (0 : Int) < (m.p.length : Int) := by omega
  by_cases y4 : m.c.length = 0
  case neg =>
    have y4' : (0 : Int) < (m.c.length : Int) := by omega
    simp (disch := first | omega | (simp only [lnx]; omega)) only [stdh, stdx, ↓reduceIte, seval, e0, e1, e2, RS.has, encM, y3', y4']
    exact ice_keeps hkk trivial (h3 hz fun hh => y4 (by have hc := congrArg (fun q : Mg => q.c.length) hh; exact hc))
  have y4' : ¬ (0 : Int) < (m.c.length : Int) := by omega
  by_cases y5 : m.t = ⟨#[]⟩
  case neg =>
    simp (disch := first | omega | (simp only [lnx]; omega)) only [stdh, stdx, ↓reduceIte, seval, e0, e1, e2, RS.has, encM, y3', y4', y5]
    exact ice_keeps hkk trivial (h3 hz fun hh => y5 (by have hc := congrArg (fun q : Mg => q.t) hh; exact hc))
  by_cases y6 : m.g = ⟨#[]⟩
  case neg =>
    simp (disch := first | omega | (simp only [lnx]; omega)) only [stdh, stdx, ↓reduceIte, seval, e0, e1, e2, RS.has, encM, y3', y4', y5, y6]
    exact ice_keeps hkk trivial (h3 hz fun hh => y6 (by have hc := congrArg (fun q : Mg => q.g) hh; exact hc))
  simp (disch := first | omega | (simp only [lnx]; omega)) only [stdh, stdx, ↓reduceIte, seval, e0, e1, e2, RS.has, encM, y3', y4', y5, y6]
  refine ice_keeps hkk trivial (h0 hz ?_)
  replace y3 := List.eq_nil_of_length_eq_zero y3
  replace y4 := List.eq_nil_of_length_eq_zero y4
  obtain ⟨k, n0, n1, n2, n3, n4, n5, p, c, t, g⟩ := m
  simp only at y3 y4 y5 y6
  simp only [mg0, y3, y4, y5, y6]

theorem left_5 {m : Mg} (h : m.k = 5) : (fieldsOf m.k).foldl withoutM m = { m with n0 := 0, n1 := 0, n2 := 0, n3 := 0, n4 := 0, t := ⟨#[]⟩ } := by
  obtain ⟨k, n0, n1, n2, n3, n4, n5, p, c, t, g⟩ := m
  simp only at h
  subst h
  simp [fieldsOf, withoutM, Mg.put, List.foldl]

set_option maxRecDepth 10000 in
set_option maxHeartbeats 4000000 in
theorem rcheck_5 (H : AHeap) (m : Mg) (hk : m.k = 5) (hm : m.fine2) (Q : AVal → AHeap → Prop) (h : Q (.int .i64 (checkM m)) H) : FunOK Try.prog F.cuneiformref17_Check [.agg (encM m)] H Q := by
  have hne : fieldsOf m.k ≠ [] := by rw [hk]; decide
  rw [checkM_eq m hne, left_5 hk] at h
  have h3 : rgo m (fieldsOf m.k) = 0 → { m with n0 := 0, n1 := 0, n2 := 0, n3 := 0, n4 := 0, t := ⟨#[]⟩ } ≠ ({ mg0 with k := m.k } : Mg) → Q (.int .i64 3) H := fun a b => by rw [if_pos a, if_pos b] at h; exact h
  have h0 : rgo m (fieldsOf m.k) = 0 → { m with n0 := 0, n1 := 0, n2 := 0, n3 := 0, n4 := 0, t := ⟨#[]⟩ } = ({ mg0 with k := m.k } : Mg) → Q (.int .i64 0) H := fun a b => by rw [if_pos a, if_neg (fun c => c b)] at h; exact h
  have hr : rgo m (fieldsOf m.k) ≠ 0 → Q (.int .i64 (rgo m (fieldsOf m.k))) H := fun a => by rw [if_neg a] at h; exact h
  clear h
  have hlen := fieldsOf_len m.k
  have hok := fun f (hf : f ∈ fieldsOf m.k) => fieldsOf_ok3 f hf
  have hsz : (⟨false, true, false, false, false, true, false, true, true, true, true, true, false⟩ : RS) = (fieldsOf m.k).foldl RS.add rs0 := by rw [hk]; decide +kernel
  have hl0 : ((fieldsOf m.k).length : Int) ≠ 0 := by have := List.length_pos_iff.2 hne; omega
  refine fun_iced cuneiformref17_Check_code fun _ => ?_
  refine fun_V 60 cuneiformref17_Check_code rfl ?_
  simp (disch := first | omega | (simp only [lnx]; omega)) only [stdh, stdx, ↓reduceIte, seval, cuneiformref17_Check, cuneiformref17_Check.body, encM]
  refine callK_fn (rall16_ok _ _ _ ?_)
  refine runL_V 60 ?_
  generalize fieldsOf m.k = l at *
  simp (disch := first | omega | (simp only [lnx]; omega)) only [stdh, stdx, ↓reduceIte, seval, hl0]
  refine rcheck_loop (m := m) hm hlen hok _ _ (H0 := H) (c := H.length) (by omega) (sz := ⟨false, true, false, false, false, true, false, true, true, true, true, true, false⟩) ?_ hr _ 0 rs0 _ rfl (by omega) rfl hsz (keeps_append _ _) at_0 at_k at_k
  intro hz r H' hkk e0 e1 e2 r1 r4 r5
  refine run_V0 60 ?_
  simp (disch := first | omega | (simp only [lnx]; omega)) only [stdh, stdx, ↓reduceIte, seval, r1, r4, r5]
  refine loop_V 100 cuneiformref17_Check.b2.eq_1 ?_
  simp (disch := first | omega | (simp only [lnx]; omega)) only [stdh, stdx, ↓reduceIte, seval, e0, e1, e2, RS.num, encM, Int.reduceAdd]
  refine loop_V 100 cuneiformref17_Check.b2.eq_1 ?_
  simp (disch := first | omega | (simp only [lnx]; omega)) only [stdh, stdx, ↓reduceIte, seval, e0, e1, e2, RS.num, encM, Int.reduceAdd]
  refine loop_V 100 cuneiformref17_Check.b2.eq_1 ?_
  simp (disch := first | omega | (simp only [lnx]; omega)) only [stdh, stdx, ↓reduceIte, seval, e0, e1, e2, RS.num, encM, Int.reduceAdd]
  refine loop_V 100 cuneiformref17_Check.b2.eq_1 ?_
  simp (disch := first | omega | (simp only [lnx]; omega)) only [stdh, stdx, ↓reduceIte, seval, e0, e1, e2, RS.num, encM, Int.reduceAdd]
  refine loop_V 100 cuneiformref17_Check.b2.eq_1 ?_
  simp (disch := first | omega | (simp only [lnx]; omega)) only [stdh, stdx, ↓reduceIte, seval, e0, e1, e2, RS.num, encM, Int.reduceAdd]
  refine loop_V 100 cuneiformref17_Check.b2.eq_1 ?_
  by_cases z5 : m.n5 = 0
  case neg =>
    simp (disch := first | omega | (simp only [lnx]; omega)) only [stdh, stdx, ↓reduceIte, seval, e0, e1, e2, RS.num, encM, z5, Int.reduceAdd]
    exact ice_keeps hkk trivial (h3 hz fun hh => z5 (by cases m; simp only [mg0, Mg.mk.injEq] at hh; simp only; omega))
  simp (disch := first | omega | (simp only [lnx]; omega)) only [stdh, stdx, ↓reduceIte, seval, e0, e1, e2, RS.num, encM, z5, Int.reduceAdd]
  refine loop_V 100 cuneiformref17_Check.b2.eq_1 ?_
  simp (disch := first | omega | (simp only [lnx]; omega)) only [stdh, stdx, ↓reduceIte, seval]
  refine run_V0 200 ?_
  by_cases y3 : m.p.length = 0
  case neg =>
    have y3' : (0 : Int) < (m.p.length : Int) := by omega
    simp (disch := first | omega | (simp only [lnx]; omega)) only [stdh, stdx, ↓reduceIte, seval, e0, e1, e2, RS.has, encM, y3']
    exact ice_keeps hkk trivial (h3 hz fun hh => y3 (by have hc := congrArg (fun q : Mg => q.p.length) hh; exact hc))
  have y3' : ¬ (0 : Int) < (m.p.length : Int) := by omega
  by_cases y4 : m.c.length = 0
  case neg =>
    have y4' : (0 : Int) < (m.c.length : Int) := by omega
    simp (disch := first | omega | (simp only [lnx]; omega)) only [stdh, stdx, ↓reduceIte, seval, e0, e1, e2, RS.has, encM, y3', y4']
    exact ice_keeps hkk trivial (h3 hz fun hh => y4 (by have hc := congrArg (fun q : Mg => q.c.length) hh; exact hc))
  have y4' : ¬ (0 : Int) < (m.c.length : Int) := by omega
  by_cases y6 : m.g = ⟨#[]⟩
  case neg =>
    simp (disch := first | omega | (simp only [lnx]; omega)) only [stdh, stdx, ↓reduceIte, seval, e0, e1, e2, RS.has, encM, y3', y4', y6]
    exact ice_keeps hkk trivial (h3 hz fun hh => y6 (by have hc := congrArg (fun q : Mg => q.g) hh; exact hc))
  simp (disch := first | omega | (simp only [lnx]; omega)) only [stdh, stdx, ↓reduceIte, seval, e0, e1, e2, RS.has, encM, y3', y4', y6]
  refine ice_keeps hkk trivial (h0 hz ?_)
  replace y3 := List.eq_nil_of_length_eq_zero y3
  replace y4 := List.eq_nil_of_length_eq_zero y4
  obtain ⟨k, n0, n1, n2, n3, n4, n5, p, c, t, g⟩ := m
  simp only at z5 y3 y4 y6
  simp only [mg0, z5, y3, y4, y6]

theorem rcheck_ok (H : AHeap) (m : Mg) (hm : m.fine2) (Q : AVal → AHeap → Prop) (h : Q (.int .i64 (checkM m)) H) : FunOK Try.prog F.cuneiformref17_Check [.agg (encM m)] H Q := by
  by_cases h1 : m.k = 1
  · exact rcheck_1 H m h1 hm Q h
  by_cases h2 : m.k = 2
  · exact rcheck_2 H m h2 hm Q h
  by_cases h3 : m.k = 3
  · exact rcheck_3 H m h3 hm Q h
  by_cases h4 : m.k = 4
  · exact rcheck_4 H m h4 hm Q h
  by_cases h5 : m.k = 5
  · exact rcheck_5 H m h5 hm Q h
  have e : fieldsOf m.k = [] := by simp [fieldsOf, h1, h2, h3, h4, h5]
  have e9 : checkM m = 9 := by simp [checkM, e, chkGo]
  rw [e9] at h
  refine fun_iced cuneiformref17_Check_code fun _ => ?_
  refine fun_V 60 cuneiformref17_Check_code rfl ?_
  simp (disch := first | omega | (simp only [lnx]; omega)) only [stdh, stdx, ↓reduceIte, seval, cuneiformref17_Check, cuneiformref17_Check.body, encM]
  refine callK_fn (rall16_ok _ _ _ ?_)
  refine runL_V 60 ?_
  rw [e]
  simp (disch := first | omega | (simp only [lnx]; omega)) only [stdh, stdx, ↓reduceIte, seval]
  exact ice_none trivial h
set_option linter.unusedSimpArgs false
set_option linter.unusedVariables false

/-- What the two sides do to a field of version 2 is the same. -/
def Fld.ok4 (f : Fld) : Prop := (f.since = 1 ∨ f.since = 2) ∧ (f.since = 2 → (f.sort = 6 ∧ f.place = -1) ∨ (f.sort = 1 ∧ (f.place = 0 ∨ f.place = 1 ∨ f.place = 2 ∨ f.place = 3 ∨ f.place = 4 ∨ f.place = 5)))
instance (f : Fld) : Decidable f.ok4 := by unfold Fld.ok4; infer_instance
theorem fieldsOf_ok4 {k : Int} : ∀ f ∈ fieldsOf k, f.ok4 := by
  unfold fieldsOf
  split
  · decide +kernel
  split
  · decide +kernel
  split
  · decide +kernel
  split
  · decide +kernel
  split
  · decide +kernel
  · simp

abbrev rprojC : Ctx := ⟨F.cuneiformref17_Project, 61, [.cell 4 (some 11)], none⟩

set_option maxRecDepth 10000 in
set_option maxHeartbeats 4000000 in
theorem rproj_loop {l : List Fld} (hlen : l.length ≤ 6) (hok : ∀ f ∈ l, f.ok4) (m0 : Mg) (K : List AItem) (Q : AVal → AHeap → Prop) {H0 : AHeap} {c : Nat} (hc : H0.length ≤ c)
    (hQ : ∀ H r, Keeps H0 H → H[c]? = some (.cells (encM (projGo 1 l m0)) T.cuneiformref17_M) → H[c + 1]? = some (.cells mgz T.cuneiformref17_M) → rget r 2 = .ptr c 0 → rget r 4 = .ptr (c + 1) 0 → Run Try.prog rprojC K r H Q) :
    ∀ (n i : Nat) (H : AHeap) (m : Mg), l.length - i = n → i ≤ l.length → projGo 1 l m0 = projGo 1 (l.drop i) m → Keeps H0 H → H[c]? = some (.cells (encM m) T.cuneiformref17_M) → H[c + 1]? = some (.cells mgz T.cuneiformref17_M) →
    Rounds Try.prog rprojC cuneiformref17_Project.b1 [.inBlock 0] K [(2, .ptr c 0), (4, .ptr (c + 1) 0), (5, recs encF false l), (6, .int .i64 i)] H Q
  | n, i, H, m, h1, h2, h4, hk, hh1, hh2 => by
    refine loop_V 200 cuneiformref17_Project.b1.eq_1 ?_
    have hcl : c + 1 < H.length := (List.getElem?_eq_some_iff.1 hh2).1
    by_cases hil : i < l.length
    · rw [drop_getF hil, projGo] at h4
      have hfo := hok _ (getD_mem hil)
      have hld : ∀ H o, o < 7 → loadA H none (.sptr (recs encF false l) (i * 7 + o)) = some (True, (encF (l.getD i fld0)).getD o .junk) := fun H o ho => load_rec1 (enc := encF) (t := false) encF_len hil ho
      generalize hx : l.getD i fld0 = x at *
      have l1 : ∀ H, loadA H none (.sptr (recs encF false l) (i * 7 + 1)) = some (True, .int .i64 x.sort) := fun H => hld H 1 (by omega)
      have l2 : ∀ H, loadA H none (.sptr (recs encF false l) (i * 7 + 2)) = some (True, .int .i64 x.place) := fun H => hld H 2 (by omega)
      have l5 : ∀ H, loadA H none (.sptr (recs encF false l) (i * 7 + 5)) = some (True, .int .i64 x.since) := fun H => hld H 5 (by omega)
      have l6 : ∀ H, loadA H none (.sptr (recs encF false l) (i * 7 + 6)) = some (True, .int .i64 x.absent) := fun H => hld H 6 (by omega)
      clear hld
      have hcast : (i : Int) + 1 = ((i + 1 : Nat) : Int) := by omega
      obtain ⟨q | q, hs⟩ := hfo
      · rw [if_pos (.inr q)] at h4
        simp (disch := first | omega | (simp only [lnx]; omega)) only [stdh, stdx, ↓reduceIte, seval, l1, l2, l5, l6, q]
        rw [hcast]
        exact rproj_loop hlen hok m0 K Q hc hQ _ (i + 1) _ m rfl (by omega) h4 hk hh1 hh2
      · rw [if_neg (by omega)] at h4
        have hgo : ∀ y', projGo 1 l m0 = projGo 1 (l.drop (i + 1)) y' → Rounds Try.prog rprojC cuneiformref17_Project.b1 [.inBlock 0] K [(2, .ptr c 0), (4, .ptr (c + 1) 0), (5, recs encF false l), (6, .int .i64 (i + 1 : Nat))] (H.set c (.cells (encM y') T.cuneiformref17_M)) Q := fun y' h5 =>
          rproj_loop hlen hok m0 K Q hc hQ _ (i + 1) _ y' rfl (by omega) h5 (hk.set (by omega) _) (by rw [List.getElem?_set_self (by omega)]) (by rw [List.getElem?_set_ne (by omega)]; exact hh2)
        rcases hs q with ⟨s6, p⟩ | ⟨s1, p | p | p | p | p | p⟩
        · have e : projF m x = { m with g := ⟨#[]⟩ } := by simp [projF, withoutM, s6, p]
          rw [e] at h4
          simp (disch := first | omega | (simp only [lnx]; omega)) only [stdh, stdx, ↓reduceIte, seval, l1, l2, l5, l6, q, s6, p, hh1, encM]
          rw [hcast]
          exact hgo _ h4
        · have e : projF m x = { m with n0 := x.absent } := by simp [projF, withoutM, s1, p, Mg.put]
          rw [e] at h4
          simp (disch := first | omega | (simp only [lnx]; omega)) only [stdh, stdx, ↓reduceIte, seval, l1, l2, l5, l6, q, s1, p, hh1, encM, cuneiformref17_Project.d0]
          rw [hcast]
          exact hgo _ h4
        · have e : projF m x = { m with n1 := x.absent } := by simp [projF, withoutM, s1, p, Mg.put]
          rw [e] at h4
          simp (disch := first | omega | (simp only [lnx]; omega)) only [stdh, stdx, ↓reduceIte, seval, l1, l2, l5, l6, q, s1, p, hh1, encM, cuneiformref17_Project.d0]
          rw [hcast]
          exact hgo _ h4
        · have e : projF m x = { m with n2 := x.absent } := by simp [projF, withoutM, s1, p, Mg.put]
          rw [e] at h4
          simp (disch := first | omega | (simp only [lnx]; omega)) only [stdh, stdx, ↓reduceIte, seval, l1, l2, l5, l6, q, s1, p, hh1, encM, cuneiformref17_Project.d0]
          rw [hcast]
          exact hgo _ h4
        · have e : projF m x = { m with n3 := x.absent } := by simp [projF, withoutM, s1, p, Mg.put]
          rw [e] at h4
          simp (disch := first | omega | (simp only [lnx]; omega)) only [stdh, stdx, ↓reduceIte, seval, l1, l2, l5, l6, q, s1, p, hh1, encM, cuneiformref17_Project.d0]
          rw [hcast]
          exact hgo _ h4
        · have e : projF m x = { m with n4 := x.absent } := by simp [projF, withoutM, s1, p, Mg.put]
          rw [e] at h4
          simp (disch := first | omega | (simp only [lnx]; omega)) only [stdh, stdx, ↓reduceIte, seval, l1, l2, l5, l6, q, s1, p, hh1, encM, cuneiformref17_Project.d0]
          rw [hcast]
          exact hgo _ h4
        · have e : projF m x = { m with n5 := x.absent } := by simp [projF, withoutM, s1, p, Mg.put]
          rw [e] at h4
          simp (disch := first | omega | (simp only [lnx]; omega)) only [stdh, stdx, ↓reduceIte, seval, l1, l2, l5, l6, q, s1, p, hh1, encM, cuneiformref17_Project.d0]
          rw [hcast]
          exact hgo _ h4
    · rw [List.drop_eq_nil_of_le (by omega : l.length ≤ i), projGo] at h4
      simp (disch := first | omega | (simp only [lnx]; omega)) only [stdh, stdx, ↓reduceIte, seval]
      rw [h4] at hQ
      exact hQ H _ hk hh1 hh2 rfl rfl
  termination_by n => n

theorem projGo_ne {v : Int} (hv : v ≠ 1) : ∀ (l : List Fld) (m : Mg), projGo v l m = m
  | [], m => rfl
  | f :: fs, m => by rw [projGo, if_pos (.inl hv), projGo_ne hv fs m]

theorem rproject_ok (H : AHeap) (m : Mg) (v : Int) (Q : AVal → AHeap → Prop) (h : Q (.agg (encM (projectM m v))) H) : FunOK Try.prog F.cuneiformref17_Project [.agg (encM m), .int .i64 v] H Q := by
  refine fun_iced cuneiformref17_Project_code fun _ => ?_
  refine fun_V 100 cuneiformref17_Project_code rfl ?_
  unfold projectM at h
  by_cases hv : v = 1
  · subst hv
    simp (disch := first | omega | (simp only [lnx]; omega)) only [stdh, stdx, ↓reduceIte, seval, cuneiformref17_Project, cuneiformref17_Project.body, encM]
    refine callK_fn (rall16_ok _ _ _ ?_)
    refine runL_V 100 ?_
    simp (disch := first | omega | (simp only [lnx]; omega)) only [stdh, stdx, ↓reduceIte, seval]
    refine rproj_loop (fieldsOf_len m.k) (fun f hf => fieldsOf_ok4 f hf) m _ _ (H0 := H) (c := H.length) (by omega) ?_ _ 0 _ m rfl (by omega) rfl (keeps_append _ _) at_0 at_k
    intro H' r hk e1 e2 r2 r4
    refine run_V0 100 ?_
    generalize projGo 1 (fieldsOf m.k) m = y at *
    have hl : H.length + 1 < H'.length := (List.getElem?_eq_some_iff.1 e2).1
    simp (disch := first | omega | (simp only [lnx]; omega)) only [stdh, stdx, ↓reduceIte, seval, r2, r4, e1, e2, encM, mgz, List.getElem?_set_self]
    exact ice_keeps (hk.set (by omega) _) (closeds_encM y) h
  · rw [projGo_ne hv] at h
    simp (disch := first | omega | (simp only [lnx]; omega)) only [stdh, stdx, ↓reduceIte, seval, cuneiformref17_Project, cuneiformref17_Project.body, encM, hv]
    exact ice_none (closeds_encM m) h

/-- The message of at most so many points and cells. -/
def cutB (s : ByteArray) : ByteArray := if s.size ≤ 80 then s else s.extract 0 80
def cutM (m : Mg) : Mg := { m with p := m.p.take 40, c := m.c.take 40, t := cutB m.t, g := cutB m.g }
theorem cutB_size (s : ByteArray) : (cutB s).size ≤ 80 := by
  unfold cutB
  split
  · assumption
  · simp [ByteArray.size_extract]; omega
theorem cutM_small (m : Mg) : (cutM m).small := ⟨by simp [cutM]; omega, by simp [cutM]; omega⟩
theorem cutM_fine2 (m : Mg) : (cutM m).fine2 := ⟨by simp [cutM]; omega, by simp [cutM]; omega, by have := cutB_size m.t; simp only [cutM]; omega, by have := cutB_size m.g; simp only [cutM]; omega⟩
theorem Mg.fine2.fine {m : Mg} (h : m.fine2) : m.fine := by obtain ⟨a, b, c, d⟩ := h; exact ⟨by omega, by omega, by omega, by omega⟩

theorem bounds_to {n r : Nat} (h : r ≤ n) : bounds n n none (some (r : Int)) none = (True, 0, r, n) := by
  simp [bounds]; omega
theorem ext_cut (s : ByteArray) : s.extract 0 (min s.size 80) = cutB s := by
  unfold cutB
  by_cases h : s.size ≤ 80
  · rw [if_pos h, Nat.min_eq_left h]; exact ByteArray.extract_zero_size
  · rw [if_neg h, Nat.min_eq_right (by omega)]

set_option maxHeartbeats 1000000 in
theorem cut17_ok (H : AHeap) (m : Mg) (hm : m.fine) (Q : AVal → AHeap → Prop) (h : Q (.agg (encM (cutM m))) H) : FunOK Try.prog F.cuneiformlaw17_Cut [.agg (encM m)] H Q := by
  refine fun_iced cuneiformlaw17_Cut_code fun _ => ?_
  refine fun_V 40 cuneiformlaw17_Cut_code rfl ?_
  obtain ⟨g0, g1, g2, g3⟩ := hm
  have hmin : ∀ n : Nat, (if (40 : Int) < (n : Int) then 40 else (n : Int)) = ((min n 40 : Nat) : Int) := fun n => by split <;> omega
  have hmin8 : ∀ n : Nat, (if (80 : Int) < (n : Int) then 80 else (n : Int)) = ((min n 80 : Nat) : Int) := fun n => by split <;> omega
  have hs1 : sliceA 2 (recs encP false m.p) none (some ((min m.p.length 40 : Nat) : Int)) none = some (True, recs encP (false && decide ((min m.p.length 40 : Nat) = m.p.length)) (m.p.take (min m.p.length 40))) := slice_recs_to encP_len (by omega) (by omega)
  have hbt := fun n : Nat => bounds_to (n := n) (r := min n 80) (by omega)
  simp (disch := first | omega | (simp only [lnx]; omega)) only [stdh, stdx, ↓reduceIte, seval, cuneiformlaw17_Cut, cuneiformlaw17_Cut.body, cuneiformlaw17_Cut.d0, cuneiformlaw17_Cut.d1, encM, hmin, hmin8, hs1, hbt]
  refine runD_V 60 ?_
  simp (disch := first | omega | (simp only [lnx]; omega)) only [stdh, stdx, ↓reduceIte, seval, hbt, ext_cut, hmin8]
  have e : (⟨m.k, m.n0, m.n1, m.n2, m.n3, m.n4, m.n5, m.p.take (min m.p.length 40), m.c.take (min m.c.length 40), cutB m.t, cutB m.g⟩ : Mg) = cutM m := by
    simp [cutM, List.take_eq_take_iff, Nat.min_comm]
  have hcl := closeds_encM (L := H.length) (cutM m)
  rw [← e] at h hcl
  exact ice_none hcl h
set_option linter.unusedSimpArgs false
set_option linter.unusedVariables false

abbrev ofC : Ctx := ⟨F.cuneiformlaw17_Of, 42, [.cell 2 (some 11)], none⟩

theorem Own.ne_c {w : Nat} {el : TypeId} {B : Nat} {H : AHeap} {a : AVal} {n : Nat} {cs : List AVal} (h : Own w el B H a n cs) {c : Nat} {l : List AVal} {T : TypeId} (hc : H[c]? = some (.cells l T)) : (killA H a)[c]? = some (.cells l T) := by
  rw [killA_get (h.ne hc)]; exact hc

theorem keeps_kill {H0 H : AHeap} {w : Nat} {el : TypeId} {a : AVal} {n : Nat} {cs : List AVal} (hk : Keeps H0 H) (h : Own w el H0.length H a n cs) : Keeps H0 (killA H a) := by
  rcases h.is with ⟨rfl, _⟩ | ⟨m, hm, rfl, _⟩
  · exact hk
  · exact hk.set hm _

set_option maxRecDepth 10000 in
set_option maxHeartbeats 4000000 in
theorem of_loop {m : Mg} (hm : m.small) (K : List AItem) (Q : AVal → AHeap → Prop) {H0 : AHeap} {c : Nat} (hc : H0.length ≤ c)
    (hQ : ∀ H r a, Keeps H0 H → H[c + 1]? = some (.cells mgz T.cuneiformref17_M) → H[c + 2]? = some (.cells [.int .i64 m.k, .int .i64 m.n0, .int .i64 m.n1, .int .i64 m.n2, .int .i64 m.n3, .int .i64 m.n4, .int .i64 m.n5, a, ints false m.c, .str m.t, .str m.g] T.cuneiformref17_M) →
      Own 2 T.n2_int H0.length H a m.p.length (m.p.flatMap encP) → rget r 2 = .ptr (c + 1) 0 → rget r 3 = .ptr (c + 2) 0 → Run Try.prog ofC K r H Q) :
    ∀ (n i : Nat) (H : AHeap) (a : AVal), m.p.length - i = n → i ≤ m.p.length → Keeps H0 H → H[c]? = some (.cells (encM m) T.msg_Msg) → H[c + 1]? = some (.cells mgz T.cuneiformref17_M) → H[c + 2]? = some (.cells [.int .i64 m.k, .int .i64 m.n0, .int .i64 m.n1, .int .i64 m.n2, .int .i64 m.n3, .int .i64 m.n4, .int .i64 m.n5, a, ints false m.c, .str m.t, .str m.g] T.cuneiformref17_M) →
    Own 2 T.n2_int H0.length H a i ((m.p.take i).flatMap encP) →
    Rounds Try.prog ofC cuneiformlaw17_Of.b1 [.inBlock 0] K [(1, .ptr c 0), (2, .ptr (c + 1) 0), (3, .ptr (c + 2) 0), (4, .int .i64 (i : Nat))] H Q
  | n, i, H, a, h1, h2, hk, e0, e1, e2, ho => by
    refine loop_V 200 cuneiformlaw17_Of.b1.eq_1 ?_
    have hl : c + 2 < H.length := (List.getElem?_eq_some_iff.1 e2).1
    have hps := hm.p
    by_cases hi : i < m.p.length
    · have hld : ∀ H o, o < 2 → loadA H none (.sptr (recs encP false m.p) (i * 2 + o)) = some (True, (encP (m.p.getD i default)).getD o .junk) := fun H o ho => load_rec1 (enc := encP) (t := false) encP_len hi ho
      have hd : m.p.take (i + 1) = m.p.take i ++ [m.p.getD i default] := by rw [List.take_add_one]; simp [hi]
      generalize m.p.getD i default = x at *
      obtain ⟨x1, x2⟩ := x
      have l1 : ∀ H, loadA H none (.sptr (recs encP false m.p) (i * 2 + 0)) = some (True, .int .i64 x1) := fun H => hld H 0 (by omega)
      have l2 : ∀ H, loadA H none (.sptr (recs encP false m.p) (i * 2 + 1)) = some (True, .int .i64 x2) := fun H => hld H 1 (by omega)
      have hac := ho.cell
      have ho' : Own 2 T.n2_int H0.length (H ++ [ABlk.vec [.int .i64 x1, .int .i64 x2] T.n2_int 2]) a i ((m.p.take i).flatMap encP) := ho.keep (keeps_append _ _)
      obtain ⟨p, a1, hp⟩ := Own.append3 ho' (x := .slc H.length 0 1 2) (k := 1) (ys := [.int .i64 x1, .int .i64 x2]) 16 rfl (by simp [srcCells, view, content, at_0]) rfl (by omega) (by omega) (by omega) rfl
      have k0 := Own.ne_c ho' (c := c) ((at_low (by omega)).trans e0)
      have k1 := Own.ne_c ho' (c := c + 1) ((at_low (by omega)).trans e1)
      have k2 := Own.ne_c ho' (c := c + 2) ((at_low (by omega)).trans e2)
      have kk := keeps_kill (hk.push (ABlk.vec [.int .i64 x1, .int .i64 x2] T.n2_int 2)) ho'
      have kl := killA_len (H ++ [ABlk.vec [.int .i64 x1, .int .i64 x2] T.n2_int 2]) a
      generalize killA (H ++ [ABlk.vec [.int .i64 x1, .int .i64 x2] T.n2_int 2]) a = G at *
      rw [List.length_append, List.length_cons, List.length_nil] at kl
      simp (disch := first | omega | (simp only [lnx]; omega)) only [stdh, stdx, ↓reduceIte, seval, cuneiformlaw17_Of.d0, e0, e1, e2, encM, l1, l2, a1, hp, at_low, set_low, k2, List.getElem?_set_self]
      rw [show (i : Int) + 1 = ((i + 1 : Nat) : Int) by omega]
      refine of_loop hm K Q hc hQ _ (i + 1) _ (.slc (H.length + 1) 0 (i + 1) 2) rfl (by omega) ((kk.set (by omega) _).push _) ?_ ?_ ?_ ?_
      · rw [List.getElem?_append_left (by simp; omega), List.getElem?_set_ne (by omega)]; exact k0
      · rw [List.getElem?_append_left (by simp; omega), List.getElem?_set_ne (by omega)]; exact k1
      · rw [List.getElem?_append_left (by simp; omega), List.getElem?_set_self (by omega)]
      · refine ⟨?_, .inr ⟨H.length + 1, by have := hk.1; omega, rfl, ?_⟩⟩
        · rw [flatMap_length encP_len, List.length_take]; omega
        · rw [List.getElem?_append_right (by simp; omega), hd, List.flatMap_append]
          simp [kl, encP]
    · have hin : i = m.p.length := by omega
      subst hin
      rw [List.take_length] at ho
      simp (disch := first | omega | (simp only [lnx]; omega)) only [stdh, stdx, ↓reduceIte, seval, e0, encM]
      exact hQ H _ a hk e1 e2 ho rfl rfl
  termination_by n => n

theorem of17_ok (H : AHeap) (m : Mg) (hm : m.small) (Q : AVal → AHeap → Prop) (h : Q (.agg (encM m)) H) : FunOK Try.prog F.cuneiformlaw17_Of [.agg (encM m)] H Q := by
  refine fun_iced cuneiformlaw17_Of_code fun _ => ?_
  refine fun_V 100 cuneiformlaw17_Of_code rfl ?_
  simp (disch := first | omega | (simp only [lnx]; omega)) only [stdh, stdx, ↓reduceIte, seval, cuneiformlaw17_Of, cuneiformlaw17_Of.body, encM]
  refine of_loop hm _ _ (H0 := H) (c := H.length) (by omega) ?_ _ 0 _ .nils rfl (by omega) (keeps_append _ _) at_0 at_k at_k Own.nil
  intro H' r a hk e1 e2 ho r2 r3
  refine run_V0 100 ?_
  have hl : H.length + 2 < H'.length := (List.getElem?_eq_some_iff.1 e2).1
  have hac := ho.cell
  simp (disch := first | omega | (simp only [lnx]; omega)) only [stdh, stdx, ↓reduceIte, seval, r2, r3, e1, e2, mgz, hac.1, hac.2, List.getElem?_set_self]
  have ho' := ho.moved (H' := H'.set (H.length + 1) (ABlk.cells [.int .i64 m.k, .int .i64 m.n0, .int .i64 m.n1, .int .i64 m.n2, .int .i64 m.n3, .int .i64 m.n4, .int .i64 m.n5, a, ints false m.c, .str m.t, .str m.g] T.cuneiformref17_M)) fun x hx => by
    rw [List.getElem?_set_ne]
    intro hh
    subst hh
    exact ho.ne e1 hx
  have hcl := closeds_encM (L := H.length) m
  refine ice_agg ([(.int .i64 m.k, .int .i64 m.k), (.int .i64 m.n0, .int .i64 m.n0), (.int .i64 m.n1, .int .i64 m.n1), (.int .i64 m.n2, .int .i64 m.n2), (.int .i64 m.n3, .int .i64 m.n3), (.int .i64 m.n4, .int .i64 m.n4), (.int .i64 m.n5, .int .i64 m.n5), (a, recs encP false m.p), (ints false m.c, ints false m.c), (.str m.t, .str m.t), (.str m.g, .str m.g)]) (hk.set (n := H.length + 1) (by omega) _) ?_ h
  intro q hq
  simp only [List.mem_cons, List.not_mem_nil, or_false] at hq
  rcases hq with rfl | rfl | rfl | rfl | rfl | rfl | rfl | rfl | rfl | rfl | rfl
  all_goals first | exact Fin.same trivial | exact Fin.same (closed_ints _ _) | exact Fin.own ho' (by exact closed_pts false m.p)
end Go.Proofs.Ytlkadcahjifolaa
