/-
  FieldKindsSaid: whatever the word and the number, the law FieldKinds returns true, and the input reads as it did. No condition. By an AI agent. No person has read it.
-/
import Derived.Test.YtoingggmiplggaaKinds
import Derived.Test.YtoingggmiplggaaAm5
import Derived.OpenShut
import Derived.Test.YtoingggmiplggaaRows

namespace Go.Proofs.Ytoingggmiplggaa
open Go Go.Am
set_option linter.unusedSimpArgs false
set_option linter.unusedVariables false

/-- Where a loop that may end at one of the rounds ends. -/
def stopAt (id : Nat) (stop : Int) (j : Nat) : Option AJump := if (j : Int) = stop then some (.exit id) else none

theorem stop_none {id : Nat} {stop : Int} {j : Nat} (h : (j : Int) ≠ stop) : stopAt id stop j = none := by simp [stopAt, h]
theorem stop_some {id : Nat} {stop : Int} {j : Nat} (h : (j : Int) = stop) : stopAt id stop j = some (.exit id) := by simp [stopAt, h]

theorem kindOf_cases (w : ByteArray) : (kindOf w = 0 ∧ w ≠ wordOf 1 ∧ w ≠ wordOf 2 ∧ w ≠ wordOf 3 ∧ w ≠ wordOf 4 ∧ w ≠ wordOf 5) ∨ (1 ≤ kindOf w ∧ kindOf w ≤ 5 ∧ wordOf (kindOf w : Int) = w) := by
  unfold kindOf
  by_cases h1 : w = wordOf 1
  · rw [if_pos h1]; right; exact ⟨by omega, by omega, h1.symm⟩
  rw [if_neg h1]
  by_cases h2 : w = wordOf 2
  · rw [if_pos h2]; right; exact ⟨by omega, by omega, h2.symm⟩
  rw [if_neg h2]
  by_cases h3 : w = wordOf 3
  · rw [if_pos h3]; right; exact ⟨by omega, by omega, h3.symm⟩
  rw [if_neg h3]
  by_cases h4 : w = wordOf 4
  · rw [if_pos h4]; right; exact ⟨by omega, by omega, h4.symm⟩
  rw [if_neg h4]
  by_cases h5 : w = wordOf 5
  · rw [if_pos h5]; right; exact ⟨by omega, by omega, h5.symm⟩
  rw [if_neg h5]
  exact .inl ⟨rfl, h1, h2, h3, h4, h5⟩

theorem kindslaw_ok (word : ByteArray) {stop : Int} (h0 : -9223372036854775808 ≤ stop) (h1 : stop < 9223372036854775808) :
    FunOK Try.prog F.cuneiformlaw16_FieldKinds [.str word, .int .i64 stop] [] fun av _ => av = .bool true := by
  refine fun_V 60 cuneiformlaw16_FieldKinds_code rfl ?_
  simp (disch := first | omega | (simp only [List.length_append, List.length_cons, List.length_nil, List.length_set, List.length_map, List.length_take, List.length_drop]; omega)) only [stdh, ↓reduceIte, Nat.reduceEqDiff, Int.reduceToNat, Int.reducePow, Nat.reduceAdd, Nat.reduceLeDiff, Nat.reduceMul, Nat.reduceBEq, reduceCtorEq, cuneiformlaw16_FieldKinds, cuneiformlaw16_FieldKinds.body]
  refine callK_fn (kinds_ok _ _ ?_)
  refine runL_V 60 ?_
  simp (disch := first | omega | (simp only [List.length_append, List.length_cons, List.length_nil, List.length_set, List.length_map, List.length_take, List.length_drop]; omega)) only [stdh, ↓reduceIte, Nat.reduceEqDiff, Int.reduceToNat, Int.reducePow, Nat.reduceAdd, Nat.reduceLeDiff, Nat.reduceMul, Nat.reduceBEq, reduceCtorEq, eqA]
  generalize hH : [ABlk.cells [AVal.int IntKind.i64 stop] T.int, ABlk.cells [AVal.bool false] T.bool, ABlk.cells [AVal.int IntKind.i64 0] T.int] = H5
  have e0 : H5[0]? = some (.cells [.int .i64 stop] T.int) := by rw [← hH]; rfl
  have e1 : H5[1]? = some (.cells [.bool false] T.bool) := by rw [← hH]; rfl
  have e2 : H5[2]? = some (.cells [.int .i64 ((0 : Nat) : Int)] T.int) := by rw [← hH]; rfl
  have e5 : H5.length = 3 := by rw [← hH]; rfl
  clear hH
  refine range_vars (g := F.field_Kinds_1) (first := []) (captured := []) rfl (by intro n hn; cases hn) (item := kindArgs) (len := 5) (fun j => rfl) [(2, T.int, fun j => .int .i64 (j : Nat))] (fun _ => none) (vars_cons e2 vars_nil) ?_ (fun _ _ _ => kinds1_iter) ?_ (fun _ _ _ _ _ _ hh => by cases hh)
  · intro a' b' j H1 hj _ hl hk hrec hv
    have q2 := hv.get (c := 2) (T := T.int) (f := fun j => .int .i64 (j : Nat)) (by simp)
    have hkw : kindOf (wordOf ((j : Int) + 1)) = j + 1 := kindOf_word (j := j) hj (by rw [show ((j + 1 : Nat) : Int) = (j : Int) + 1 by omega])
    refine run_V0 60 ?_
    simp (disch := first | omega | (simp only [List.length_append, List.length_cons, List.length_nil, List.length_set, List.length_map, List.length_take, List.length_drop]; omega)) only [stdh, ↓reduceIte, Nat.reduceEqDiff, Int.reduceToNat, Int.reducePow, Nat.reduceAdd, Nat.reduceLeDiff, Nat.reduceMul, Nat.reduceBEq, reduceCtorEq, cuneiformlaw16_FieldKinds.a0, cuneiformlaw16_FieldKinds.b0, hrec, q2, kindArgs, List.zip_cons_cons, List.zip_nil_left, List.reverse_cons, List.reverse_nil, List.getElem?_set_self, List.getElem?_set_ne, Int.natCast_add, Int.cast_ofNat_Int]
    refine callK_fn (rword_ok _ _ _ ?_)
    refine runL_V 60 ?_
    simp (disch := first | omega | (simp only [List.length_append, List.length_cons, List.length_nil, List.length_set, List.length_map, List.length_take, List.length_drop]; omega)) only [stdh, ↓reduceIte, Nat.reduceEqDiff, Int.reduceToNat, Int.reducePow, Nat.reduceAdd, Nat.reduceLeDiff, Nat.reduceMul, Nat.reduceBEq, reduceCtorEq, Int.natCast_add, Int.cast_ofNat_Int]
    refine callK_fn (kind_ok _ _ _ ?_)
    rw [hkw]
    refine runL_V 60 ?_
    simp (disch := first | omega | (simp only [List.length_append, List.length_cons, List.length_nil, List.length_set, List.length_map, List.length_take, List.length_drop]; omega)) only [stdh, ↓reduceIte, Nat.reduceEqDiff, Int.reduceToNat, Int.reducePow, Nat.reduceAdd, Nat.reduceLeDiff, Nat.reduceMul, Nat.reduceBEq, reduceCtorEq, Int.natCast_add, Int.cast_ofNat_Int]
    refine round_fin (n := H5.length) (L := lrec _ _ _ a' b' .busy none) rfl (by simp (disch := first | omega | (simp only [List.length_append, List.length_cons, List.length_nil, List.length_set, List.length_map, List.length_take, List.length_drop]; omega)) only [List.getElem?_set_ne, List.getElem?_set_self, List.length_set, ne_eq, not_false_eq_true]; rfl) ?_
    refine varsQ_mk rfl (by (first | omega | (simp only [List.length_append, List.length_cons, List.length_nil, List.length_set, List.length_map, List.length_take, List.length_drop]; omega))) (fun m m1 m2 m3 => ?_) (vars_cons ?_ vars_nil) (by simp (disch := first | omega | (simp only [List.length_append, List.length_cons, List.length_nil, List.length_set, List.length_map, List.length_take, List.length_drop]; omega)) only [List.getElem?_set_ne, List.getElem?_set_self, List.length_set, ne_eq, not_false_eq_true]; rfl)
    · simp only [List.map_cons, List.map_nil, List.mem_cons, List.not_mem_nil, or_false] at m3
      simp (disch := first | omega | (simp only [List.length_append, List.length_cons, List.length_nil, List.length_set, List.length_map, List.length_take, List.length_drop]; omega)) only [List.getElem?_set_ne, List.getElem?_set_self, List.length_set, ne_eq, not_false_eq_true]
    · show _ = some (ABlk.cells [AVal.int .i64 ((j + 1 : Nat) : Int)] T.int)
      simp (disch := first | omega | (simp only [List.length_append, List.length_cons, List.length_nil, List.length_set, List.length_map, List.length_take, List.length_drop]; omega)) only [List.getElem?_set_ne, List.getElem?_set_self, List.length_set, ne_eq, not_false_eq_true]; rfl
  · intro H' hl hk _ hv
    replace e0 := (hk 0 (by omega) (by simp)).trans e0
    replace e1 := (hk 1 (by omega) (by simp)).trans e1
    have e4 := hv.get (c := 2) (T := T.int) (f := fun j => .int .i64 (j : Nat)) (by simp)
    have hl' : 3 < H'.length := by omega
    clear hk hv hl e5 e2
    clear H5
    refine run_V0 60 ?_
    simp (disch := first | omega | (simp only [List.length_append, List.length_cons, List.length_nil, List.length_set, List.length_map, List.length_take, List.length_drop]; omega)) only [stdh, ↓reduceIte, Nat.reduceEqDiff, Int.reduceToNat, Int.reducePow, Nat.reduceAdd, Nat.reduceLeDiff, Nat.reduceMul, Nat.reduceBEq, reduceCtorEq]
    refine callK_fn (kinds_ok _ _ ?_)
    refine runL_V 60 ?_
    simp (disch := first | omega | (simp only [List.length_append, List.length_cons, List.length_nil, List.length_set, List.length_map, List.length_take, List.length_drop]; omega)) only [stdh, ↓reduceIte, Nat.reduceEqDiff, Int.reduceToNat, Int.reducePow, Nat.reduceAdd, Nat.reduceLeDiff, Nat.reduceMul, Nat.reduceBEq, reduceCtorEq, eqA]
    have g0 : (H' ++ [ABlk.cells [AVal.int IntKind.i64 0] T.int])[0]? = some (.cells [.int .i64 stop] T.int) := (at_low (by omega)).trans e0
    have g1 : (H' ++ [ABlk.cells [AVal.int IntKind.i64 0] T.int])[1]? = some (.cells [.bool false] T.bool) := (at_low (by omega)).trans e1
    have g4 : (H' ++ [ABlk.cells [AVal.int IntKind.i64 0] T.int])[2]? = some (.cells [.int .i64 5] T.int) := (at_low (by omega)).trans e4
    have g5 : (H' ++ [ABlk.cells [AVal.int IntKind.i64 0] T.int])[H'.length]? = some (.cells [.int .i64 ((0 : Nat) : Int)] T.int) := at_0
    have gl : (H' ++ [ABlk.cells [AVal.int IntKind.i64 0] T.int]).length = H'.length + 1 := by simp
    generalize H' ++ [ABlk.cells [AVal.int IntKind.i64 0] T.int] = H6 at *
    generalize H'.length = v at *
    clear e0 e1 e4
    refine range_vars (g := F.field_Kinds_1) (first := []) (captured := []) rfl (by intro n hn; cases hn) (item := kindArgs) (len := 5) (fun j => rfl) [(v, T.int, fun j => .int .i64 (j : Nat))] (stopAt 2 stop) (vars_cons g5 vars_nil) ?_ (fun _ _ _ => kinds1_iter) ?_ ?_
    · intro a' b' j H1 hj hst hl hk hrec hv
      have q0 := (hk 0 (by omega) (by simp; omega)).trans g0
      have q5 := hv.get (c := v) (T := T.int) (f := fun j => .int .i64 (j : Nat)) (by simp)
      refine run_V0 60 ?_
      by_cases hs : (j : Int) = stop
      · rw [stop_some hs]
        simp (disch := first | omega | (simp only [List.length_append, List.length_cons, List.length_nil, List.length_set, List.length_map, List.length_take, List.length_drop]; omega)) only [stdh, ↓reduceIte, Nat.reduceEqDiff, Int.reduceToNat, Int.reducePow, Nat.reduceAdd, Nat.reduceLeDiff, Nat.reduceMul, Nat.reduceBEq, reduceCtorEq, cuneiformlaw16_FieldKinds.a1, cuneiformlaw16_FieldKinds.b1, hrec, q0, q5, kindArgs, List.zip_cons_cons, List.zip_nil_left, List.reverse_cons, List.reverse_nil, List.getElem?_set_self, List.getElem?_set_ne, hs]
        refine exit_fin (n := H6.length) (L := lrec _ _ _ a' b' .busy none) rfl (by simp (disch := first | omega | (simp only [List.length_append, List.length_cons, List.length_nil, List.length_set, List.length_map, List.length_take, List.length_drop]; omega)) only [List.getElem?_set_ne, List.getElem?_set_self, List.length_set, ne_eq, not_false_eq_true]; rfl) ?_
        refine varsQ_mk rfl (by (first | omega | (simp only [List.length_append, List.length_cons, List.length_nil, List.length_set, List.length_map, List.length_take, List.length_drop]; omega))) (fun m m1 m2 m3 => ?_) (vars_cons ?_ vars_nil) (by simp (disch := first | omega | (simp only [List.length_append, List.length_cons, List.length_nil, List.length_set, List.length_map, List.length_take, List.length_drop]; omega)) only [List.getElem?_set_ne, List.getElem?_set_self, List.length_set, ne_eq, not_false_eq_true]; rfl)
        · simp only [List.map_cons, List.map_nil, List.mem_cons, List.not_mem_nil, or_false] at m3
          simp (disch := first | omega | (simp only [List.length_append, List.length_cons, List.length_nil, List.length_set, List.length_map, List.length_take, List.length_drop]; omega)) only [List.getElem?_set_ne, List.getElem?_set_self, List.length_set, ne_eq, not_false_eq_true]
        · show _ = some (ABlk.cells [AVal.int .i64 ((j + 1 : Nat) : Int)] T.int)
          simp (disch := first | omega | (simp only [List.length_append, List.length_cons, List.length_nil, List.length_set, List.length_map, List.length_take, List.length_drop]; omega)) only [List.getElem?_set_ne, List.getElem?_set_self, List.length_set, ne_eq, not_false_eq_true]; rw [← hs]; rfl
      · rw [stop_none hs]
        simp (disch := first | omega | (simp only [List.length_append, List.length_cons, List.length_nil, List.length_set, List.length_map, List.length_take, List.length_drop]; omega)) only [stdh, ↓reduceIte, Nat.reduceEqDiff, Int.reduceToNat, Int.reducePow, Nat.reduceAdd, Nat.reduceLeDiff, Nat.reduceMul, Nat.reduceBEq, reduceCtorEq, cuneiformlaw16_FieldKinds.a1, cuneiformlaw16_FieldKinds.b1, hrec, q0, q5, kindArgs, List.zip_cons_cons, List.zip_nil_left, List.reverse_cons, List.reverse_nil, List.getElem?_set_self, List.getElem?_set_ne, hs]
        refine round_fin (n := H6.length) (L := lrec _ _ _ a' b' .busy none) rfl (by simp (disch := first | omega | (simp only [List.length_append, List.length_cons, List.length_nil, List.length_set, List.length_map, List.length_take, List.length_drop]; omega)) only [List.getElem?_set_ne, List.getElem?_set_self, List.length_set, ne_eq, not_false_eq_true]; rfl) ?_
        refine varsQ_mk rfl (by (first | omega | (simp only [List.length_append, List.length_cons, List.length_nil, List.length_set, List.length_map, List.length_take, List.length_drop]; omega))) (fun m m1 m2 m3 => ?_) (vars_cons ?_ vars_nil) (by simp (disch := first | omega | (simp only [List.length_append, List.length_cons, List.length_nil, List.length_set, List.length_map, List.length_take, List.length_drop]; omega)) only [List.getElem?_set_ne, List.getElem?_set_self, List.length_set, ne_eq, not_false_eq_true]; rfl)
        · simp only [List.map_cons, List.map_nil, List.mem_cons, List.not_mem_nil, or_false] at m3
          simp (disch := first | omega | (simp only [List.length_append, List.length_cons, List.length_nil, List.length_set, List.length_map, List.length_take, List.length_drop]; omega)) only [List.getElem?_set_ne, List.getElem?_set_self, List.length_set, ne_eq, not_false_eq_true]
        · show _ = some (ABlk.cells [AVal.int .i64 ((j + 1 : Nat) : Int)] T.int)
          simp (disch := first | omega | (simp only [List.length_append, List.length_cons, List.length_nil, List.length_set, List.length_map, List.length_take, List.length_drop]; omega)) only [List.getElem?_set_ne, List.getElem?_set_self, List.length_set, ne_eq, not_false_eq_true]; rfl
    · intro H7 hl hk hst hv
      have q0 := (hk 0 (by omega) (by simp; omega)).trans g0
      have q1 := (hk 1 (by omega) (by simp; omega)).trans g1
      have q4 := (hk 2 (by omega) (by simp; omega)).trans g4
      have q5 := hv.get (c := v) (T := T.int) (f := fun j => .int .i64 (j : Nat)) (by simp)
      have hns : ¬ (0 ≤ stop ∧ stop < 5) := fun hh => by
        have := hst stop.toNat (by omega)
        rw [stop_some (by omega)] at this
        cases this
      refine run_V0 60 ?_
      by_cases hp : 0 ≤ stop
      · have hq : ¬ stop < (5 : Int) := by omega
        simp (disch := first | omega | (simp only [List.length_append, List.length_cons, List.length_nil, List.length_set, List.length_map, List.length_take, List.length_drop]; omega)) only [stdh, ↓reduceIte, Nat.reduceEqDiff, Int.reduceToNat, Int.reducePow, Nat.reduceAdd, Nat.reduceLeDiff, Nat.reduceMul, Nat.reduceBEq, reduceCtorEq, q0, q1, q4, q5, hp, hq]
        refine callK_fn (kind_ok _ _ _ ?_)
        refine runL_V 60 ?_
        simp (disch := first | omega | (simp only [List.length_append, List.length_cons, List.length_nil, List.length_set, List.length_map, List.length_take, List.length_drop]; omega)) only [stdh, ↓reduceIte, Nat.reduceEqDiff, Int.reduceToNat, Int.reducePow, Nat.reduceAdd, Nat.reduceLeDiff, Nat.reduceMul, Nat.reduceBEq, reduceCtorEq]
        refine callK_fn (known16_ok _ _ ?_)
        refine runL_V 60 ?_
        rcases kindOf_cases word with ⟨k0, k1, k2, k3, k4, k5⟩ | ⟨k1, k2, k3⟩
        · rw [k0]
          have k1' : word ≠ ⟨#[109, 111, 118, 101]⟩ := by simpa [wordOf] using k1
          have k2' : word ≠ ⟨#[104, 111, 108, 100]⟩ := by simpa [wordOf] using k2
          have k3' : word ≠ ⟨#[103, 114, 97, 110, 116]⟩ := by simpa [wordOf] using k3
          have k4' : word ≠ ⟨#[112, 111, 115, 101]⟩ := by simpa [wordOf] using k4
          have k5' : word ≠ ⟨#[102, 97, 117, 108, 116]⟩ := by simpa [wordOf] using k5
          simp (disch := first | omega | (simp only [List.length_append, List.length_cons, List.length_nil, List.length_set, List.length_map, List.length_take, List.length_drop]; omega)) only [stdh, ↓reduceIte, Nat.reduceEqDiff, Int.reduceToNat, Int.reducePow, Nat.reduceAdd, Nat.reduceLeDiff, Nat.reduceMul, Nat.reduceBEq, reduceCtorEq, q0, q1, q4, q5, Int.natCast_zero, Int.cast_ofNat_Int, k1', k2', k3', k4', k5', List.getElem?_set_self]
          repeat (first | (refine runL_V 60 ?_; simp (disch := first | omega | (simp only [List.length_append, List.length_cons, List.length_nil, List.length_set, List.length_map, List.length_take, List.length_drop]; omega)) only [stdh, ↓reduceIte, Nat.reduceEqDiff, Int.reduceToNat, Int.reducePow, Nat.reduceAdd, Nat.reduceLeDiff, Nat.reduceMul, Nat.reduceBEq, reduceCtorEq, q0, q1, q4, q5, k1', k2', k3', k4', k5', List.getElem?_set_self]) | (refine run_V0 60 ?_; simp (disch := first | omega | (simp only [List.length_append, List.length_cons, List.length_nil, List.length_set, List.length_map, List.length_take, List.length_drop]; omega)) only [stdh, ↓reduceIte, Nat.reduceEqDiff, Int.reduceToNat, Int.reducePow, Nat.reduceAdd, Nat.reduceLeDiff, Nat.reduceMul, Nat.reduceBEq, reduceCtorEq, q0, q1, q4, q5, k1', k2', k3', k4', k5', List.getElem?_set_self]))
        · simp (disch := first | omega | (simp only [List.length_append, List.length_cons, List.length_nil, List.length_set, List.length_map, List.length_take, List.length_drop]; omega)) only [stdh, ↓reduceIte, Nat.reduceEqDiff, Int.reduceToNat, Int.reducePow, Nat.reduceAdd, Nat.reduceLeDiff, Nat.reduceMul, Nat.reduceBEq, reduceCtorEq, q0, q1, q4, q5]
          refine callK_fn (rword_ok _ _ _ ?_)
          rw [k3]
          refine runL_V 100 ?_
          simp (disch := first | omega | (simp only [List.length_append, List.length_cons, List.length_nil, List.length_set, List.length_map, List.length_take, List.length_drop]; omega)) only [stdh, ↓reduceIte, Nat.reduceEqDiff, Int.reduceToNat, Int.reducePow, Nat.reduceAdd, Nat.reduceLeDiff, Nat.reduceMul, Nat.reduceBEq, reduceCtorEq, q0, q1, q4, q5, List.getElem?_set_self]
      · simp (disch := first | omega | (simp only [List.length_append, List.length_cons, List.length_nil, List.length_set, List.length_map, List.length_take, List.length_drop]; omega)) only [stdh, ↓reduceIte, Nat.reduceEqDiff, Int.reduceToNat, Int.reducePow, Nat.reduceAdd, Nat.reduceLeDiff, Nat.reduceMul, Nat.reduceBEq, reduceCtorEq, q0, q1, q4, q5, hp]
        refine callK_fn (kind_ok _ _ _ ?_)
        refine runL_V 60 ?_
        simp (disch := first | omega | (simp only [List.length_append, List.length_cons, List.length_nil, List.length_set, List.length_map, List.length_take, List.length_drop]; omega)) only [stdh, ↓reduceIte, Nat.reduceEqDiff, Int.reduceToNat, Int.reducePow, Nat.reduceAdd, Nat.reduceLeDiff, Nat.reduceMul, Nat.reduceBEq, reduceCtorEq]
        refine callK_fn (known16_ok _ _ ?_)
        refine runL_V 60 ?_
        rcases kindOf_cases word with ⟨k0, k1, k2, k3, k4, k5⟩ | ⟨k1, k2, k3⟩
        · rw [k0]
          have k1' : word ≠ ⟨#[109, 111, 118, 101]⟩ := by simpa [wordOf] using k1
          have k2' : word ≠ ⟨#[104, 111, 108, 100]⟩ := by simpa [wordOf] using k2
          have k3' : word ≠ ⟨#[103, 114, 97, 110, 116]⟩ := by simpa [wordOf] using k3
          have k4' : word ≠ ⟨#[112, 111, 115, 101]⟩ := by simpa [wordOf] using k4
          have k5' : word ≠ ⟨#[102, 97, 117, 108, 116]⟩ := by simpa [wordOf] using k5
          simp (disch := first | omega | (simp only [List.length_append, List.length_cons, List.length_nil, List.length_set, List.length_map, List.length_take, List.length_drop]; omega)) only [stdh, ↓reduceIte, Nat.reduceEqDiff, Int.reduceToNat, Int.reducePow, Nat.reduceAdd, Nat.reduceLeDiff, Nat.reduceMul, Nat.reduceBEq, reduceCtorEq, q0, q1, q4, q5, Int.natCast_zero, Int.cast_ofNat_Int, k1', k2', k3', k4', k5', List.getElem?_set_self]
          repeat (first | (refine runL_V 60 ?_; simp (disch := first | omega | (simp only [List.length_append, List.length_cons, List.length_nil, List.length_set, List.length_map, List.length_take, List.length_drop]; omega)) only [stdh, ↓reduceIte, Nat.reduceEqDiff, Int.reduceToNat, Int.reducePow, Nat.reduceAdd, Nat.reduceLeDiff, Nat.reduceMul, Nat.reduceBEq, reduceCtorEq, q0, q1, q4, q5, k1', k2', k3', k4', k5', List.getElem?_set_self]) | (refine run_V0 60 ?_; simp (disch := first | omega | (simp only [List.length_append, List.length_cons, List.length_nil, List.length_set, List.length_map, List.length_take, List.length_drop]; omega)) only [stdh, ↓reduceIte, Nat.reduceEqDiff, Int.reduceToNat, Int.reducePow, Nat.reduceAdd, Nat.reduceLeDiff, Nat.reduceMul, Nat.reduceBEq, reduceCtorEq, q0, q1, q4, q5, k1', k2', k3', k4', k5', List.getElem?_set_self]))
        · simp (disch := first | omega | (simp only [List.length_append, List.length_cons, List.length_nil, List.length_set, List.length_map, List.length_take, List.length_drop]; omega)) only [stdh, ↓reduceIte, Nat.reduceEqDiff, Int.reduceToNat, Int.reducePow, Nat.reduceAdd, Nat.reduceLeDiff, Nat.reduceMul, Nat.reduceBEq, reduceCtorEq, q0, q1, q4, q5]
          refine callK_fn (rword_ok _ _ _ ?_)
          rw [k3]
          refine runL_V 100 ?_
          simp (disch := first | omega | (simp only [List.length_append, List.length_cons, List.length_nil, List.length_set, List.length_map, List.length_take, List.length_drop]; omega)) only [stdh, ↓reduceIte, Nat.reduceEqDiff, Int.reduceToNat, Int.reducePow, Nat.reduceAdd, Nat.reduceLeDiff, Nat.reduceMul, Nat.reduceBEq, reduceCtorEq, q0, q1, q4, q5, List.getElem?_set_self]
    · intro ap j H7 hl hk hj hs hst hv
      have q0 := (hk 0 (by omega) (by simp; omega)).trans g0
      have q1 := (hk 1 (by omega) (by simp; omega)).trans g1
      have q4 := (hk 2 (by omega) (by simp; omega)).trans g4
      have q5 := hv.get (c := v) (T := T.int) (f := fun j => .int .i64 (j : Nat)) (by simp)
      have hsj : (j : Int) = stop := by
        refine Classical.byContradiction fun hn => ?_
        rw [stop_none hn] at hs; cases hs
      rw [stop_some hsj] at hs
      cases hs
      have hp : 0 ≤ stop := by omega
      have hq : stop < (5 : Int) := by omega
      refine run_V0 60 ?_
      simp (disch := first | omega | (simp only [List.length_append, List.length_cons, List.length_nil, List.length_set, List.length_map, List.length_take, List.length_drop]; omega)) only [stdh, ↓reduceIte, Nat.reduceEqDiff, Int.reduceToNat, Int.reducePow, Nat.reduceAdd, Nat.reduceLeDiff, Nat.reduceMul, Nat.reduceBEq, reduceCtorEq, jumpItems, q0, q1, q4, q5, hp, hq]
      refine callK_fn (kind_ok _ _ _ ?_)
      refine runL_V 60 ?_
      simp (disch := first | omega | (simp only [List.length_append, List.length_cons, List.length_nil, List.length_set, List.length_map, List.length_take, List.length_drop]; omega)) only [stdh, ↓reduceIte, Nat.reduceEqDiff, Int.reduceToNat, Int.reducePow, Nat.reduceAdd, Nat.reduceLeDiff, Nat.reduceMul, Nat.reduceBEq, reduceCtorEq]
      refine callK_fn (known16_ok _ _ ?_)
      refine runL_V 60 ?_
      rcases kindOf_cases word with ⟨k0, k1, k2, k3, k4, k5⟩ | ⟨k1, k2, k3⟩
      · rw [k0]
        have k1' : word ≠ ⟨#[109, 111, 118, 101]⟩ := by simpa [wordOf] using k1
        have k2' : word ≠ ⟨#[104, 111, 108, 100]⟩ := by simpa [wordOf] using k2
        have k3' : word ≠ ⟨#[103, 114, 97, 110, 116]⟩ := by simpa [wordOf] using k3
        have k4' : word ≠ ⟨#[112, 111, 115, 101]⟩ := by simpa [wordOf] using k4
        have k5' : word ≠ ⟨#[102, 97, 117, 108, 116]⟩ := by simpa [wordOf] using k5
        simp (disch := first | omega | (simp only [List.length_append, List.length_cons, List.length_nil, List.length_set, List.length_map, List.length_take, List.length_drop]; omega)) only [stdh, ↓reduceIte, Nat.reduceEqDiff, Int.reduceToNat, Int.reducePow, Nat.reduceAdd, Nat.reduceLeDiff, Nat.reduceMul, Nat.reduceBEq, reduceCtorEq, q0, q1, q4, q5, Int.natCast_zero, Int.cast_ofNat_Int, k1', k2', k3', k4', k5', List.getElem?_set_self]
        repeat (first | (refine runL_V 60 ?_; simp (disch := first | omega | (simp only [List.length_append, List.length_cons, List.length_nil, List.length_set, List.length_map, List.length_take, List.length_drop]; omega)) only [stdh, ↓reduceIte, Nat.reduceEqDiff, Int.reduceToNat, Int.reducePow, Nat.reduceAdd, Nat.reduceLeDiff, Nat.reduceMul, Nat.reduceBEq, reduceCtorEq, q0, q1, q4, q5, k1', k2', k3', k4', k5', List.getElem?_set_self]) | (refine run_V0 60 ?_; simp (disch := first | omega | (simp only [List.length_append, List.length_cons, List.length_nil, List.length_set, List.length_map, List.length_take, List.length_drop]; omega)) only [stdh, ↓reduceIte, Nat.reduceEqDiff, Int.reduceToNat, Int.reducePow, Nat.reduceAdd, Nat.reduceLeDiff, Nat.reduceMul, Nat.reduceBEq, reduceCtorEq, q0, q1, q4, q5, k1', k2', k3', k4', k5', List.getElem?_set_self]))
      · simp (disch := first | omega | (simp only [List.length_append, List.length_cons, List.length_nil, List.length_set, List.length_map, List.length_take, List.length_drop]; omega)) only [stdh, ↓reduceIte, Nat.reduceEqDiff, Int.reduceToNat, Int.reducePow, Nat.reduceAdd, Nat.reduceLeDiff, Nat.reduceMul, Nat.reduceBEq, reduceCtorEq, q0, q1, q4, q5]
        refine callK_fn (rword_ok _ _ _ ?_)
        rw [k3]
        refine runL_V 100 ?_
        simp (disch := first | omega | (simp only [List.length_append, List.length_cons, List.length_nil, List.length_set, List.length_map, List.length_take, List.length_drop]; omega)) only [stdh, ↓reduceIte, Nat.reduceEqDiff, Int.reduceToNat, Int.reducePow, Nat.reduceAdd, Nat.reduceLeDiff, Nat.reduceMul, Nat.reduceBEq, reduceCtorEq, q0, q1, q4, q5, List.getElem?_set_self]
end Go.Proofs.Ytoingggmiplggaa

namespace Go.Proofs.Ytoingggmiplggaa.fieldKinds
open Go Go.Am Go.ChangeShapes Go.WideShapes Go.ChangeAt Go.RowKit
set_option linter.unusedVariables false

theorem own : ownKnob Try.prog.godebug = none := by kernel_rfl
theorem laidOut : laidOutB Try.prog = true := by kernel_rfl

set_option maxRecDepth 100000 in
theorem lifted (os : Os) (started : os.Started) (H : Type) (enc : TypeId × Value → H) :
    ReturnsInHanded {} Try.checked os F.cuneiformlaw16_FieldKinds .any (Rows.fieldKindsSpec.pre6 enc Try.prog Try.f6 Rows.fieldKindsRow.domain false) (Rows.fieldKindsSpec.post enc Try.prog Try.f6 false true false false) := by
  refine returnsInHanded_of_change (C := Try.checked) own started (by kernel_rfl) Try.func6
    (ChangeSpec.witness6 (enc := enc) (C := Try.checked) false ⟨#[], #[.string ⟨#[]⟩, .int .i64 0], []⟩ 8 (by kernel_rfl) (by kernel_rfl) (by kernel_rfl) (by kernel_rfl)) ?_
  intro W base args ds gs before hval hW hcnd _
  refine law_calls (shs := [.str, .int .i64]) (tb := 4) laidOut (by kernel_rfl) ?_ (by kernel_rfl) Try.underlying4 rfl ?_ ?_ hval hW
  · intro t ht
    have : ∀ t ∈ Try.f6.params.toList, (Try.prog.readableRec t && decide (t < Try.prog.types.size)) = true := List.all_eq_true.1 (by kernel_rfl)
    simpa using this t ht
  · intro H ds hd
    match ds, hd with
    | [d0, d1], _ => exact ⟨rfl, rfl, rfl⟩
  · rintro xs ⟨a, r, rfl, ⟨w, hw, _⟩, b, r', rfl, ⟨s, hs, ws⟩, rfl⟩
    cases hw
    cases hs
    have h4 := bounds_i64 ws
    exact kindslaw_ok w (by omega) (by omega)

theorem proved : Rows.FieldKindsSaid :=
  OpenClaim.holds_of_wide F.cuneiformlaw16_FieldKinds Try.f6 rfl rfl rfl rfl rfl rfl rfl ⟨rfl, rfl, rfl, rfl, rfl⟩ rfl rfl rfl rfl rfl (by kernel_rfl) Try.func6 (by kernel_rfl)
    (of_decide_eq_true (by kernel_rfl)) (by unfold Func.isWrapper; first | (rw [if_pos (by decide +kernel)]; kernel_rfl) | (rw [if_neg (by decide +kernel)]; exact ⟨rfl, rfl⟩))
    (fun os started H enc _ => lifted os started H enc)
end Go.Proofs.Ytoingggmiplggaa.fieldKinds
