/-
  Lemmas on the way to the statements of this seat. By an AI agent. No person has read it.
-/
import Derived.Test.YtiklfnjmadcgfaaCode
import Derived.Test.YtiklfnjmadcgfaaAm6

namespace Go.Proofs.Ytiklfnjmadcgfaa
open Go Go.Am
set_option linter.unusedSimpArgs false
set_option linter.unusedVariables false

/-- How many steps lead from one to another one. -/
def wy (a b : Nat) : Nat := (b + 4294967296 - a) % 4294967296
def addN (a : Nat) (n : Int) : Nat := (((a : Int) + n) % 4294967296).toNat
def aft (a b : Nat) : Bool := decide (1 ≤ wy b a ∧ wy b a < 2147483648)

theorem wy_lt (a b : Nat) : wy a b < 4294967296 := Nat.mod_lt _ (by omega)
theorem addN_lt (a : Nat) (n : Int) : addN a n < 4294967296 := by unfold addN; omega

theorem sadd_ok (H : AHeap) (a : Nat) (n : Int) (Q : AVal → AHeap → Prop) (h : Q (.int .u32 (addN a n)) H) : FunOK Try.prog F.serial_Add [.int .u32 a, .int .i64 n] H Q := by
  refine fun_V 40 serial_Add_code rfl ?_
  have e : IntKind.u32.wrap ((a : Int) + IntKind.u32.wrap n) = (addN a n : Nat) := by
    rw [wrap_u32', wrap_u32']; unfold addN; omega
  simp (disch := first | omega | (simp only [List.length_append, List.length_cons, List.length_nil, List.length_set, List.length_map, List.length_take, List.length_drop]; omega)) only [stdh, goK_s2b, dgoK_s2b, isEff_s2b, isPure_s2b, goK_b2s, dgoK_b2s, isEff_b2s, isPure_b2s, evalOp_s2b, s2bR, goK_mark, dgoK_mark, isEff_mark, isPure_mark, evalOp_mark, markA_slc, markB, ↓reduceIte, Nat.reduceEqDiff, Int.reduceToNat, Int.reducePow, Nat.reduceAdd, Nat.reduceLeDiff, Nat.reduceMul, Nat.reduceBEq, reduceCtorEq, serial_Add, serial_Add.body, e]
  exact h

theorem sway_ok (H : AHeap) (a b : Nat) (ha : a < 4294967296) (hb : b < 4294967296) (Q : AVal → AHeap → Prop) (h : Q (.int .u32 (wy a b)) H) : FunOK Try.prog F.serial_Way [.int .u32 a, .int .u32 b] H Q := by
  refine fun_V 40 serial_Way_code rfl ?_
  have e : IntKind.u32.wrap ((b : Int) - a) = (wy a b : Nat) := by
    rw [wrap_u32']; unfold wy; omega
  simp (disch := first | omega | (simp only [List.length_append, List.length_cons, List.length_nil, List.length_set, List.length_map, List.length_take, List.length_drop]; omega)) only [stdh, goK_s2b, dgoK_s2b, isEff_s2b, isPure_s2b, goK_b2s, dgoK_b2s, isEff_b2s, isPure_b2s, evalOp_s2b, s2bR, goK_mark, dgoK_mark, isEff_mark, isPure_mark, evalOp_mark, markA_slc, markB, ↓reduceIte, Nat.reduceEqDiff, Int.reduceToNat, Int.reducePow, Nat.reduceAdd, Nat.reduceLeDiff, Nat.reduceMul, Nat.reduceBEq, reduceCtorEq, serial_Way, serial_Way.body, e]
  exact h

/-- The way, with a sign. -/
def dif (a b : Nat) : Int := if wy b a < 2147483648 then wy b a else (wy b a : Int) - 4294967296

theorem sdiff_ok (H : AHeap) (a b : Nat) (ha : a < 4294967296) (hb : b < 4294967296) (Q : AVal → AHeap → Prop) (h : Q (.int .i64 (dif a b)) H) : FunOK Try.prog F.serial_Diff [.int .u32 a, .int .u32 b] H Q := by
  refine fun_V 40 serial_Diff_code rfl ?_
  have e : IntKind.u32.wrap ((a : Int) - b) = (wy b a : Nat) := by
    rw [wrap_u32']; unfold wy; omega
  have hl := wy_lt b a
  have e2 : IntKind.i32.wrap (wy b a : Nat) = dif a b := by
    unfold dif
    simp only [IntKind.wrap, IntKind.bits, IntKind.signed, Bool.true_and, decide_eq_true_eq, ge_iff_le]
    by_cases hh : wy b a < 2147483648
    · rw [if_neg (by omega), if_pos hh]; omega
    · rw [if_pos (by omega), if_neg hh]; omega
  have hr : -2147483648 ≤ dif a b ∧ dif a b < 2147483648 := by unfold dif; split <;> omega
  simp (disch := first | omega | (simp only [List.length_append, List.length_cons, List.length_nil, List.length_set, List.length_map, List.length_take, List.length_drop]; omega)) only [stdh, goK_s2b, dgoK_s2b, isEff_s2b, isPure_s2b, goK_b2s, dgoK_b2s, isEff_b2s, isPure_b2s, evalOp_s2b, s2bR, goK_mark, dgoK_mark, isEff_mark, isPure_mark, evalOp_mark, markA_slc, markB, ↓reduceIte, Nat.reduceEqDiff, Int.reduceToNat, Int.reducePow, Nat.reduceAdd, Nat.reduceLeDiff, Nat.reduceMul, Nat.reduceBEq, reduceCtorEq, serial_Diff, serial_Diff.body, e, e2]
  exact h

theorem saft_ok (H : AHeap) (a b : Nat) (ha : a < 4294967296) (hb : b < 4294967296) (Q : AVal → AHeap → Prop) (h : Q (.bool (aft a b)) H) : FunOK Try.prog F.serial_After [.int .u32 a, .int .u32 b] H Q := by
  refine fun_V 40 serial_After_code rfl ?_
  simp (disch := first | omega | (simp only [List.length_append, List.length_cons, List.length_nil, List.length_set, List.length_map, List.length_take, List.length_drop]; omega)) only [stdh, goK_s2b, dgoK_s2b, isEff_s2b, isPure_s2b, goK_b2s, dgoK_b2s, isEff_b2s, isPure_b2s, evalOp_s2b, s2bR, goK_mark, dgoK_mark, isEff_mark, isPure_mark, evalOp_mark, markA_slc, markB, ↓reduceIte, Nat.reduceEqDiff, Int.reduceToNat, Int.reducePow, Nat.reduceAdd, Nat.reduceLeDiff, Nat.reduceMul, Nat.reduceBEq, reduceCtorEq, serial_After, serial_After.body]
  refine callK_fn (sdiff_ok _ _ _ ha hb _ ?_)
  refine runL_V 40 ?_
  have hl := wy_lt b a
  have e : decide (0 < dif a b) = aft a b := by
    unfold dif aft
    rw [decide_eq_decide]
    split <;> omega
  simp (disch := first | omega | (simp only [List.length_append, List.length_cons, List.length_nil, List.length_set, List.length_map, List.length_take, List.length_drop]; omega)) only [stdh, goK_s2b, dgoK_s2b, isEff_s2b, isPure_s2b, goK_b2s, dgoK_b2s, isEff_b2s, isPure_b2s, evalOp_s2b, s2bR, goK_mark, dgoK_mark, isEff_mark, isPure_mark, evalOp_mark, markA_slc, markB, ↓reduceIte, Nat.reduceEqDiff, Int.reduceToNat, Int.reducePow, Nat.reduceAdd, Nat.reduceLeDiff, Nat.reduceMul, Nat.reduceBEq, reduceCtorEq, e]
  exact h
end Go.Proofs.Ytiklfnjmadcgfaa

namespace Go.Proofs.Ytiklfnjmadcgfaa
open Go Go.Am
set_option linter.unusedSimpArgs false
set_option linter.unusedVariables false

/-- The bit of a number; 0: it is none of these. -/
def bitOf (top n : Nat) : Nat := if wy n top < 64 then 2 ^ wy n top else 0
def lookW (top bts n : Nat) : Nat := if aft n top = true then 0 else if 64 ≤ wy n top then 15 else if bts.testBit (wy n top) = true then 14 else 0
def markW (top bts n : Nat) : Nat × Nat := if lookW top bts n ≠ 0 then (top, bts) else if aft n top = true then (n, bts * 2 ^ min (wy top n) 64 % 18446744073709551616 ||| 1) else (top, bts ||| 2 ^ wy n top)

/-- A window at a name. -/
def WinAt (H : AHeap) (p top bts : Nat) : Prop := H[p]? = some (.cells [.int .u32 top, .int .u64 bts] T.window_Window) ∧ top < 4294967296 ∧ bts < 18446744073709551616

theorem wy_self (n : Nat) (h : n < 4294967296) : wy n n = 0 := by unfold wy; omega

theorem bitOf_lt (top n : Nat) : bitOf top n < 18446744073709551616 := by
  unfold bitOf
  split
  · have : (2 : Nat) ^ wy n top ≤ 2 ^ 63 := Nat.pow_le_pow_right (by omega) (by omega)
    omega
  · omega

theorem wnew_ok (H : AHeap) (s : Nat) (Q : AVal → AHeap → Prop) (h : Q (.ptr H.length 0) (H ++ [.cells [.int .u32 (addN s (-1)), .int .u64 18446744073709551615] T.window_Window])) : FunOK Try.prog F.window_New [.int .u32 s] H Q := by
  refine fun_V 40 window_New_code rfl ?_
  simp (disch := first | omega | (simp only [List.length_append, List.length_cons, List.length_nil, List.length_set, List.length_map, List.length_take, List.length_drop]; omega)) only [stdh, goK_s2b, dgoK_s2b, isEff_s2b, isPure_s2b, goK_b2s, dgoK_b2s, isEff_b2s, isPure_b2s, evalOp_s2b, s2bR, goK_mark, dgoK_mark, isEff_mark, isPure_mark, evalOp_mark, markA_slc, markB, ↓reduceIte, Nat.reduceEqDiff, Int.reduceToNat, Int.reducePow, Nat.reduceAdd, Nat.reduceLeDiff, Nat.reduceMul, Nat.reduceBEq, reduceCtorEq, window_New, window_New.body]
  refine callK_fn (sadd_ok _ _ _ _ ?_)
  refine runL_V 40 ?_
  simp (disch := first | omega | (simp only [List.length_append, List.length_cons, List.length_nil, List.length_set, List.length_map, List.length_take, List.length_drop]; omega)) only [stdh, goK_s2b, dgoK_s2b, isEff_s2b, isPure_s2b, goK_b2s, dgoK_b2s, isEff_b2s, isPure_b2s, evalOp_s2b, s2bR, goK_mark, dgoK_mark, isEff_mark, isPure_mark, evalOp_mark, markA_slc, markB, ↓reduceIte, Nat.reduceEqDiff, Int.reduceToNat, Int.reducePow, Nat.reduceAdd, Nat.reduceLeDiff, Nat.reduceMul, Nat.reduceBEq, reduceCtorEq]
  exact h

theorem wbit_ok (H : AHeap) (top bts n : Nat) (ht : top < 4294967296) (hn : n < 4294967296) (Q : AVal → AHeap → Prop) (h : Q (.int .u64 (bitOf top n)) H) : FunOK Try.prog F.window_state_bit [.agg [.int .u32 top, .int .u64 bts], .int .u32 n] H Q := by
  refine fun_iced window_state_bit_code fun _ => ?_
  refine fun_V 40 window_state_bit_code rfl ?_
  simp (disch := first | omega | (simp only [List.length_append, List.length_cons, List.length_nil, List.length_set, List.length_map, List.length_take, List.length_drop]; omega)) only [stdh, goK_s2b, dgoK_s2b, isEff_s2b, isPure_s2b, goK_b2s, dgoK_b2s, isEff_b2s, isPure_b2s, evalOp_s2b, s2bR, goK_mark, dgoK_mark, isEff_mark, isPure_mark, evalOp_mark, markA_slc, markB, ↓reduceIte, Nat.reduceEqDiff, Int.reduceToNat, Int.reducePow, Nat.reduceAdd, Nat.reduceLeDiff, Nat.reduceMul, Nat.reduceBEq, reduceCtorEq, window_state_bit, window_state_bit.body]
  refine callK_fn (sway_ok _ _ _ hn ht _ ?_)
  refine runL_V 40 ?_
  by_cases hw : wy n top < 64
  · have e : IntKind.u64.wrap (1 * 2 ^ wy n top) = (bitOf top n : Nat) := by
      have hb := bitOf_lt top n
      unfold bitOf at hb ⊢
      rw [if_pos hw] at hb ⊢
      have e0 : ((2 ^ wy n top : Nat) : Int) = (2 : Int) ^ wy n top := by simp
      rw [Int.one_mul, ← e0]
      clear e0
      generalize 2 ^ wy n top = z at *
      exact wrap_u64 (by omega)
    simp (disch := first | omega | (simp only [List.length_append, List.length_cons, List.length_nil, List.length_set, List.length_map, List.length_take, List.length_drop]; omega)) only [stdh, goK_s2b, dgoK_s2b, isEff_s2b, isPure_s2b, goK_b2s, dgoK_b2s, isEff_b2s, isPure_b2s, evalOp_s2b, s2bR, goK_mark, dgoK_mark, isEff_mark, isPure_mark, evalOp_mark, markA_slc, markB, ↓reduceIte, Nat.reduceEqDiff, Int.reduceToNat, Int.reducePow, Nat.reduceAdd, Nat.reduceLeDiff, Nat.reduceMul, Nat.reduceBEq, reduceCtorEq, e]
    exact ice_none trivial h
  · have e : bitOf top n = 0 := by unfold bitOf; rw [if_neg hw]
    simp (disch := first | omega | (simp only [List.length_append, List.length_cons, List.length_nil, List.length_set, List.length_map, List.length_take, List.length_drop]; omega)) only [stdh, goK_s2b, dgoK_s2b, isEff_s2b, isPure_s2b, goK_b2s, dgoK_b2s, isEff_b2s, isPure_b2s, evalOp_s2b, s2bR, goK_mark, dgoK_mark, isEff_mark, isPure_mark, evalOp_mark, markA_slc, markB, ↓reduceIte, Nat.reduceEqDiff, Int.reduceToNat, Int.reducePow, Nat.reduceAdd, Nat.reduceLeDiff, Nat.reduceMul, Nat.reduceBEq, reduceCtorEq]
    rw [e] at h
    exact ice_none trivial h

theorem bit_and {b k : Nat} : (b &&& 2 ^ k = 0) ↔ b.testBit k = false := by
  constructor
  · intro h
    have := congrArg (fun x => x.testBit k) h
    simpa [Nat.testBit_and, Nat.testBit_two_pow_self] using this
  · intro h
    apply Nat.eq_of_testBit_eq
    intro i
    rw [Nat.testBit_and, Nat.zero_testBit]
    by_cases hi : k = i
    · subst hi; simp [h]
    · rw [Nat.testBit_two_pow_of_ne hi]; simp

theorem wlook_ok (H : AHeap) {p top bts : Nat} (hw : WinAt H p top bts) (n : Nat) (hn : n < 4294967296) (Q : AVal → AHeap → Prop) (h : Q (.int .i64 (lookW top bts n)) H) : FunOK Try.prog F.window_Window_Look [.ptr p 0, .int .u32 n] H Q := by
  obtain ⟨hc, ht, hb⟩ := hw
  refine fun_V 60 window_Window_Look_code rfl ?_
  simp (disch := first | omega | (simp only [List.length_append, List.length_cons, List.length_nil, List.length_set, List.length_map, List.length_take, List.length_drop]; omega)) only [stdh, goK_s2b, dgoK_s2b, isEff_s2b, isPure_s2b, goK_b2s, dgoK_b2s, isEff_b2s, isPure_b2s, evalOp_s2b, s2bR, goK_mark, dgoK_mark, isEff_mark, isPure_mark, evalOp_mark, markA_slc, markB, ↓reduceIte, Nat.reduceEqDiff, Int.reduceToNat, Int.reducePow, Nat.reduceAdd, Nat.reduceLeDiff, Nat.reduceMul, Nat.reduceBEq, reduceCtorEq, window_Window_Look, window_Window_Look.body, eqA, hc]
  refine callK_fn (saft_ok _ _ _ hn ht _ ?_)
  refine runL_V 60 ?_
  cases ha : aft n top with
  | true =>
    have e : lookW top bts n = 0 := by simp [lookW, ha]
    rw [e] at h
    simp (disch := first | omega | (simp only [List.length_append, List.length_cons, List.length_nil, List.length_set, List.length_map, List.length_take, List.length_drop]; omega)) only [stdh, goK_s2b, dgoK_s2b, isEff_s2b, isPure_s2b, goK_b2s, dgoK_b2s, isEff_b2s, isPure_b2s, evalOp_s2b, s2bR, goK_mark, dgoK_mark, isEff_mark, isPure_mark, evalOp_mark, markA_slc, markB, ↓reduceIte, Nat.reduceEqDiff, Int.reduceToNat, Int.reducePow, Nat.reduceAdd, Nat.reduceLeDiff, Nat.reduceMul, Nat.reduceBEq, reduceCtorEq]
    exact h
  | false =>
    simp (disch := first | omega | (simp only [List.length_append, List.length_cons, List.length_nil, List.length_set, List.length_map, List.length_take, List.length_drop]; omega)) only [stdh, goK_s2b, dgoK_s2b, isEff_s2b, isPure_s2b, goK_b2s, dgoK_b2s, isEff_b2s, isPure_b2s, evalOp_s2b, s2bR, goK_mark, dgoK_mark, isEff_mark, isPure_mark, evalOp_mark, markA_slc, markB, ↓reduceIte, Nat.reduceEqDiff, Int.reduceToNat, Int.reducePow, Nat.reduceAdd, Nat.reduceLeDiff, Nat.reduceMul, Nat.reduceBEq, reduceCtorEq, hc]
    refine callK_fn (wbit_ok _ _ _ _ ht hn _ ?_)
    refine runL_V 60 ?_
    by_cases hq : 64 ≤ wy n top
    · have e : lookW top bts n = 15 := by simp [lookW, ha, hq]
      have e2 : ((bitOf top n : Nat) : Int) = 0 := by unfold bitOf; rw [if_neg (by omega)]; rfl
      rw [e] at h
      simp (disch := first | omega | (simp only [List.length_append, List.length_cons, List.length_nil, List.length_set, List.length_map, List.length_take, List.length_drop]; omega)) only [stdh, goK_s2b, dgoK_s2b, isEff_s2b, isPure_s2b, goK_b2s, dgoK_b2s, isEff_b2s, isPure_b2s, evalOp_s2b, s2bR, goK_mark, dgoK_mark, isEff_mark, isPure_mark, evalOp_mark, markA_slc, markB, ↓reduceIte, Nat.reduceEqDiff, Int.reduceToNat, Int.reducePow, Nat.reduceAdd, Nat.reduceLeDiff, Nat.reduceMul, Nat.reduceBEq, reduceCtorEq, e2]
      exact h
    · have e2 : ((bitOf top n : Nat) : Int) ≠ 0 := by
        unfold bitOf; rw [if_pos (by omega)]
        have := Nat.two_pow_pos (wy n top)
        omega
      have e3 : bitOf top n = 2 ^ wy n top := by unfold bitOf; rw [if_pos (by omega)]
      simp (disch := first | omega | (simp only [List.length_append, List.length_cons, List.length_nil, List.length_set, List.length_map, List.length_take, List.length_drop]; omega)) only [stdh, goK_s2b, dgoK_s2b, isEff_s2b, isPure_s2b, goK_b2s, dgoK_b2s, isEff_b2s, isPure_b2s, evalOp_s2b, s2bR, goK_mark, dgoK_mark, isEff_mark, isPure_mark, evalOp_mark, markA_slc, markB, ↓reduceIte, Nat.reduceEqDiff, Int.reduceToNat, Int.reducePow, Nat.reduceAdd, Nat.reduceLeDiff, Nat.reduceMul, Nat.reduceBEq, reduceCtorEq, e2, window_Window_Look.d0, hc]
      refine callD_fn (wbit_ok _ _ _ _ ht hn _ ?_)
      refine ⟨by simp (disch := first | omega | (simp only [List.length_append, List.length_cons, List.length_nil, List.length_set, List.length_map, List.length_take, List.length_drop]; omega)) only [stdh, goK_s2b, dgoK_s2b, isEff_s2b, isPure_s2b, goK_b2s, dgoK_b2s, isEff_b2s, isPure_b2s, evalOp_s2b, s2bR, goK_mark, dgoK_mark, isEff_mark, isPure_mark, evalOp_mark, markA_slc, markB, ↓reduceIte, Nat.reduceEqDiff, Int.reduceToNat, Int.reducePow, Nat.reduceAdd, Nat.reduceLeDiff, Nat.reduceMul, Nat.reduceBEq, reduceCtorEq, hc], ?_⟩
      refine runD_V 60 ?_
      have e4 := bits_and (k := .u64) rfl (a := bts) (b := bitOf top n) hb (bitOf_lt top n)
      rw [e3] at e4
      by_cases ht : bts.testBit (wy n top) = true
      · have e5 : ¬ ((bts &&& 2 ^ wy n top : Nat) : Int) = 0 := by
          intro h0
          have : bts &&& 2 ^ wy n top = 0 := by omega
          rw [bit_and, ht] at this; cases this
        have e : lookW top bts n = 14 := by simp [lookW, ha, hq, ht]
        rw [e] at h
        simp (disch := first | omega | (simp only [List.length_append, List.length_cons, List.length_nil, List.length_set, List.length_map, List.length_take, List.length_drop]; omega)) only [stdh, goK_s2b, dgoK_s2b, isEff_s2b, isPure_s2b, goK_b2s, dgoK_b2s, isEff_b2s, isPure_b2s, evalOp_s2b, s2bR, goK_mark, dgoK_mark, isEff_mark, isPure_mark, evalOp_mark, markA_slc, markB, ↓reduceIte, Nat.reduceEqDiff, Int.reduceToNat, Int.reducePow, Nat.reduceAdd, Nat.reduceLeDiff, Nat.reduceMul, Nat.reduceBEq, reduceCtorEq, e3, e4, e5]
        exact h
      · have e5 : ((bts &&& 2 ^ wy n top : Nat) : Int) = 0 := by
          have := bit_and.2 (by simpa using ht : bts.testBit (wy n top) = false)
          omega
        have e : lookW top bts n = 0 := by simp [lookW, ha, hq, ht]
        rw [e] at h
        simp (disch := first | omega | (simp only [List.length_append, List.length_cons, List.length_nil, List.length_set, List.length_map, List.length_take, List.length_drop]; omega)) only [stdh, goK_s2b, dgoK_s2b, isEff_s2b, isPure_s2b, goK_b2s, dgoK_b2s, isEff_b2s, isPure_b2s, evalOp_s2b, s2bR, goK_mark, dgoK_mark, isEff_mark, isPure_mark, evalOp_mark, markA_slc, markB, ↓reduceIte, Nat.reduceEqDiff, Int.reduceToNat, Int.reducePow, Nat.reduceAdd, Nat.reduceLeDiff, Nat.reduceMul, Nat.reduceBEq, reduceCtorEq, e3, e4, e5]
        exact h

theorem mark_lt {top bts n : Nat} (ht : top < 4294967296) (hb : bts < 18446744073709551616) (hn : n < 4294967296) : (markW top bts n).1 < 4294967296 ∧ (markW top bts n).2 < 18446744073709551616 := by
  unfold markW
  split
  · exact ⟨ht, hb⟩
  · rename_i hl
    split
    · exact ⟨hn, Nat.or_lt_two_pow (n := 64) (Nat.mod_lt _ (by omega)) (by omega)⟩
    · rename_i ha
      refine ⟨ht, ?_⟩
      have hw : wy n top < 64 := by
        refine Classical.byContradiction fun hc => hl ?_
        simp [lookW, ha, show 64 ≤ wy n top by omega] at hl
      exact Nat.or_lt_two_pow (n := 64) hb (Nat.pow_lt_pow_right (by omega) hw)

theorem wmark_ok (H : AHeap) {p top bts : Nat} (hw : WinAt H p top bts) (n : Nat) (hn : n < 4294967296) (Q : AVal → AHeap → Prop)
    (h : Q (.int .i64 (lookW top bts n)) (H.set p (.cells [.int .u32 (markW top bts n).1, .int .u64 (markW top bts n).2] T.window_Window))) : FunOK Try.prog F.window_Window_Mark [.ptr p 0, .int .u32 n] H Q := by
  have hw0 := hw
  obtain ⟨hc, ht, hb⟩ := hw
  have hp : p < H.length := (List.getElem?_eq_some_iff.1 hc).1
  have hml := mark_lt ht hb hn
  refine fun_mut window_Window_Mark_code p fun _ => ?_
  refine fun_V 60 window_Window_Mark_code rfl ?_
  simp (disch := first | omega | (simp only [List.length_append, List.length_cons, List.length_nil, List.length_set, List.length_map, List.length_take, List.length_drop]; omega)) only [stdh, goK_s2b, dgoK_s2b, isEff_s2b, isPure_s2b, goK_b2s, dgoK_b2s, isEff_b2s, isPure_b2s, evalOp_s2b, s2bR, goK_mark, dgoK_mark, isEff_mark, isPure_mark, evalOp_mark, markA_slc, markB, ↓reduceIte, Nat.reduceEqDiff, Int.reduceToNat, Int.reducePow, Nat.reduceAdd, Nat.reduceLeDiff, Nat.reduceMul, Nat.reduceBEq, reduceCtorEq, window_Window_Mark, window_Window_Mark.body]
  refine callK_fn (wlook_ok _ hw0 n hn _ ?_)
  refine runL_V 60 ?_
  by_cases hl : lookW top bts n = 0
  · have hl' : ((lookW top bts n : Nat) : Int) = 0 := by omega
    simp (disch := first | omega | (simp only [List.length_append, List.length_cons, List.length_nil, List.length_set, List.length_map, List.length_take, List.length_drop]; omega)) only [stdh, goK_s2b, dgoK_s2b, isEff_s2b, isPure_s2b, goK_b2s, dgoK_b2s, isEff_b2s, isPure_b2s, evalOp_s2b, s2bR, goK_mark, dgoK_mark, isEff_mark, isPure_mark, evalOp_mark, markA_slc, markB, ↓reduceIte, Nat.reduceEqDiff, Int.reduceToNat, Int.reducePow, Nat.reduceAdd, Nat.reduceLeDiff, Nat.reduceMul, Nat.reduceBEq, reduceCtorEq, hl', hc]
    refine callK_fn (saft_ok _ _ _ hn ht _ ?_)
    refine runL_V 60 ?_
    cases ha : aft n top with
    | true =>
      simp (disch := first | omega | (simp only [List.length_append, List.length_cons, List.length_nil, List.length_set, List.length_map, List.length_take, List.length_drop]; omega)) only [stdh, goK_s2b, dgoK_s2b, isEff_s2b, isPure_s2b, goK_b2s, dgoK_b2s, isEff_b2s, isPure_b2s, evalOp_s2b, s2bR, goK_mark, dgoK_mark, isEff_mark, isPure_mark, evalOp_mark, markA_slc, markB, ↓reduceIte, Nat.reduceEqDiff, Int.reduceToNat, Int.reducePow, Nat.reduceAdd, Nat.reduceLeDiff, Nat.reduceMul, Nat.reduceBEq, reduceCtorEq, window_Window_Mark.d0, hc]
      refine callD_fn (sway_ok _ _ _ ht hn _ ?_)
      refine ⟨by simp (disch := first | omega | (simp only [List.length_append, List.length_cons, List.length_nil, List.length_set, List.length_map, List.length_take, List.length_drop]; omega)) only [stdh, goK_s2b, dgoK_s2b, isEff_s2b, isPure_s2b, goK_b2s, dgoK_b2s, isEff_b2s, isPure_b2s, evalOp_s2b, s2bR, goK_mark, dgoK_mark, isEff_mark, isPure_mark, evalOp_mark, markA_slc, markB, ↓reduceIte, Nat.reduceEqDiff, Int.reduceToNat, Int.reducePow, Nat.reduceAdd, Nat.reduceLeDiff, Nat.reduceMul, Nat.reduceBEq, reduceCtorEq, hc], ?_⟩
      refine runD_V 60 ?_
      have e : IntKind.u64.wrap ((bts : Int) * 2 ^ min (wy top n) 64) = ((bts * 2 ^ min (wy top n) 64 % 18446744073709551616 : Nat) : Int) := by
        rw [wrap_u64']; simp
      generalize hq : bts * 2 ^ min (wy top n) 64 % 18446744073709551616 = b2 at *
      have hb2 : b2 < 18446744073709551616 := by rw [← hq]; exact Nat.mod_lt _ (by omega)
      simp (disch := first | omega | (simp only [List.length_append, List.length_cons, List.length_nil, List.length_set, List.length_map, List.length_take, List.length_drop]; omega)) only [stdh, goK_s2b, dgoK_s2b, isEff_s2b, isPure_s2b, goK_b2s, dgoK_b2s, isEff_b2s, isPure_b2s, evalOp_s2b, s2bR, goK_mark, dgoK_mark, isEff_mark, isPure_mark, evalOp_mark, markA_slc, markB, ↓reduceIte, Nat.reduceEqDiff, Int.reduceToNat, Int.reducePow, Nat.reduceAdd, Nat.reduceLeDiff, Nat.reduceMul, Nat.reduceBEq, reduceCtorEq, e, window_Window_Mark.d1]
      refine callD_fn (wbit_ok _ _ _ _ hn hn _ ?_)
      refine ⟨by simp (disch := first | omega | (simp only [List.length_append, List.length_cons, List.length_nil, List.length_set, List.length_map, List.length_take, List.length_drop]; omega)) only [stdh, goK_s2b, dgoK_s2b, isEff_s2b, isPure_s2b, goK_b2s, dgoK_b2s, isEff_b2s, isPure_b2s, evalOp_s2b, s2bR, goK_mark, dgoK_mark, isEff_mark, isPure_mark, evalOp_mark, markA_slc, markB, ↓reduceIte, Nat.reduceEqDiff, Int.reduceToNat, Int.reducePow, Nat.reduceAdd, Nat.reduceLeDiff, Nat.reduceMul, Nat.reduceBEq, reduceCtorEq], ?_⟩
      refine runD_V 60 ?_
      have e3 : bitOf n n = 1 := by unfold bitOf; rw [wy_self n hn]; rfl
      have e4 : Am.bits .or .u64 (b2 : Int) ((1 : Nat) : Int) = ((b2 ||| 1 : Nat) : Int) := bits_or (k := .u64) rfl (a := b2) (b := 1) hb2 (by decide)
      have hm : markW top bts n = (n, b2 ||| 1) := by unfold markW; rw [if_neg (by omega), if_pos ha, hq]
      have hne : (n : Int) ≠ (top : Int) := by
        unfold aft at ha
        simp only [decide_eq_true_eq] at ha
        intro he
        have : n = top := by omega
        rw [this, wy_self top ht] at ha
        omega
      rw [hm] at h
      rw [hl'] at h
      simp (disch := first | omega | (simp only [List.length_append, List.length_cons, List.length_nil, List.length_set, List.length_map, List.length_take, List.length_drop]; omega)) only [stdh, goK_s2b, dgoK_s2b, isEff_s2b, isPure_s2b, goK_b2s, dgoK_b2s, isEff_b2s, isPure_b2s, evalOp_s2b, s2bR, goK_mark, dgoK_mark, isEff_mark, isPure_mark, evalOp_mark, markA_slc, markB, ↓reduceIte, Nat.reduceEqDiff, Int.reduceToNat, Int.reducePow, Nat.reduceAdd, Nat.reduceLeDiff, Nat.reduceMul, Nat.reduceBEq, reduceCtorEq, e3, e4, window_Window_Mark.d2, hc, at_low, hne, set_low]
      exact mut_set hp (by exact ⟨trivial, trivial, trivial⟩) (by trivial) h
    | false =>
      simp (disch := first | omega | (simp only [List.length_append, List.length_cons, List.length_nil, List.length_set, List.length_map, List.length_take, List.length_drop]; omega)) only [stdh, goK_s2b, dgoK_s2b, isEff_s2b, isPure_s2b, goK_b2s, dgoK_b2s, isEff_b2s, isPure_b2s, evalOp_s2b, s2bR, goK_mark, dgoK_mark, isEff_mark, isPure_mark, evalOp_mark, markA_slc, markB, ↓reduceIte, Nat.reduceEqDiff, Int.reduceToNat, Int.reducePow, Nat.reduceAdd, Nat.reduceLeDiff, Nat.reduceMul, Nat.reduceBEq, reduceCtorEq, window_Window_Mark.d1]
      refine callD_fn (wbit_ok _ _ _ _ ht hn _ ?_)
      refine ⟨by simp (disch := first | omega | (simp only [List.length_append, List.length_cons, List.length_nil, List.length_set, List.length_map, List.length_take, List.length_drop]; omega)) only [stdh, goK_s2b, dgoK_s2b, isEff_s2b, isPure_s2b, goK_b2s, dgoK_b2s, isEff_b2s, isPure_b2s, evalOp_s2b, s2bR, goK_mark, dgoK_mark, isEff_mark, isPure_mark, evalOp_mark, markA_slc, markB, ↓reduceIte, Nat.reduceEqDiff, Int.reduceToNat, Int.reducePow, Nat.reduceAdd, Nat.reduceLeDiff, Nat.reduceMul, Nat.reduceBEq, reduceCtorEq], ?_⟩
      refine runD_V 60 ?_
      have hwl : wy n top < 64 := by
        refine Classical.byContradiction fun hcc => ?_
        simp [lookW, ha, show 64 ≤ wy n top by omega] at hl
      have e3 : bitOf top n = 2 ^ wy n top := by unfold bitOf; rw [if_pos hwl]
      have e4 := bits_or (k := .u64) rfl (a := bts) (b := bitOf top n) hb (bitOf_lt top n)
      rw [e3] at e4
      have hm : markW top bts n = (top, bts ||| 2 ^ wy n top) := by unfold markW; rw [if_neg (by omega), if_neg (by simp [ha])]
      rw [hm, hl'] at h
      by_cases hs : ((bts ||| 2 ^ wy n top : Nat) : Int) = (bts : Int)
      · simp (disch := first | omega | (simp only [List.length_append, List.length_cons, List.length_nil, List.length_set, List.length_map, List.length_take, List.length_drop]; omega)) only [stdh, goK_s2b, dgoK_s2b, isEff_s2b, isPure_s2b, goK_b2s, dgoK_b2s, isEff_b2s, isPure_b2s, evalOp_s2b, s2bR, goK_mark, dgoK_mark, isEff_mark, isPure_mark, evalOp_mark, markA_slc, markB, ↓reduceIte, Nat.reduceEqDiff, Int.reduceToNat, Int.reducePow, Nat.reduceAdd, Nat.reduceLeDiff, Nat.reduceMul, Nat.reduceBEq, reduceCtorEq, e3, e4, window_Window_Mark.d2, hc, at_low, hs]
        rw [show bts ||| 2 ^ wy n top = bts by omega] at h
        exact mut_same hc ⟨trivial, trivial, trivial⟩ trivial h
      · simp (disch := first | omega | (simp only [List.length_append, List.length_cons, List.length_nil, List.length_set, List.length_map, List.length_take, List.length_drop]; omega)) only [stdh, goK_s2b, dgoK_s2b, isEff_s2b, isPure_s2b, goK_b2s, dgoK_b2s, isEff_b2s, isPure_b2s, evalOp_s2b, s2bR, goK_mark, dgoK_mark, isEff_mark, isPure_mark, evalOp_mark, markA_slc, markB, ↓reduceIte, Nat.reduceEqDiff, Int.reduceToNat, Int.reducePow, Nat.reduceAdd, Nat.reduceLeDiff, Nat.reduceMul, Nat.reduceBEq, reduceCtorEq, e3, e4, window_Window_Mark.d2, hc, at_low, hs, set_low]
        exact mut_set hp (by exact ⟨trivial, trivial, trivial⟩) (by trivial) h
  · have hl' : ((lookW top bts n : Nat) : Int) ≠ 0 := by omega
    simp (disch := first | omega | (simp only [List.length_append, List.length_cons, List.length_nil, List.length_set, List.length_map, List.length_take, List.length_drop]; omega)) only [stdh, goK_s2b, dgoK_s2b, isEff_s2b, isPure_s2b, goK_b2s, dgoK_b2s, isEff_b2s, isPure_b2s, evalOp_s2b, s2bR, goK_mark, dgoK_mark, isEff_mark, isPure_mark, evalOp_mark, markA_slc, markB, ↓reduceIte, Nat.reduceEqDiff, Int.reduceToNat, Int.reducePow, Nat.reduceAdd, Nat.reduceLeDiff, Nat.reduceMul, Nat.reduceBEq, reduceCtorEq, hl']
    have hm : markW top bts n = (top, bts) := by unfold markW; rw [if_pos hl]
    rw [hm] at h
    have := mut_same (H := H) (L := []) (Q := Q) (av := .int .i64 (lookW top bts n : Nat)) hc ⟨trivial, trivial, trivial⟩ trivial h
    rwa [List.append_nil] at this
end Go.Proofs.Ytiklfnjmadcgfaa

namespace Go.Proofs.Ytiklfnjmadcgfaa
open Go Go.Am
set_option linter.unusedSimpArgs false
set_option linter.unusedVariables false

/-- A number, told from the start on. -/
def rel (s x : Nat) : Nat := (x + 100 + 4294967296 - s) % 4294967296

theorem rel_lt (s x : Nat) : rel s x < 4294967296 := Nat.mod_lt _ (by omega)
theorem wy_rel {s x y : Nat} (hs : s < 4294967296) (hx : x < 4294967296) (hy : y < 4294967296) : wy x y = (rel s y + 4294967296 - rel s x) % 4294967296 := by
  unfold wy rel; omega

/-- A number that has come: it is old, or its bit is set. -/
def Come (s top bts c : Nat) : Prop := c < 4294967296 ∧ rel s c ≤ rel s top ∧ (64 ≤ rel s top - rel s c ∨ bts.testBit (rel s top - rel s c) = true)

theorem come_look {s top bts c : Nat} (hs : s < 4294967296) (ht : top < 4294967296) (htr : rel s top < 65536) (h : Come s top bts c) : lookW top bts c ≠ 0 := by
  obtain ⟨hc, h1, h2⟩ := h
  have e1 := wy_rel hs ht hc
  have e2 := wy_rel hs hc ht
  have e3 : wy c top = rel s top - rel s c := by omega
  have ha : aft c top = false := by
    unfold aft
    rw [decide_eq_false_iff_not]
    omega
  unfold lookW
  rw [if_neg (by rw [ha]; simp)]
  rcases h2 with h2 | h2
  · rw [if_pos (by omega)]; omega
  · split
    · omega
    · rw [e3, if_pos h2]; omega

theorem ar_after {w rn rt rc : Nat} (e : w = (rn + 4294967296 - rt) % 4294967296) (hn : rn < 65536) (ht : rt < 65536) (hlt : rt < rn) : w = rn - rt := by omega
theorem ar_diff {w rn rt rc : Nat} (e : w = rn - rt) (hlt : rt < rn) (hc : rc ≤ rt) (h64 : ¬ 64 ≤ rn - rc) : rn - rc - min w 64 = rt - rc ∧ rn - rc < 64 ∧ min w 64 ≤ rn - rc ∧ ¬ 64 ≤ rt - rc := by omega
theorem ar_lt {w rn rt : Nat} (e : w = (rn + 4294967296 - rt) % 4294967296) (hn : rn < 65536) (ht : rt < 65536) (ha : 1 ≤ w ∧ w < 2147483648) : rt < rn := by omega
theorem ar_le {w rn rt : Nat} (e : w = (rn + 4294967296 - rt) % 4294967296) (hn : rn < 65536) (ht : rt < 65536) (ha : ¬ (1 ≤ w ∧ w < 2147483648)) : rn ≤ rt := by omega

theorem ar_back {rn rt : Nat} (hn : rn < 65536) (ht : rt < 65536) (hle : rn ≤ rt) : (rt + 4294967296 - rn) % 4294967296 = rt - rn := by omega

theorem bit_shift (b m k j : Nat) (hk : k < 64) (hm : m ≤ k) (hj : k - m = j) (h : b.testBit j = true) : (b * 2 ^ m % 18446744073709551616 ||| 1).testBit k = true := by
  have q4 : (18446744073709551616 : Nat) = 2 ^ 64 := by decide
  rw [Nat.testBit_or, q4, Nat.testBit_mod_two_pow, Nat.testBit_mul_two_pow, hj, h, decide_eq_true hk, decide_eq_true hm]
  rfl
theorem bit_one (b : Nat) : (b ||| 1).testBit 0 = true := by
  rw [Nat.testBit_or]; simp

theorem mark_come {s top bts n : Nat} (hs : s < 4294967296) (ht : top < 4294967296) (hn : n < 4294967296) (htr : rel s top < 65536) (hnr : rel s n < 65536) (hl : lookW top bts n = 0) :
    rel s (markW top bts n).1 < 65536 ∧ Come s (markW top bts n).1 (markW top bts n).2 n ∧ ∀ c, Come s top bts c → Come s (markW top bts n).1 (markW top bts n).2 c := by
  have e1 := wy_rel hs ht hn
  have e2 := wy_rel hs hn ht
  unfold markW
  rw [if_neg (fun h => h hl)]
  cases ha : aft n top with
  | true =>
    rw [if_pos rfl]
    unfold aft at ha
    rw [decide_eq_true_eq] at ha
    have hlt := ar_lt e1 hnr htr ha
    have e3 := ar_after (rc := 0) e1 hnr htr hlt
    refine ⟨hnr, ⟨hn, Nat.le_refl _, .inr ?_⟩, ?_⟩
    · rw [Nat.sub_self]; exact bit_one _
    · rintro c ⟨hc, h1, h2⟩
      refine ⟨hc, Nat.le_trans h1 (Nat.le_of_lt hlt), ?_⟩
      by_cases h64 : 64 ≤ rel s n - rel s c
      · exact .inl h64
      · right
        obtain ⟨q1, q2, q3, q5⟩ := ar_diff e3 hlt h1 h64
        exact bit_shift _ _ _ _ q2 q3 q1 (h2.resolve_left q5)
  | false =>
    rw [if_neg (by simp)]
    unfold aft at ha
    rw [decide_eq_false_iff_not] at ha
    have hle := ar_le e1 hnr htr ha
    have e3 : wy n top = rel s top - rel s n := by
      rw [e2]; exact ar_back hnr htr hle
    refine ⟨htr, ⟨hn, hle, .inr ?_⟩, ?_⟩
    · rw [e3, Nat.testBit_or, Nat.testBit_two_pow_self, Bool.or_true]
    · rintro c ⟨hc, h1, h2⟩
      refine ⟨hc, h1, ?_⟩
      rcases h2 with h2 | h2
      · exact .inl h2
      · right; rw [Nat.testBit_or, h2, Bool.true_or]

/-- The number that the law makes of one of its numbers. -/
def numOf (s x : Nat) : Nat := (s + x + 4294967296 - 100) % 4294967296

theorem num_rel {s x : Nat} (hs : s < 4294967296) (hx : x < 65536) : rel s (numOf s x) = x := by unfold rel numOf; omega
theorem num_lt (s x : Nat) : numOf s x < 4294967296 := Nat.mod_lt _ (by omega)

theorem wtop_ok (H : AHeap) {p top bts : Nat} (hw : WinAt H p top bts) (Q : AVal → AHeap → Prop) (h : Q (.int .u32 top) H) : FunOK Try.prog F.window_Window_Top [.ptr p 0] H Q := by
  refine fun_V 60 window_Window_Top_code rfl ?_
  simp (disch := first | omega | (simp only [List.length_append, List.length_cons, List.length_nil, List.length_set, List.length_map, List.length_take, List.length_drop]; omega)) only [stdh, goK_s2b, dgoK_s2b, isEff_s2b, isPure_s2b, goK_b2s, dgoK_b2s, isEff_b2s, isPure_b2s, evalOp_s2b, s2bR, goK_mark, dgoK_mark, isEff_mark, isPure_mark, evalOp_mark, markA_slc, markB, ↓reduceIte, Nat.reduceEqDiff, Int.reduceToNat, Int.reducePow, Nat.reduceAdd, Nat.reduceLeDiff, Nat.reduceMul, Nat.reduceBEq, reduceCtorEq, window_Window_Top, window_Window_Top.body, eqA, hw.1]
  exact h
theorem wbits_ok (H : AHeap) {p top bts : Nat} (hw : WinAt H p top bts) (Q : AVal → AHeap → Prop) (h : Q (.int .u64 bts) H) : FunOK Try.prog F.window_Window_Bits [.ptr p 0] H Q := by
  refine fun_V 60 window_Window_Bits_code rfl ?_
  simp (disch := first | omega | (simp only [List.length_append, List.length_cons, List.length_nil, List.length_set, List.length_map, List.length_take, List.length_drop]; omega)) only [stdh, goK_s2b, dgoK_s2b, isEff_s2b, isPure_s2b, goK_b2s, dgoK_b2s, isEff_b2s, isPure_b2s, evalOp_s2b, s2bR, goK_mark, dgoK_mark, isEff_mark, isPure_mark, evalOp_mark, markA_slc, markB, ↓reduceIte, Nat.reduceEqDiff, Int.reduceToNat, Int.reducePow, Nat.reduceAdd, Nat.reduceLeDiff, Nat.reduceMul, Nat.reduceBEq, reduceCtorEq, window_Window_Bits, window_Window_Bits.body, eqA, hw.1]
  exact h

theorem known11_ok (H : AHeap) (Q : AVal → AHeap → Prop) (h : Q (.bool true) H) : FunOK Try.prog F.cuneiformlaw11_known [] H Q := fun_reck codes_ok 1000 (.bool true) (by kernel_rfl) rfl rfl H Q h
end Go.Proofs.Ytiklfnjmadcgfaa

namespace Go.Proofs.Ytiklfnjmadcgfaa
open Go Go.Am
set_option linter.unusedSimpArgs false
set_option linter.unusedVariables false

abbrev onceC : Ctx := ⟨F.cuneiformlaw11_WindowOnce, 92, [.tmp 4], none⟩

def u32s (xs : List Nat) : List AVal := xs.map fun n : Nat => AVal.int .u32 (n : Int)

theorem u32s_len (xs : List Nat) : (u32s xs).length = xs.length := by simp [u32s]
theorem u32s_get (xs : List Nat) {j : Nat} (h : j < xs.length) : (u32s xs).getD j .junk = .int .u32 ((xs.getD j 0 : Nat) : Int) := by
  simp [u32s, List.getD_eq_getElem?_getD, h]

theorem once_inner (K : List AItem) (H : AHeap) (Q : AVal → AHeap → Prop) {B n : Nat} {come : List Nat} {a : AVal} (ha : Own 1 T.uint32 B H a come.length (u32s come)) (hlen : come.length ≤ 1000) (s l w i : AVal) :
    ∀ (m j : Nat) (old : Bool), come.length - j = m → j ≤ come.length →
    (∀ r', rget r' 0 = s → rget r' 1 = l → rget r' 5 = w → rget r' 6 = a → rget r' 7 = i → rget r' 8 = .int .u32 (n : Int) → rget r' 9 = .bool (old || decide (n ∈ come.drop j)) → Run Try.prog onceC K r' H Q) →
    Rounds Try.prog onceC cuneiformlaw11_WindowOnce.b0 [.inBlock 2] K [(0, s), (1, l), (5, w), (6, a), (7, i), (8, .int .u32 (n : Int)), (9, .bool old), (10, .int .i64 (j : Nat))] H Q
  | m, j, old, h1, h2, h => by
    refine loop_V 100 cuneiformlaw11_WindowOnce.b0.eq_1 ?_
    have hs := ha.slen
    by_cases hj : j < come.length
    · have hld := ha.load (j := j) (by rw [u32s_len]; exact hj)
      rw [u32s_get _ hj] at hld
      have his := ha.isSome
      have hd : come.drop j = come.getD j 0 :: come.drop (j + 1) := by
        rw [List.drop_eq_getElem_cons hj]; simp [hj]
      have hdc : decide (n ∈ come.drop j) = (decide (come.getD j 0 = n) || decide (n ∈ come.drop (j + 1))) := by
        rw [hd]; simp [List.mem_cons, eq_comm]
      cases old with
      | true =>
        simp (disch := first | omega | (simp only [List.length_append, List.length_cons, List.length_nil, List.length_set, List.length_map, List.length_take, List.length_drop]; omega)) only [stdh, goK_s2b, dgoK_s2b, isEff_s2b, isPure_s2b, goK_b2s, dgoK_b2s, isEff_b2s, isPure_b2s, evalOp_s2b, s2bR, goK_mark, dgoK_mark, isEff_mark, isPure_mark, evalOp_mark, markA_slc, markB, ↓reduceIte, Nat.reduceEqDiff, Int.reduceToNat, Int.reducePow, Nat.reduceAdd, Nat.reduceLeDiff, Nat.reduceMul, Nat.reduceBEq, reduceCtorEq, hs, hld, his]
        refine once_inner K H Q ha hlen s l w i _ (j + 1) true rfl (by omega) ?_
        simpa using h
      | false =>
        have hq : (((come.getD j 0 : Nat) : Int) = ((n : Nat) : Int)) ↔ come.getD j 0 = n := by omega
        simp (disch := first | omega | (simp only [List.length_append, List.length_cons, List.length_nil, List.length_set, List.length_map, List.length_take, List.length_drop]; omega)) only [stdh, goK_s2b, dgoK_s2b, isEff_s2b, isPure_s2b, goK_b2s, dgoK_b2s, isEff_b2s, isPure_b2s, evalOp_s2b, s2bR, goK_mark, dgoK_mark, isEff_mark, isPure_mark, evalOp_mark, markA_slc, markB, ↓reduceIte, Nat.reduceEqDiff, Int.reduceToNat, Int.reducePow, Nat.reduceAdd, Nat.reduceLeDiff, Nat.reduceMul, Nat.reduceBEq, reduceCtorEq, hs, hld, his]
        refine once_inner K H Q ha hlen s l w i _ (j + 1) _ rfl (by omega) ?_
        rw [hdc] at h
        intro r' f0 f1 f2 f3 f4 f5 f6
        refine h r' f0 f1 f2 f3 f4 f5 (f6.trans ?_)
        congr 1
        rw [Bool.false_or]
        congr 1
        exact decide_eq_decide.2 hq
    · simp (disch := first | omega | (simp only [List.length_append, List.length_cons, List.length_nil, List.length_set, List.length_map, List.length_take, List.length_drop]; omega)) only [stdh, goK_s2b, dgoK_s2b, isEff_s2b, isPure_s2b, goK_b2s, dgoK_b2s, isEff_b2s, isPure_b2s, evalOp_s2b, s2bR, goK_mark, dgoK_mark, isEff_mark, isPure_mark, evalOp_mark, markA_slc, markB, ↓reduceIte, Nat.reduceEqDiff, Int.reduceToNat, Int.reducePow, Nat.reduceAdd, Nat.reduceLeDiff, Nat.reduceMul, Nat.reduceBEq, reduceCtorEq, hs]
      have : come.drop j = [] := List.drop_eq_nil_of_le (by omega)
      rw [this] at h
      refine h _ ?_ ?_ ?_ ?_ ?_ ?_ ?_ <;> simp (disch := first | omega | (simp only [List.length_append, List.length_cons, List.length_nil, List.length_set, List.length_map, List.length_take, List.length_drop]; omega)) only [stdh, goK_s2b, dgoK_s2b, isEff_s2b, isPure_s2b, goK_b2s, dgoK_b2s, isEff_b2s, isPure_b2s, evalOp_s2b, s2bR, goK_mark, dgoK_mark, isEff_mark, isPure_mark, evalOp_mark, markA_slc, markB, ↓reduceIte, Nat.reduceEqDiff, Int.reduceToNat, Int.reducePow, Nat.reduceAdd, Nat.reduceLeDiff, Nat.reduceMul, Nat.reduceBEq, reduceCtorEq]
      simp
  termination_by m => m

theorem set_same {α : Type} {l : List α} {i : Nat} {x : α} (h : l[i]? = some x) : l.set i x = l := by
  apply List.ext_getElem?
  intro j
  by_cases hj : i = j
  · subst hj
    rw [List.getElem?_set_self (List.getElem?_eq_some_iff.1 h).1, h]
  · rw [List.getElem?_set_ne hj]

theorem run_Ve {P : Program} {c : Ctx} {K : List AItem} {r : Regs} {H : AHeap} {Q : AVal → AHeap → Prop} (n : Nat) (k T : List AItem) (e : K = k ++ T) (h : V P c Q T n (.todo k r H)) : Run P c K r H Q := by subst e; exact run_V n h

theorem once_loop (K : List AItem) (Q : AVal → AHeap → Prop) {s : Nat} {xs : List Nat} (t : Bool) (hs : s < 4294967296) (hb : ∀ x ∈ xs, x < 65536) (hlen : xs.length ≤ 9223372036854775807)
    (hQ : ∀ r' H', Run Try.prog onceC K r' H' Q) :
    ∀ (m i : Nat) (H : AHeap) (a : AVal) (come : List Nat) (top bts : Nat), 200 - i = m → i ≤ 200 → come.length ≤ i → WinAt H 0 top bts → rel s top < 65536 →
    (∀ c ∈ come, Come s top bts c) → Own 1 T.uint32 1 H a come.length (u32s come) →
    Rounds Try.prog onceC cuneiformlaw11_WindowOnce.b1 [.inBlock 0] K [(0, .int .u32 (s : Nat)), (1, nums .u16 t xs), (5, .ptr 0 0), (6, a), (7, .int .i64 (i : Nat))] H Q := by
  intro m
  induction m using Nat.strongRecOn with
  | _ m ih =>
    intro i H a come top bts h1 h2 h3 hw htr hc ha
    refine loop_V 100 cuneiformlaw11_WindowOnce.b1.eq_1 ?_
    by_cases hi : i < xs.length
    · by_cases hi2 : i < 200
      · have hx : xs.getD i 0 < 65536 := by
          rw [List.getD_eq_getElem?_getD]; simp [hi]; exact hb _ (List.getElem_mem hi)
        generalize hxx : xs.getD i 0 = x at hx
        have hcv : IntKind.u32.wrap (x : Int) = (x : Int) := by rw [wrap_u32 (by omega)]
        have hnum : IntKind.u32.wrap (IntKind.u32.wrap ((s : Int) + x) - 100) = ((numOf s x : Nat) : Int) := by
          rw [wrap_u32', wrap_u32']; unfold numOf; omega
        simp (disch := first | omega | (simp only [List.length_append, List.length_cons, List.length_nil, List.length_set, List.length_map, List.length_take, List.length_drop]; omega)) only [stdh, goK_s2b, dgoK_s2b, isEff_s2b, isPure_s2b, goK_b2s, dgoK_b2s, isEff_b2s, isPure_b2s, evalOp_s2b, s2bR, goK_mark, dgoK_mark, isEff_mark, isPure_mark, evalOp_mark, markA_slc, markB, ↓reduceIte, Nat.reduceEqDiff, Int.reduceToNat, Int.reducePow, Nat.reduceAdd, Nat.reduceLeDiff, Nat.reduceMul, Nat.reduceBEq, reduceCtorEq, hxx, hcv, hnum]
        refine once_inner _ H Q ha (by omega) _ _ _ _ _ 0 false rfl (by omega) ?_
        intro r' f0 f1 f2 f3 f4 f5 f6
        refine run_Ve 100 [_, _, _, _, _] K rfl ?_
        simp (disch := first | omega | (simp only [List.length_append, List.length_cons, List.length_nil, List.length_set, List.length_map, List.length_take, List.length_drop]; omega)) only [stdh, goK_s2b, dgoK_s2b, isEff_s2b, isPure_s2b, goK_b2s, dgoK_b2s, isEff_b2s, isPure_b2s, evalOp_s2b, s2bR, goK_mark, dgoK_mark, isEff_mark, isPure_mark, evalOp_mark, markA_slc, markB, ↓reduceIte, Nat.reduceEqDiff, Int.reduceToNat, Int.reducePow, Nat.reduceAdd, Nat.reduceLeDiff, Nat.reduceMul, Nat.reduceBEq, reduceCtorEq, f0, f1, f2, f3, f4, f5, f6]
        refine callK_fn (wtop_ok _ hw _ ?_)
        refine runL_V 60 ?_
        simp (disch := first | omega | (simp only [List.length_append, List.length_cons, List.length_nil, List.length_set, List.length_map, List.length_take, List.length_drop]; omega)) only [stdh, goK_s2b, dgoK_s2b, isEff_s2b, isPure_s2b, goK_b2s, dgoK_b2s, isEff_b2s, isPure_b2s, evalOp_s2b, s2bR, goK_mark, dgoK_mark, isEff_mark, isPure_mark, evalOp_mark, markA_slc, markB, ↓reduceIte, Nat.reduceEqDiff, Int.reduceToNat, Int.reducePow, Nat.reduceAdd, Nat.reduceLeDiff, Nat.reduceMul, Nat.reduceBEq, reduceCtorEq, f0, f1, f2, f3, f4, f5, f6]
        refine callK_fn (wbits_ok _ hw _ ?_)
        refine runL_V 60 ?_
        simp (disch := first | omega | (simp only [List.length_append, List.length_cons, List.length_nil, List.length_set, List.length_map, List.length_take, List.length_drop]; omega)) only [stdh, goK_s2b, dgoK_s2b, isEff_s2b, isPure_s2b, goK_b2s, dgoK_b2s, isEff_b2s, isPure_b2s, evalOp_s2b, s2bR, goK_mark, dgoK_mark, isEff_mark, isPure_mark, evalOp_mark, markA_slc, markB, ↓reduceIte, Nat.reduceEqDiff, Int.reduceToNat, Int.reducePow, Nat.reduceAdd, Nat.reduceLeDiff, Nat.reduceMul, Nat.reduceBEq, reduceCtorEq, f0, f1, f2, f3, f4, f5, f6]
        have hn := num_lt s x
        have hnr := num_rel hs hx
        refine callK_fn (wmark_ok _ hw _ hn _ ?_)
        refine runL_V 60 ?_
        generalize numOf s x = n at *
        by_cases hl : lookW top bts n = 0
        · have hold : decide (n ∈ come) = false := by
            rw [decide_eq_false_iff_not]
            intro hm
            exact come_look hs hw.2.1 htr (hc _ hm) hl
          have hmc := mark_come hs hw.2.1 hn htr (by omega) hl
          have hlt := mark_lt hw.2.1 hw.2.2 hn
          have hp := hw.1
          have hp2 : 0 < H.length := (List.getElem?_eq_some_iff.1 hp).1
          have hl' : ((lookW top bts n : Nat) : Int) = 0 := by omega
          generalize hT : (markW top bts n).1 = top' at *
          generalize hB : (markW top bts n).2 = bts' at *
          have hw2 : WinAt (H.set 0 (.cells [.int .u32 top', .int .u64 bts'] T.window_Window)) 0 top' bts' := ⟨by rw [List.getElem?_set_self hp2], hlt⟩
          have ha2 : Own 1 T.uint32 1 (H.set 0 (.cells [.int .u32 top', .int .u64 bts'] T.window_Window)) a come.length (u32s come) := by
            refine ha.moved fun m hm => ?_
            have := (ha.lt m hm).1
            rw [List.getElem?_set_ne (by omega)]
          generalize hH2 : H.set 0 (.cells [.int .u32 top', .int .u64 bts'] T.window_Window) = H2 at *
          have hlk := come_look hs hw2.2.1 hmc.1 hmc.2.1
          have hlk' : ¬ ((lookW top' bts' n : Nat) : Int) = 0 := by omega
          simp (disch := first | omega | (simp only [List.length_append, List.length_cons, List.length_nil, List.length_set, List.length_map, List.length_take, List.length_drop]; omega)) only [stdh, goK_s2b, dgoK_s2b, isEff_s2b, isPure_s2b, goK_b2s, dgoK_b2s, isEff_b2s, isPure_b2s, evalOp_s2b, s2bR, goK_mark, dgoK_mark, isEff_mark, isPure_mark, evalOp_mark, markA_slc, markB, ↓reduceIte, Nat.reduceEqDiff, Int.reduceToNat, Int.reducePow, Nat.reduceAdd, Nat.reduceLeDiff, Nat.reduceMul, Nat.reduceBEq, reduceCtorEq, f0, f1, f2, f3, f4, f5, f6, hl', hold]
          refine callK_fn (wlook_ok _ hw2 _ hn _ ?_)
          refine runL_V 60 ?_
          simp (disch := first | omega | (simp only [List.length_append, List.length_cons, List.length_nil, List.length_set, List.length_map, List.length_take, List.length_drop]; omega)) only [stdh, goK_s2b, dgoK_s2b, isEff_s2b, isPure_s2b, goK_b2s, dgoK_b2s, isEff_b2s, isPure_b2s, evalOp_s2b, s2bR, goK_mark, dgoK_mark, isEff_mark, isPure_mark, evalOp_mark, markA_slc, markB, ↓reduceIte, Nat.reduceEqDiff, Int.reduceToNat, Int.reducePow, Nat.reduceAdd, Nat.reduceLeDiff, Nat.reduceMul, Nat.reduceBEq, reduceCtorEq, f0, f1, f2, f3, f4, f5, f6, hlk']
          have hp3 : 0 < H2.length := (List.getElem?_eq_some_iff.1 hw2.1).1
          refine resK_append (k := 1) (ys := [.int .u32 (n : Nat)]) (ha2.keep (keeps_append _ _)) (by rw [List.length_append]; omega) rfl ?_ rfl (by omega) (by omega) (by omega) rfl fun v H3 ov ht hnm => ?_
          · simp [srcCells, view, content, at_0, at_k]
          simp (disch := first | omega | (simp only [List.length_append, List.length_cons, List.length_nil, List.length_set, List.length_map, List.length_take, List.length_drop]; omega)) only [stdh, goK_s2b, dgoK_s2b, isEff_s2b, isPure_s2b, goK_b2s, dgoK_b2s, isEff_b2s, isPure_b2s, evalOp_s2b, s2bR, goK_mark, dgoK_mark, isEff_mark, isPure_mark, evalOp_mark, markA_slc, markB, ↓reduceIte, Nat.reduceEqDiff, Int.reduceToNat, Int.reducePow, Nat.reduceAdd, Nat.reduceLeDiff, Nat.reduceMul, Nat.reduceBEq, reduceCtorEq, f0, f1, f2, f3, f4, f5, f6]
          refine ih (200 - (i + 1)) (by omega) (i + 1) H3 v (come ++ [n]) top' bts' rfl (by omega) (by simp; omega) ?_ hmc.1 ?_ ?_
          · refine ⟨?_, hw2.2⟩
            rw [ht.kept 0 (by (first | omega | (simp only [List.length_append, List.length_cons, List.length_nil, List.length_set, List.length_map, List.length_take, List.length_drop]; omega))) (fun hm => by have := (ha2.lt 0 hm).1; omega)]
            rw [at_low (by omega)]
            exact hw2.1
          · intro c hm
            rw [List.mem_append] at hm
            rcases hm with hm | hm
            · exact hmc.2.2 c (hc c hm)
            · rw [List.mem_singleton] at hm; subst hm; exact hmc.2.1
          · simpa [u32s] using ov
        · have hl' : ¬ ((lookW top bts n : Nat) : Int) = 0 := by omega
          have hm : markW top bts n = (top, bts) := by unfold markW; rw [if_pos hl]
          have hset : H.set 0 (.cells [.int .u32 (top : Nat), .int .u64 (bts : Nat)] T.window_Window) = H := set_same hw.1
          rw [hm, hset]
          simp (disch := first | omega | (simp only [List.length_append, List.length_cons, List.length_nil, List.length_set, List.length_map, List.length_take, List.length_drop]; omega)) only [stdh, goK_s2b, dgoK_s2b, isEff_s2b, isPure_s2b, goK_b2s, dgoK_b2s, isEff_b2s, isPure_b2s, evalOp_s2b, s2bR, goK_mark, dgoK_mark, isEff_mark, isPure_mark, evalOp_mark, markA_slc, markB, ↓reduceIte, Nat.reduceEqDiff, Int.reduceToNat, Int.reducePow, Nat.reduceAdd, Nat.reduceLeDiff, Nat.reduceMul, Nat.reduceBEq, reduceCtorEq, f0, f1, f2, f3, f4, f5, f6, hl']
          refine callK_fn (wtop_ok _ hw _ ?_)
          refine runL_V 60 ?_
          simp (disch := first | omega | (simp only [List.length_append, List.length_cons, List.length_nil, List.length_set, List.length_map, List.length_take, List.length_drop]; omega)) only [stdh, goK_s2b, dgoK_s2b, isEff_s2b, isPure_s2b, goK_b2s, dgoK_b2s, isEff_b2s, isPure_b2s, evalOp_s2b, s2bR, goK_mark, dgoK_mark, isEff_mark, isPure_mark, evalOp_mark, markA_slc, markB, ↓reduceIte, Nat.reduceEqDiff, Int.reduceToNat, Int.reducePow, Nat.reduceAdd, Nat.reduceLeDiff, Nat.reduceMul, Nat.reduceBEq, reduceCtorEq, f0, f1, f2, f3, f4, f5, f6]
          refine callK_fn (wbits_ok _ hw _ ?_)
          refine runL_V 60 ?_
          simp (disch := first | omega | (simp only [List.length_append, List.length_cons, List.length_nil, List.length_set, List.length_map, List.length_take, List.length_drop]; omega)) only [stdh, goK_s2b, dgoK_s2b, isEff_s2b, isPure_s2b, goK_b2s, dgoK_b2s, isEff_b2s, isPure_b2s, evalOp_s2b, s2bR, goK_mark, dgoK_mark, isEff_mark, isPure_mark, evalOp_mark, markA_slc, markB, ↓reduceIte, Nat.reduceEqDiff, Int.reduceToNat, Int.reducePow, Nat.reduceAdd, Nat.reduceLeDiff, Nat.reduceMul, Nat.reduceBEq, reduceCtorEq, f0, f1, f2, f3, f4, f5, f6]
          refine callK_fn (wlook_ok _ hw _ hn _ ?_)
          refine runL_V 60 ?_
          simp (disch := first | omega | (simp only [List.length_append, List.length_cons, List.length_nil, List.length_set, List.length_map, List.length_take, List.length_drop]; omega)) only [stdh, goK_s2b, dgoK_s2b, isEff_s2b, isPure_s2b, goK_b2s, dgoK_b2s, isEff_b2s, isPure_b2s, evalOp_s2b, s2bR, goK_mark, dgoK_mark, isEff_mark, isPure_mark, evalOp_mark, markA_slc, markB, ↓reduceIte, Nat.reduceEqDiff, Int.reduceToNat, Int.reducePow, Nat.reduceAdd, Nat.reduceLeDiff, Nat.reduceMul, Nat.reduceBEq, reduceCtorEq, f0, f1, f2, f3, f4, f5, f6, hl']
          exact ih (200 - (i + 1)) (by omega) (i + 1) H a come top bts rfl (by omega) (by omega) hw htr hc ha
      · simp (disch := first | omega | (simp only [List.length_append, List.length_cons, List.length_nil, List.length_set, List.length_map, List.length_take, List.length_drop]; omega)) only [stdh, goK_s2b, dgoK_s2b, isEff_s2b, isPure_s2b, goK_b2s, dgoK_b2s, isEff_b2s, isPure_b2s, evalOp_s2b, s2bR, goK_mark, dgoK_mark, isEff_mark, isPure_mark, evalOp_mark, markA_slc, markB, ↓reduceIte, Nat.reduceEqDiff, Int.reduceToNat, Int.reducePow, Nat.reduceAdd, Nat.reduceLeDiff, Nat.reduceMul, Nat.reduceBEq, reduceCtorEq]
        exact hQ _ _
    · simp (disch := first | omega | (simp only [List.length_append, List.length_cons, List.length_nil, List.length_set, List.length_map, List.length_take, List.length_drop]; omega)) only [stdh, goK_s2b, dgoK_s2b, isEff_s2b, isPure_s2b, goK_b2s, dgoK_b2s, isEff_b2s, isPure_b2s, evalOp_s2b, s2bR, goK_mark, dgoK_mark, isEff_mark, isPure_mark, evalOp_mark, markA_slc, markB, ↓reduceIte, Nat.reduceEqDiff, Int.reduceToNat, Int.reducePow, Nat.reduceAdd, Nat.reduceLeDiff, Nat.reduceMul, Nat.reduceBEq, reduceCtorEq]
      exact hQ _ _

theorem once_ok {s : Nat} {xs : List Nat} (t : Bool) (hs : s < 4294967296) (hb : ∀ x ∈ xs, x < 65536) (hlen : xs.length ≤ 9223372036854775807) :
    FunOK Try.prog F.cuneiformlaw11_WindowOnce [.int .u32 (s : Nat), nums .u16 t xs] [] fun av _ => av = .bool true := by
  refine fun_V 60 cuneiformlaw11_WindowOnce_code rfl ?_
  simp (disch := first | omega | (simp only [List.length_append, List.length_cons, List.length_nil, List.length_set, List.length_map, List.length_take, List.length_drop]; omega)) only [stdh, goK_s2b, dgoK_s2b, isEff_s2b, isPure_s2b, goK_b2s, dgoK_b2s, isEff_b2s, isPure_b2s, evalOp_s2b, s2bR, goK_mark, dgoK_mark, isEff_mark, isPure_mark, evalOp_mark, markA_slc, markB, ↓reduceIte, Nat.reduceEqDiff, Int.reduceToNat, Int.reducePow, Nat.reduceAdd, Nat.reduceLeDiff, Nat.reduceMul, Nat.reduceBEq, reduceCtorEq, cuneiformlaw11_WindowOnce, cuneiformlaw11_WindowOnce.body]
  refine callK_fn (wnew_ok _ _ _ ?_)
  refine runL_V 60 ?_
  simp (disch := first | omega | (simp only [List.length_append, List.length_cons, List.length_nil, List.length_set, List.length_map, List.length_take, List.length_drop]; omega)) only [stdh, goK_s2b, dgoK_s2b, isEff_s2b, isPure_s2b, goK_b2s, dgoK_b2s, isEff_b2s, isPure_b2s, evalOp_s2b, s2bR, goK_mark, dgoK_mark, isEff_mark, isPure_mark, evalOp_mark, markA_slc, markB, ↓reduceIte, Nat.reduceEqDiff, Int.reduceToNat, Int.reducePow, Nat.reduceAdd, Nat.reduceLeDiff, Nat.reduceMul, Nat.reduceBEq, reduceCtorEq, eqA]
  have htop : rel s (addN s (-1)) = 99 := by unfold rel addN; omega
  refine once_loop _ _ t hs hb hlen ?_ 200 0 _ .nils [] (addN s (-1)) 18446744073709551615 (by omega) (by omega) (by simp) ⟨rfl, by unfold addN; omega, by omega⟩ (by omega) (by simp) Own.nil
  intro r' H'
  refine run_V0 60 ?_
  simp (disch := first | omega | (simp only [List.length_append, List.length_cons, List.length_nil, List.length_set, List.length_map, List.length_take, List.length_drop]; omega)) only [stdh, goK_s2b, dgoK_s2b, isEff_s2b, isPure_s2b, goK_b2s, dgoK_b2s, isEff_b2s, isPure_b2s, evalOp_s2b, s2bR, goK_mark, dgoK_mark, isEff_mark, isPure_mark, evalOp_mark, markA_slc, markB, ↓reduceIte, Nat.reduceEqDiff, Int.reduceToNat, Int.reducePow, Nat.reduceAdd, Nat.reduceLeDiff, Nat.reduceMul, Nat.reduceBEq, reduceCtorEq]
  refine callK_fn (known11_ok _ _ ?_)
  refine runL_V 60 ?_
  simp (disch := first | omega | (simp only [List.length_append, List.length_cons, List.length_nil, List.length_set, List.length_map, List.length_take, List.length_drop]; omega)) only [stdh, goK_s2b, dgoK_s2b, isEff_s2b, isPure_s2b, goK_b2s, dgoK_b2s, isEff_b2s, isPure_b2s, evalOp_s2b, s2bR, goK_mark, dgoK_mark, isEff_mark, isPure_mark, evalOp_mark, markA_slc, markB, ↓reduceIte, Nat.reduceEqDiff, Int.reduceToNat, Int.reducePow, Nat.reduceAdd, Nat.reduceLeDiff, Nat.reduceMul, Nat.reduceBEq, reduceCtorEq]
end Go.Proofs.Ytiklfnjmadcgfaa
