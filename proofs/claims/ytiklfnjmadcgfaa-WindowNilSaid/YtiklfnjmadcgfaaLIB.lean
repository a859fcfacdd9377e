/-
  Lemmas on the way to the statements of this seat. By an AI agent. No person has read it.
-/
import Derived.Test.YtiklfnjmadcgfaaCode
import Derived.Test.YtiklfnjmadcgfaaAm6

namespace Go.Proofs.Ytiklfnjmadcgfaa
open Go Go.Am
set_option linter.unusedSimpArgs false
set_option linter.unusedVariables false

/-- How many steps lead from one to another one. -/
def wy (a b : Nat) : Nat := (b + 4294967296 - a) % 4294967296
def addN (a : Nat) (n : Int) : Nat := (((a : Int) + n) % 4294967296).toNat
def aft (a b : Nat) : Bool := decide (1 ≤ wy b a ∧ wy b a < 2147483648)

theorem wy_lt (a b : Nat) : wy a b < 4294967296 := Nat.mod_lt _ (by omega)
theorem addN_lt (a : Nat) (n : Int) : addN a n < 4294967296 := by unfold addN; omega

theorem sadd_ok (H : AHeap) (a : Nat) (n : Int) (Q : AVal → AHeap → Prop) (h : Q (.int .u32 (addN a n)) H) : FunOK Try.prog F.serial_Add [.int .u32 a, .int .i64 n] H Q := by
  refine fun_V 40 serial_Add_code rfl ?_
  have e : IntKind.u32.wrap ((a : Int) + IntKind.u32.wrap n) = (addN a n : Nat) := by
    rw [wrap_u32', wrap_u32']; unfold addN; omega
  simp (disch := first | omega | (simp only [List.length_append, List.length_cons, List.length_nil, List.length_set, List.length_map, List.length_take, List.length_drop]; omega)) only [stdh, ↓reduceIte, Nat.reduceEqDiff, Int.reduceToNat, Int.reducePow, Nat.reduceAdd, Nat.reduceLeDiff, Nat.reduceMul, Nat.reduceBEq, reduceCtorEq, serial_Add, serial_Add.body, e]
  exact h

theorem sway_ok (H : AHeap) (a b : Nat) (ha : a < 4294967296) (hb : b < 4294967296) (Q : AVal → AHeap → Prop) (h : Q (.int .u32 (wy a b)) H) : FunOK Try.prog F.serial_Way [.int .u32 a, .int .u32 b] H Q := by
  refine fun_V 40 serial_Way_code rfl ?_
  have e : IntKind.u32.wrap ((b : Int) - a) = (wy a b : Nat) := by
    rw [wrap_u32']; unfold wy; omega
  simp (disch := first | omega | (simp only [List.length_append, List.length_cons, List.length_nil, List.length_set, List.length_map, List.length_take, List.length_drop]; omega)) only [stdh, ↓reduceIte, Nat.reduceEqDiff, Int.reduceToNat, Int.reducePow, Nat.reduceAdd, Nat.reduceLeDiff, Nat.reduceMul, Nat.reduceBEq, reduceCtorEq, serial_Way, serial_Way.body, e]
  exact h

/-- The way, with a sign. -/
def dif (a b : Nat) : Int := if wy b a < 2147483648 then wy b a else (wy b a : Int) - 4294967296

theorem sdiff_ok (H : AHeap) (a b : Nat) (ha : a < 4294967296) (hb : b < 4294967296) (Q : AVal → AHeap → Prop) (h : Q (.int .i64 (dif a b)) H) : FunOK Try.prog F.serial_Diff [.int .u32 a, .int .u32 b] H Q := by
  refine fun_V 40 serial_Diff_code rfl ?_
  have e : IntKind.u32.wrap ((a : Int) - b) = (wy b a : Nat) := by
    rw [wrap_u32']; unfold wy; omega
  have hl := wy_lt b a
  have e2 : IntKind.i32.wrap (wy b a : Nat) = dif a b := by
    unfold dif
    simp only [IntKind.wrap, IntKind.bits, IntKind.signed, Bool.true_and, decide_eq_true_eq, ge_iff_le]
    by_cases hh : wy b a < 2147483648
    · rw [if_neg (by omega), if_pos hh]; omega
    · rw [if_pos (by omega), if_neg hh]; omega
  have hr : -2147483648 ≤ dif a b ∧ dif a b < 2147483648 := by unfold dif; split <;> omega
  simp (disch := first | omega | (simp only [List.length_append, List.length_cons, List.length_nil, List.length_set, List.length_map, List.length_take, List.length_drop]; omega)) only [stdh, ↓reduceIte, Nat.reduceEqDiff, Int.reduceToNat, Int.reducePow, Nat.reduceAdd, Nat.reduceLeDiff, Nat.reduceMul, Nat.reduceBEq, reduceCtorEq, serial_Diff, serial_Diff.body, e, e2]
  exact h

theorem saft_ok (H : AHeap) (a b : Nat) (ha : a < 4294967296) (hb : b < 4294967296) (Q : AVal → AHeap → Prop) (h : Q (.bool (aft a b)) H) : FunOK Try.prog F.serial_After [.int .u32 a, .int .u32 b] H Q := by
  refine fun_V 40 serial_After_code rfl ?_
  simp (disch := first | omega | (simp only [List.length_append, List.length_cons, List.length_nil, List.length_set, List.length_map, List.length_take, List.length_drop]; omega)) only [stdh, ↓reduceIte, Nat.reduceEqDiff, Int.reduceToNat, Int.reducePow, Nat.reduceAdd, Nat.reduceLeDiff, Nat.reduceMul, Nat.reduceBEq, reduceCtorEq, serial_After, serial_After.body]
  refine callK_fn (sdiff_ok _ _ _ ha hb _ ?_)
  refine runL_V 40 ?_
  have hl := wy_lt b a
  have e : decide (0 < dif a b) = aft a b := by
    unfold dif aft
    rw [decide_eq_decide]
    split <;> omega
  simp (disch := first | omega | (simp only [List.length_append, List.length_cons, List.length_nil, List.length_set, List.length_map, List.length_take, List.length_drop]; omega)) only [stdh, ↓reduceIte, Nat.reduceEqDiff, Int.reduceToNat, Int.reducePow, Nat.reduceAdd, Nat.reduceLeDiff, Nat.reduceMul, Nat.reduceBEq, reduceCtorEq, e]
  exact h
end Go.Proofs.Ytiklfnjmadcgfaa

namespace Go.Proofs.Ytiklfnjmadcgfaa
open Go Go.Am
set_option linter.unusedSimpArgs false
set_option linter.unusedVariables false

/-- The bit of a number; 0: it is none of these. -/
def bitOf (top n : Nat) : Nat := if wy n top < 64 then 2 ^ wy n top else 0
def lookW (top bts n : Nat) : Nat := if aft n top = true then 0 else if 64 ≤ wy n top then 15 else if bts.testBit (wy n top) = true then 14 else 0
def markW (top bts n : Nat) : Nat × Nat := if lookW top bts n ≠ 0 then (top, bts) else if aft n top = true then (n, bts * 2 ^ min (wy top n) 64 % 18446744073709551616 ||| 1) else (top, bts ||| 2 ^ wy n top)

/-- A window at a name. -/
def WinAt (H : AHeap) (p top bts : Nat) : Prop := H[p]? = some (.cells [.int .u32 top, .int .u64 bts] T.window_Window) ∧ top < 4294967296 ∧ bts < 18446744073709551616

theorem wy_self (n : Nat) (h : n < 4294967296) : wy n n = 0 := by unfold wy; omega

theorem bitOf_lt (top n : Nat) : bitOf top n < 18446744073709551616 := by
  unfold bitOf
  split
  · have : (2 : Nat) ^ wy n top ≤ 2 ^ 63 := Nat.pow_le_pow_right (by omega) (by omega)
    omega
  · omega

theorem wnew_ok (H : AHeap) (s : Nat) (Q : AVal → AHeap → Prop) (h : Q (.ptr H.length 0) (H ++ [.cells [.int .u32 (addN s (-1)), .int .u64 18446744073709551615] T.window_Window])) : FunOK Try.prog F.window_New [.int .u32 s] H Q := by
  refine fun_V 40 window_New_code rfl ?_
  simp (disch := first | omega | (simp only [List.length_append, List.length_cons, List.length_nil, List.length_set, List.length_map, List.length_take, List.length_drop]; omega)) only [stdh, ↓reduceIte, Nat.reduceEqDiff, Int.reduceToNat, Int.reducePow, Nat.reduceAdd, Nat.reduceLeDiff, Nat.reduceMul, Nat.reduceBEq, reduceCtorEq, window_New, window_New.body]
  refine callK_fn (sadd_ok _ _ _ _ ?_)
  refine runL_V 40 ?_
  simp (disch := first | omega | (simp only [List.length_append, List.length_cons, List.length_nil, List.length_set, List.length_map, List.length_take, List.length_drop]; omega)) only [stdh, ↓reduceIte, Nat.reduceEqDiff, Int.reduceToNat, Int.reducePow, Nat.reduceAdd, Nat.reduceLeDiff, Nat.reduceMul, Nat.reduceBEq, reduceCtorEq]
  exact h

theorem wbit_ok (H : AHeap) (top bts n : Nat) (ht : top < 4294967296) (hn : n < 4294967296) (Q : AVal → AHeap → Prop) (h : Q (.int .u64 (bitOf top n)) H) : FunOK Try.prog F.window_state_bit [.agg [.int .u32 top, .int .u64 bts], .int .u32 n] H Q := by
  refine fun_iced window_state_bit_code fun _ => ?_
  refine fun_V 40 window_state_bit_code rfl ?_
  simp (disch := first | omega | (simp only [List.length_append, List.length_cons, List.length_nil, List.length_set, List.length_map, List.length_take, List.length_drop]; omega)) only [stdh, ↓reduceIte, Nat.reduceEqDiff, Int.reduceToNat, Int.reducePow, Nat.reduceAdd, Nat.reduceLeDiff, Nat.reduceMul, Nat.reduceBEq, reduceCtorEq, window_state_bit, window_state_bit.body]
  refine callK_fn (sway_ok _ _ _ hn ht _ ?_)
  refine runL_V 40 ?_
  by_cases hw : wy n top < 64
  · have e : IntKind.u64.wrap (1 * 2 ^ wy n top) = (bitOf top n : Nat) := by
      have hb := bitOf_lt top n
      unfold bitOf at hb ⊢
      rw [if_pos hw] at hb ⊢
      have e0 : ((2 ^ wy n top : Nat) : Int) = (2 : Int) ^ wy n top := by simp
      rw [Int.one_mul, ← e0]
      clear e0
      generalize 2 ^ wy n top = z at *
      exact wrap_u64 (by omega)
    simp (disch := first | omega | (simp only [List.length_append, List.length_cons, List.length_nil, List.length_set, List.length_map, List.length_take, List.length_drop]; omega)) only [stdh, ↓reduceIte, Nat.reduceEqDiff, Int.reduceToNat, Int.reducePow, Nat.reduceAdd, Nat.reduceLeDiff, Nat.reduceMul, Nat.reduceBEq, reduceCtorEq, e]
    exact ice_none trivial h
  · have e : bitOf top n = 0 := by unfold bitOf; rw [if_neg hw]
    simp (disch := first | omega | (simp only [List.length_append, List.length_cons, List.length_nil, List.length_set, List.length_map, List.length_take, List.length_drop]; omega)) only [stdh, ↓reduceIte, Nat.reduceEqDiff, Int.reduceToNat, Int.reducePow, Nat.reduceAdd, Nat.reduceLeDiff, Nat.reduceMul, Nat.reduceBEq, reduceCtorEq]
    rw [e] at h
    exact ice_none trivial h

theorem bit_and {b k : Nat} : (b &&& 2 ^ k = 0) ↔ b.testBit k = false := by
  constructor
  · intro h
    have := congrArg (fun x => x.testBit k) h
    simpa [Nat.testBit_and, Nat.testBit_two_pow_self] using this
  · intro h
    apply Nat.eq_of_testBit_eq
    intro i
    rw [Nat.testBit_and, Nat.zero_testBit]
    by_cases hi : k = i
    · subst hi; simp [h]
    · rw [Nat.testBit_two_pow_of_ne hi]; simp

theorem wlook_ok (H : AHeap) {p top bts : Nat} (hw : WinAt H p top bts) (n : Nat) (hn : n < 4294967296) (Q : AVal → AHeap → Prop) (h : Q (.int .i64 (lookW top bts n)) H) : FunOK Try.prog F.window_Window_Look [.ptr p 0, .int .u32 n] H Q := by
  obtain ⟨hc, ht, hb⟩ := hw
  refine fun_V 60 window_Window_Look_code rfl ?_
  simp (disch := first | omega | (simp only [List.length_append, List.length_cons, List.length_nil, List.length_set, List.length_map, List.length_take, List.length_drop]; omega)) only [stdh, ↓reduceIte, Nat.reduceEqDiff, Int.reduceToNat, Int.reducePow, Nat.reduceAdd, Nat.reduceLeDiff, Nat.reduceMul, Nat.reduceBEq, reduceCtorEq, window_Window_Look, window_Window_Look.body, eqA, hc]
  refine callK_fn (saft_ok _ _ _ hn ht _ ?_)
  refine runL_V 60 ?_
  cases ha : aft n top with
  | true =>
    have e : lookW top bts n = 0 := by simp [lookW, ha]
    rw [e] at h
    simp (disch := first | omega | (simp only [List.length_append, List.length_cons, List.length_nil, List.length_set, List.length_map, List.length_take, List.length_drop]; omega)) only [stdh, ↓reduceIte, Nat.reduceEqDiff, Int.reduceToNat, Int.reducePow, Nat.reduceAdd, Nat.reduceLeDiff, Nat.reduceMul, Nat.reduceBEq, reduceCtorEq]
    exact h
  | false =>
    simp (disch := first | omega | (simp only [List.length_append, List.length_cons, List.length_nil, List.length_set, List.length_map, List.length_take, List.length_drop]; omega)) only [stdh, ↓reduceIte, Nat.reduceEqDiff, Int.reduceToNat, Int.reducePow, Nat.reduceAdd, Nat.reduceLeDiff, Nat.reduceMul, Nat.reduceBEq, reduceCtorEq, hc]
    refine callK_fn (wbit_ok _ _ _ _ ht hn _ ?_)
    refine runL_V 60 ?_
    by_cases hq : 64 ≤ wy n top
    · have e : lookW top bts n = 15 := by simp [lookW, ha, hq]
      have e2 : ((bitOf top n : Nat) : Int) = 0 := by unfold bitOf; rw [if_neg (by omega)]; rfl
      rw [e] at h
      simp (disch := first | omega | (simp only [List.length_append, List.length_cons, List.length_nil, List.length_set, List.length_map, List.length_take, List.length_drop]; omega)) only [stdh, ↓reduceIte, Nat.reduceEqDiff, Int.reduceToNat, Int.reducePow, Nat.reduceAdd, Nat.reduceLeDiff, Nat.reduceMul, Nat.reduceBEq, reduceCtorEq, e2]
      exact h
    · have e2 : ((bitOf top n : Nat) : Int) ≠ 0 := by
        unfold bitOf; rw [if_pos (by omega)]
        have := Nat.two_pow_pos (wy n top)
        omega
      have e3 : bitOf top n = 2 ^ wy n top := by unfold bitOf; rw [if_pos (by omega)]
      simp (disch := first | omega | (simp only [List.length_append, List.length_cons, List.length_nil, List.length_set, List.length_map, List.length_take, List.length_drop]; omega)) only [stdh, ↓reduceIte, Nat.reduceEqDiff, Int.reduceToNat, Int.reducePow, Nat.reduceAdd, Nat.reduceLeDiff, Nat.reduceMul, Nat.reduceBEq, reduceCtorEq, e2, window_Window_Look.d0, hc]
      refine callD_fn (wbit_ok _ _ _ _ ht hn _ ?_)
      refine ⟨by simp (disch := first | omega | (simp only [List.length_append, List.length_cons, List.length_nil, List.length_set, List.length_map, List.length_take, List.length_drop]; omega)) only [stdh, ↓reduceIte, Nat.reduceEqDiff, Int.reduceToNat, Int.reducePow, Nat.reduceAdd, Nat.reduceLeDiff, Nat.reduceMul, Nat.reduceBEq, reduceCtorEq, hc], ?_⟩
      refine runD_V 60 ?_
      have e4 := bits_and (k := .u64) rfl (a := bts) (b := bitOf top n) hb (bitOf_lt top n)
      rw [e3] at e4
      by_cases ht : bts.testBit (wy n top) = true
      · have e5 : ¬ ((bts &&& 2 ^ wy n top : Nat) : Int) = 0 := by
          intro h0
          have : bts &&& 2 ^ wy n top = 0 := by omega
          rw [bit_and, ht] at this; cases this
        have e : lookW top bts n = 14 := by simp [lookW, ha, hq, ht]
        rw [e] at h
        simp (disch := first | omega | (simp only [List.length_append, List.length_cons, List.length_nil, List.length_set, List.length_map, List.length_take, List.length_drop]; omega)) only [stdh, ↓reduceIte, Nat.reduceEqDiff, Int.reduceToNat, Int.reducePow, Nat.reduceAdd, Nat.reduceLeDiff, Nat.reduceMul, Nat.reduceBEq, reduceCtorEq, e3, e4, e5]
        exact h
      · have e5 : ((bts &&& 2 ^ wy n top : Nat) : Int) = 0 := by
          have := bit_and.2 (by simpa using ht : bts.testBit (wy n top) = false)
          omega
        have e : lookW top bts n = 0 := by simp [lookW, ha, hq, ht]
        rw [e] at h
        simp (disch := first | omega | (simp only [List.length_append, List.length_cons, List.length_nil, List.length_set, List.length_map, List.length_take, List.length_drop]; omega)) only [stdh, ↓reduceIte, Nat.reduceEqDiff, Int.reduceToNat, Int.reducePow, Nat.reduceAdd, Nat.reduceLeDiff, Nat.reduceMul, Nat.reduceBEq, reduceCtorEq, e3, e4, e5]
        exact h

theorem mark_lt {top bts n : Nat} (ht : top < 4294967296) (hb : bts < 18446744073709551616) (hn : n < 4294967296) : (markW top bts n).1 < 4294967296 ∧ (markW top bts n).2 < 18446744073709551616 := by
  unfold markW
  split
  · exact ⟨ht, hb⟩
  · rename_i hl
    split
    · exact ⟨hn, Nat.or_lt_two_pow (n := 64) (Nat.mod_lt _ (by omega)) (by omega)⟩
    · rename_i ha
      refine ⟨ht, ?_⟩
      have hw : wy n top < 64 := by
        refine Classical.byContradiction fun hc => hl ?_
        simp [lookW, ha, show 64 ≤ wy n top by omega] at hl
      exact Nat.or_lt_two_pow (n := 64) hb (Nat.pow_lt_pow_right (by omega) hw)

theorem wmark_ok (H : AHeap) {p top bts : Nat} (hw : WinAt H p top bts) (n : Nat) (hn : n < 4294967296) (Q : AVal → AHeap → Prop)
    (h : Q (.int .i64 (lookW top bts n)) (H.set p (.cells [.int .u32 (markW top bts n).1, .int .u64 (markW top bts n).2] T.window_Window))) : FunOK Try.prog F.window_Window_Mark [.ptr p 0, .int .u32 n] H Q := by
  have hw0 := hw
  obtain ⟨hc, ht, hb⟩ := hw
  have hp : p < H.length := (List.getElem?_eq_some_iff.1 hc).1
  have hml := mark_lt ht hb hn
  refine fun_mut window_Window_Mark_code p fun _ => ?_
  refine fun_V 60 window_Window_Mark_code rfl ?_
  simp (disch := first | omega | (simp only [List.length_append, List.length_cons, List.length_nil, List.length_set, List.length_map, List.length_take, List.length_drop]; omega)) only [stdh, ↓reduceIte, Nat.reduceEqDiff, Int.reduceToNat, Int.reducePow, Nat.reduceAdd, Nat.reduceLeDiff, Nat.reduceMul, Nat.reduceBEq, reduceCtorEq, window_Window_Mark, window_Window_Mark.body]
  refine callK_fn (wlook_ok _ hw0 n hn _ ?_)
  refine runL_V 60 ?_
  by_cases hl : lookW top bts n = 0
  · have hl' : ((lookW top bts n : Nat) : Int) = 0 := by omega
    simp (disch := first | omega | (simp only [List.length_append, List.length_cons, List.length_nil, List.length_set, List.length_map, List.length_take, List.length_drop]; omega)) only [stdh, ↓reduceIte, Nat.reduceEqDiff, Int.reduceToNat, Int.reducePow, Nat.reduceAdd, Nat.reduceLeDiff, Nat.reduceMul, Nat.reduceBEq, reduceCtorEq, hl', hc]
    refine callK_fn (saft_ok _ _ _ hn ht _ ?_)
    refine runL_V 60 ?_
    cases ha : aft n top with
    | true =>
      simp (disch := first | omega | (simp only [List.length_append, List.length_cons, List.length_nil, List.length_set, List.length_map, List.length_take, List.length_drop]; omega)) only [stdh, ↓reduceIte, Nat.reduceEqDiff, Int.reduceToNat, Int.reducePow, Nat.reduceAdd, Nat.reduceLeDiff, Nat.reduceMul, Nat.reduceBEq, reduceCtorEq, window_Window_Mark.d0, hc]
      refine callD_fn (sway_ok _ _ _ ht hn _ ?_)
      refine ⟨by simp (disch := first | omega | (simp only [List.length_append, List.length_cons, List.length_nil, List.length_set, List.length_map, List.length_take, List.length_drop]; omega)) only [stdh, ↓reduceIte, Nat.reduceEqDiff, Int.reduceToNat, Int.reducePow, Nat.reduceAdd, Nat.reduceLeDiff, Nat.reduceMul, Nat.reduceBEq, reduceCtorEq, hc], ?_⟩
      refine runD_V 60 ?_
      have e : IntKind.u64.wrap ((bts : Int) * 2 ^ min (wy top n) 64) = ((bts * 2 ^ min (wy top n) 64 % 18446744073709551616 : Nat) : Int) := by
        rw [wrap_u64']; simp
      generalize hq : bts * 2 ^ min (wy top n) 64 % 18446744073709551616 = b2 at *
      have hb2 : b2 < 18446744073709551616 := by rw [← hq]; exact Nat.mod_lt _ (by omega)
      simp (disch := first | omega | (simp only [List.length_append, List.length_cons, List.length_nil, List.length_set, List.length_map, List.length_take, List.length_drop]; omega)) only [stdh, ↓reduceIte, Nat.reduceEqDiff, Int.reduceToNat, Int.reducePow, Nat.reduceAdd, Nat.reduceLeDiff, Nat.reduceMul, Nat.reduceBEq, reduceCtorEq, e, window_Window_Mark.d1]
      refine callD_fn (wbit_ok _ _ _ _ hn hn _ ?_)
      refine ⟨by simp (disch := first | omega | (simp only [List.length_append, List.length_cons, List.length_nil, List.length_set, List.length_map, List.length_take, List.length_drop]; omega)) only [stdh, ↓reduceIte, Nat.reduceEqDiff, Int.reduceToNat, Int.reducePow, Nat.reduceAdd, Nat.reduceLeDiff, Nat.reduceMul, Nat.reduceBEq, reduceCtorEq], ?_⟩
      refine runD_V 60 ?_
      have e3 : bitOf n n = 1 := by unfold bitOf; rw [wy_self n hn]; rfl
      have e4 : Am.bits .or .u64 (b2 : Int) ((1 : Nat) : Int) = ((b2 ||| 1 : Nat) : Int) := bits_or (k := .u64) rfl (a := b2) (b := 1) hb2 (by decide)
      have hm : markW top bts n = (n, b2 ||| 1) := by unfold markW; rw [if_neg (by omega), if_pos ha, hq]
      have hne : (n : Int) ≠ (top : Int) := by
        unfold aft at ha
        simp only [decide_eq_true_eq] at ha
        intro he
        have : n = top := by omega
        rw [this, wy_self top ht] at ha
        omega
      rw [hm] at h
      rw [hl'] at h
      simp (disch := first | omega | (simp only [List.length_append, List.length_cons, List.length_nil, List.length_set, List.length_map, List.length_take, List.length_drop]; omega)) only [stdh, ↓reduceIte, Nat.reduceEqDiff, Int.reduceToNat, Int.reducePow, Nat.reduceAdd, Nat.reduceLeDiff, Nat.reduceMul, Nat.reduceBEq, reduceCtorEq, e3, e4, window_Window_Mark.d2, hc, at_low, hne, set_low]
      exact mut_set hp (by exact ⟨trivial, trivial, trivial⟩) (by trivial) h
    | false =>
      simp (disch := first | omega | (simp only [List.length_append, List.length_cons, List.length_nil, List.length_set, List.length_map, List.length_take, List.length_drop]; omega)) only [stdh, ↓reduceIte, Nat.reduceEqDiff, Int.reduceToNat, Int.reducePow, Nat.reduceAdd, Nat.reduceLeDiff, Nat.reduceMul, Nat.reduceBEq, reduceCtorEq, window_Window_Mark.d1]
      refine callD_fn (wbit_ok _ _ _ _ ht hn _ ?_)
      refine ⟨by simp (disch := first | omega | (simp only [List.length_append, List.length_cons, List.length_nil, List.length_set, List.length_map, List.length_take, List.length_drop]; omega)) only [stdh, ↓reduceIte, Nat.reduceEqDiff, Int.reduceToNat, Int.reducePow, Nat.reduceAdd, Nat.reduceLeDiff, Nat.reduceMul, Nat.reduceBEq, reduceCtorEq], ?_⟩
      refine runD_V 60 ?_
      have hwl : wy n top < 64 := by
        refine Classical.byContradiction fun hcc => ?_
        simp [lookW, ha, show 64 ≤ wy n top by omega] at hl
      have e3 : bitOf top n = 2 ^ wy n top := by unfold bitOf; rw [if_pos hwl]
      have e4 := bits_or (k := .u64) rfl (a := bts) (b := bitOf top n) hb (bitOf_lt top n)
      rw [e3] at e4
      have hm : markW top bts n = (top, bts ||| 2 ^ wy n top) := by unfold markW; rw [if_neg (by omega), if_neg (by simp [ha])]
      rw [hm, hl'] at h
      by_cases hs : ((bts ||| 2 ^ wy n top : Nat) : Int) = (bts : Int)
      · simp (disch := first | omega | (simp only [List.length_append, List.length_cons, List.length_nil, List.length_set, List.length_map, List.length_take, List.length_drop]; omega)) only [stdh, ↓reduceIte, Nat.reduceEqDiff, Int.reduceToNat, Int.reducePow, Nat.reduceAdd, Nat.reduceLeDiff, Nat.reduceMul, Nat.reduceBEq, reduceCtorEq, e3, e4, window_Window_Mark.d2, hc, at_low, hs]
        rw [show bts ||| 2 ^ wy n top = bts by omega] at h
        exact mut_same hc ⟨trivial, trivial, trivial⟩ trivial h
      · simp (disch := first | omega | (simp only [List.length_append, List.length_cons, List.length_nil, List.length_set, List.length_map, List.length_take, List.length_drop]; omega)) only [stdh, ↓reduceIte, Nat.reduceEqDiff, Int.reduceToNat, Int.reducePow, Nat.reduceAdd, Nat.reduceLeDiff, Nat.reduceMul, Nat.reduceBEq, reduceCtorEq, e3, e4, window_Window_Mark.d2, hc, at_low, hs, set_low]
        exact mut_set hp (by exact ⟨trivial, trivial, trivial⟩) (by trivial) h
  · have hl' : ((lookW top bts n : Nat) : Int) ≠ 0 := by omega
    simp (disch := first | omega | (simp only [List.length_append, List.length_cons, List.length_nil, List.length_set, List.length_map, List.length_take, List.length_drop]; omega)) only [stdh, ↓reduceIte, Nat.reduceEqDiff, Int.reduceToNat, Int.reducePow, Nat.reduceAdd, Nat.reduceLeDiff, Nat.reduceMul, Nat.reduceBEq, reduceCtorEq, hl']
    have hm : markW top bts n = (top, bts) := by unfold markW; rw [if_pos hl]
    rw [hm] at h
    have := mut_same (H := H) (L := []) (Q := Q) (av := .int .i64 (lookW top bts n : Nat)) hc ⟨trivial, trivial, trivial⟩ trivial h
    rwa [List.append_nil] at this
end Go.Proofs.Ytiklfnjmadcgfaa
