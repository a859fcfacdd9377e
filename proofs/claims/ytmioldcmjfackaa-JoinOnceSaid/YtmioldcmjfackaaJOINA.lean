/-
  Lemmas on the way to the statements of this seat. By an AI agent. No person has read it.
-/
import Derived.Test.YtmioldcmjfackaaTABE
set_option linter.unusedSimpArgs false
set_option linter.unusedVariables false

namespace Go.Proofs.Ytmioldcmjfackaa
open Go Go.Am
set_option linter.unusedSimpArgs false
set_option linter.unusedVariables false

def addN (a : Nat) (n : Int) : Nat := (((a : Int) + n) % 4294967296).toNat
theorem addN_lt (a : Nat) (n : Int) : addN a n < 4294967296 := by unfold addN; omega

theorem sadd_ok (H : AHeap) (a : Nat) (n : Int) (Q : AVal → AHeap → Prop) (h : Q (.int .u32 (addN a n)) H) : FunOK Try.prog F.serial_Add [.int .u32 a, .int .i64 n] H Q := by
  refine fun_V 40 serial_Add_code rfl ?_
  have e : IntKind.u32.wrap ((a : Int) + IntKind.u32.wrap n) = (addN a n : Nat) := by
    rw [wrap_u32', wrap_u32']; unfold addN; omega
  simp (disch := first | omega | (simp only [lnx]; omega)) only [stdh, stdx, ↓reduceIte, seval, serial_Add, serial_Add.body, e]
  exact h

theorem sway_ok (H : AHeap) (a b : Nat) (ha : a < 4294967296) (hb : b < 4294967296) (Q : AVal → AHeap → Prop) (h : Q (.int .u32 (wy a b)) H) : FunOK Try.prog F.serial_Way [.int .u32 a, .int .u32 b] H Q := by
  refine fun_V 40 serial_Way_code rfl ?_
  have e : IntKind.u32.wrap ((b : Int) - a) = (wy a b : Nat) := by
    rw [wrap_u32']; unfold wy; omega
  simp (disch := first | omega | (simp only [lnx]; omega)) only [stdh, stdx, ↓reduceIte, seval, serial_Way, serial_Way.body, e]
  exact h


/-- The bit of a number; 0: it is none of these. -/
def bitOf (top n : Nat) : Nat := if wy n top < 64 then 2 ^ wy n top else 0
def lookW (top bts n : Nat) : Nat := if aft n top = true then 0 else if 64 ≤ wy n top then 15 else if bts.testBit (wy n top) = true then 14 else 0
def markW (top bts n : Nat) : Nat × Nat := if lookW top bts n ≠ 0 then (top, bts) else if aft n top = true then (n, bts * 2 ^ min (wy top n) 64 % 18446744073709551616 ||| 1) else (top, bts ||| 2 ^ wy n top)

/-- A window at a name. -/
def WinAt (H : AHeap) (p top bts : Nat) : Prop := H[p]? = some (.cells [.int .u32 top, .int .u64 bts] T.window_Window) ∧ top < 4294967296 ∧ bts < 18446744073709551616

theorem wy_self (n : Nat) (h : n < 4294967296) : wy n n = 0 := by unfold wy; omega

theorem bitOf_lt (top n : Nat) : bitOf top n < 18446744073709551616 := by
  unfold bitOf
  split
  · have : (2 : Nat) ^ wy n top ≤ 2 ^ 63 := Nat.pow_le_pow_right (by omega) (by omega)
    omega
  · omega

theorem wnew_ok (H : AHeap) (s : Nat) (Q : AVal → AHeap → Prop) (h : Q (.ptr H.length 0) (H ++ [.cells [.int .u32 (addN s (-1)), .int .u64 18446744073709551615] T.window_Window])) : FunOK Try.prog F.window_New [.int .u32 s] H Q := by
  refine fun_V 40 window_New_code rfl ?_
  simp (disch := first | omega | (simp only [lnx]; omega)) only [stdh, stdx, ↓reduceIte, seval, window_New, window_New.body]
  refine callK_fn (sadd_ok _ _ _ _ ?_)
  refine runL_V 40 ?_
  simp (disch := first | omega | (simp only [lnx]; omega)) only [stdh, stdx, ↓reduceIte, seval]
  exact h

theorem wbit_ok (H : AHeap) (top bts n : Nat) (ht : top < 4294967296) (hn : n < 4294967296) (Q : AVal → AHeap → Prop) (h : Q (.int .u64 (bitOf top n)) H) : FunOK Try.prog F.window_state_bit [.agg [.int .u32 top, .int .u64 bts], .int .u32 n] H Q := by
  refine fun_iced window_state_bit_code fun _ => ?_
  refine fun_V 40 window_state_bit_code rfl ?_
  simp (disch := first | omega | (simp only [lnx]; omega)) only [stdh, stdx, ↓reduceIte, seval, window_state_bit, window_state_bit.body]
  refine callK_fn (sway_ok _ _ _ hn ht _ ?_)
  refine runL_V 40 ?_
  by_cases hw : wy n top < 64
  · have e : IntKind.u64.wrap (1 * 2 ^ wy n top) = (bitOf top n : Nat) := by
      have hb := bitOf_lt top n
      unfold bitOf at hb ⊢
      rw [if_pos hw] at hb ⊢
      have e0 : ((2 ^ wy n top : Nat) : Int) = (2 : Int) ^ wy n top := by simp
      rw [Int.one_mul, ← e0]
      clear e0
      generalize 2 ^ wy n top = z at *
      exact wrap_u64 (by omega)
    simp (disch := first | omega | (simp only [lnx]; omega)) only [stdh, stdx, ↓reduceIte, seval, e]
    exact ice_none trivial h
  · have e : bitOf top n = 0 := by unfold bitOf; rw [if_neg hw]
    simp (disch := first | omega | (simp only [lnx]; omega)) only [stdh, stdx, ↓reduceIte, seval]
    rw [e] at h
    exact ice_none trivial h

theorem bit_and {b k : Nat} : (b &&& 2 ^ k = 0) ↔ b.testBit k = false := by
  constructor
  · intro h
    have := congrArg (fun x => x.testBit k) h
    simpa [Nat.testBit_and, Nat.testBit_two_pow_self] using this
  · intro h
    apply Nat.eq_of_testBit_eq
    intro i
    rw [Nat.testBit_and, Nat.zero_testBit]
    by_cases hi : k = i
    · subst hi; simp [h]
    · rw [Nat.testBit_two_pow_of_ne hi]; simp

theorem wlook_ok (H : AHeap) {p top bts : Nat} (hw : WinAt H p top bts) (n : Nat) (hn : n < 4294967296) (Q : AVal → AHeap → Prop) (h : Q (.int .i64 (lookW top bts n)) H) : FunOK Try.prog F.window_Window_Look [.ptr p 0, .int .u32 n] H Q := by
  obtain ⟨hc, ht, hb⟩ := hw
  refine fun_V 60 window_Window_Look_code rfl ?_
  simp (disch := first | omega | (simp only [lnx]; omega)) only [stdh, stdx, ↓reduceIte, seval, window_Window_Look, window_Window_Look.body, eqA, hc]
  refine callK_fn (saft_ok _ _ _ hn ht _ ?_)
  refine runL_V 60 ?_
  cases ha : aft n top with
  | true =>
    have e : lookW top bts n = 0 := by simp [lookW, ha]
    rw [e] at h
    simp (disch := first | omega | (simp only [lnx]; omega)) only [stdh, stdx, ↓reduceIte, seval]
    exact h
  | false =>
    simp (disch := first | omega | (simp only [lnx]; omega)) only [stdh, stdx, ↓reduceIte, seval, hc]
    refine callK_fn (wbit_ok _ _ _ _ ht hn _ ?_)
    refine runL_V 60 ?_
    by_cases hq : 64 ≤ wy n top
    · have e : lookW top bts n = 15 := by simp [lookW, ha, hq]
      have e2 : ((bitOf top n : Nat) : Int) = 0 := by unfold bitOf; rw [if_neg (by omega)]; rfl
      rw [e] at h
      simp (disch := first | omega | (simp only [lnx]; omega)) only [stdh, stdx, ↓reduceIte, seval, e2]
      exact h
    · have e2 : ((bitOf top n : Nat) : Int) ≠ 0 := by
        unfold bitOf; rw [if_pos (by omega)]
        have := Nat.two_pow_pos (wy n top)
        omega
      have e3 : bitOf top n = 2 ^ wy n top := by unfold bitOf; rw [if_pos (by omega)]
      simp (disch := first | omega | (simp only [lnx]; omega)) only [stdh, stdx, ↓reduceIte, seval, e2, window_Window_Look.d0, hc]
      refine callD_fn (wbit_ok _ _ _ _ ht hn _ ?_)
      refine ⟨by simp (disch := first | omega | (simp only [lnx]; omega)) only [stdh, stdx, ↓reduceIte, seval, hc], ?_⟩
      refine runD_V 60 ?_
      have e4 := bits_and (k := .u64) rfl (a := bts) (b := bitOf top n) hb (bitOf_lt top n)
      rw [e3] at e4
      by_cases ht : bts.testBit (wy n top) = true
      · have e5 : ¬ ((bts &&& 2 ^ wy n top : Nat) : Int) = 0 := by
          intro h0
          have : bts &&& 2 ^ wy n top = 0 := by omega
          rw [bit_and, ht] at this; cases this
        have e : lookW top bts n = 14 := by simp [lookW, ha, hq, ht]
        rw [e] at h
        simp (disch := first | omega | (simp only [lnx]; omega)) only [stdh, stdx, ↓reduceIte, seval, e3, e4, e5]
        exact h
      · have e5 : ((bts &&& 2 ^ wy n top : Nat) : Int) = 0 := by
          have := bit_and.2 (by simpa using ht : bts.testBit (wy n top) = false)
          omega
        have e : lookW top bts n = 0 := by simp [lookW, ha, hq, ht]
        rw [e] at h
        simp (disch := first | omega | (simp only [lnx]; omega)) only [stdh, stdx, ↓reduceIte, seval, e3, e4, e5]
        exact h

theorem mark_lt {top bts n : Nat} (ht : top < 4294967296) (hb : bts < 18446744073709551616) (hn : n < 4294967296) : (markW top bts n).1 < 4294967296 ∧ (markW top bts n).2 < 18446744073709551616 := by
  unfold markW
  split
  · exact ⟨ht, hb⟩
  · rename_i hl
    split
    · exact ⟨hn, Nat.or_lt_two_pow (n := 64) (Nat.mod_lt _ (by omega)) (by omega)⟩
    · rename_i ha
      refine ⟨ht, ?_⟩
      have hw : wy n top < 64 := by
        refine Classical.byContradiction fun hc => hl ?_
        simp [lookW, ha, show 64 ≤ wy n top by omega] at hl
      exact Nat.or_lt_two_pow (n := 64) hb (Nat.pow_lt_pow_right (by omega) hw)

theorem wmark_ok (H : AHeap) {p top bts : Nat} (hw : WinAt H p top bts) (n : Nat) (hn : n < 4294967296) (Q : AVal → AHeap → Prop)
    (h : Q (.int .i64 (lookW top bts n)) (H.set p (.cells [.int .u32 (markW top bts n).1, .int .u64 (markW top bts n).2] T.window_Window))) : FunOK Try.prog F.window_Window_Mark [.ptr p 0, .int .u32 n] H Q := by
  have hw0 := hw
  obtain ⟨hc, ht, hb⟩ := hw
  have hp : p < H.length := (List.getElem?_eq_some_iff.1 hc).1
  have hml := mark_lt ht hb hn
  refine fun_mut window_Window_Mark_code p fun _ => ?_
  refine fun_V 60 window_Window_Mark_code rfl ?_
  simp (disch := first | omega | (simp only [lnx]; omega)) only [stdh, stdx, ↓reduceIte, seval, window_Window_Mark, window_Window_Mark.body]
  refine callK_fn (wlook_ok _ hw0 n hn _ ?_)
  refine runL_V 60 ?_
  by_cases hl : lookW top bts n = 0
  · have hl' : ((lookW top bts n : Nat) : Int) = 0 := by omega
    simp (disch := first | omega | (simp only [lnx]; omega)) only [stdh, stdx, ↓reduceIte, seval, hl', hc]
    refine callK_fn (saft_ok _ _ _ hn ht _ ?_)
    refine runL_V 60 ?_
    cases ha : aft n top with
    | true =>
      simp (disch := first | omega | (simp only [lnx]; omega)) only [stdh, stdx, ↓reduceIte, seval, window_Window_Mark.d0, hc]
      refine callD_fn (sway_ok _ _ _ ht hn _ ?_)
      refine ⟨by simp (disch := first | omega | (simp only [lnx]; omega)) only [stdh, stdx, ↓reduceIte, seval, hc], ?_⟩
      refine runD_V 60 ?_
      have e : IntKind.u64.wrap ((bts : Int) * 2 ^ min (wy top n) 64) = ((bts * 2 ^ min (wy top n) 64 % 18446744073709551616 : Nat) : Int) := by
        rw [wrap_u64']; simp
      generalize hq : bts * 2 ^ min (wy top n) 64 % 18446744073709551616 = b2 at *
      have hb2 : b2 < 18446744073709551616 := by rw [← hq]; exact Nat.mod_lt _ (by omega)
      simp (disch := first | omega | (simp only [lnx]; omega)) only [stdh, stdx, ↓reduceIte, seval, e, window_Window_Mark.d1]
      refine callD_fn (wbit_ok _ _ _ _ hn hn _ ?_)
      refine ⟨by simp (disch := first | omega | (simp only [lnx]; omega)) only [stdh, stdx, ↓reduceIte, seval], ?_⟩
      refine runD_V 60 ?_
      have e3 : bitOf n n = 1 := by unfold bitOf; rw [wy_self n hn]; rfl
      have e4 : Am.bits .or .u64 (b2 : Int) ((1 : Nat) : Int) = ((b2 ||| 1 : Nat) : Int) := bits_or (k := .u64) rfl (a := b2) (b := 1) hb2 (by decide)
      have e5 : Am.bits .or .u64 (b2 : Int) 1 = ((b2 ||| 1 : Nat) : Int) := e4
      have hm : markW top bts n = (n, b2 ||| 1) := by unfold markW; rw [if_neg (by omega), if_pos ha, hq]
      have hne : (n : Int) ≠ (top : Int) := by
        unfold aft at ha
        simp only [decide_eq_true_eq] at ha
        intro he
        have : n = top := by omega
        rw [this, wy_self top ht] at ha
        omega
      rw [hm] at h
      rw [hl'] at h
      simp (disch := first | omega | (simp only [lnx]; omega)) only [stdh, stdx, ↓reduceIte, seval, e3, e4, e5, window_Window_Mark.d2, hc, at_low, hne, set_low]
      exact mut_set hp (by exact ⟨trivial, trivial, trivial⟩) (by trivial) h
    | false =>
      simp (disch := first | omega | (simp only [lnx]; omega)) only [stdh, stdx, ↓reduceIte, seval, window_Window_Mark.d1]
      refine callD_fn (wbit_ok _ _ _ _ ht hn _ ?_)
      refine ⟨by simp (disch := first | omega | (simp only [lnx]; omega)) only [stdh, stdx, ↓reduceIte, seval], ?_⟩
      refine runD_V 60 ?_
      have hwl : wy n top < 64 := by
        refine Classical.byContradiction fun hcc => ?_
        simp [lookW, ha, show 64 ≤ wy n top by omega] at hl
      have e3 : bitOf top n = 2 ^ wy n top := by unfold bitOf; rw [if_pos hwl]
      have e4 := bits_or (k := .u64) rfl (a := bts) (b := bitOf top n) hb (bitOf_lt top n)
      rw [e3] at e4
      have hm : markW top bts n = (top, bts ||| 2 ^ wy n top) := by unfold markW; rw [if_neg (by omega), if_neg (by simp [ha])]
      rw [hm, hl'] at h
      by_cases hs : ((bts ||| 2 ^ wy n top : Nat) : Int) = (bts : Int)
      · simp (disch := first | omega | (simp only [lnx]; omega)) only [stdh, stdx, ↓reduceIte, seval, e3, e4, window_Window_Mark.d2, hc, at_low, hs]
        rw [show bts ||| 2 ^ wy n top = bts by omega] at h
        exact mut_same hc ⟨trivial, trivial, trivial⟩ trivial h
      · simp (disch := first | omega | (simp only [lnx]; omega)) only [stdh, stdx, ↓reduceIte, seval, e3, e4, window_Window_Mark.d2, hc, at_low, hs, set_low]
        exact mut_set hp (by exact ⟨trivial, trivial, trivial⟩) (by trivial) h
  · have hl' : ((lookW top bts n : Nat) : Int) ≠ 0 := by omega
    simp (disch := first | omega | (simp only [lnx]; omega)) only [stdh, stdx, ↓reduceIte, seval, hl']
    have hm : markW top bts n = (top, bts) := by unfold markW; rw [if_pos hl]
    rw [hm] at h
    have := mut_same (H := H) (L := []) (Q := Q) (av := .int .i64 (lookW top bts n : Nat)) hc ⟨trivial, trivial, trivial⟩ trivial h
    rwa [List.append_nil] at this
set_option linter.unusedSimpArgs false
set_option linter.unusedVariables false

/-- A number, told from the start on. -/
def rel (s x : Nat) : Nat := (x + 100 + 4294967296 - s) % 4294967296

theorem rel_lt (s x : Nat) : rel s x < 4294967296 := Nat.mod_lt _ (by omega)
theorem wy_rel {s x y : Nat} (hs : s < 4294967296) (hx : x < 4294967296) (hy : y < 4294967296) : wy x y = (rel s y + 4294967296 - rel s x) % 4294967296 := by
  unfold wy rel; omega

/-- A number that has come: it is old, or its bit is set. -/
def Come (s top bts c : Nat) : Prop := c < 4294967296 ∧ rel s c ≤ rel s top ∧ (64 ≤ rel s top - rel s c ∨ bts.testBit (rel s top - rel s c) = true)

theorem come_look {s top bts c : Nat} (hs : s < 4294967296) (ht : top < 4294967296) (htr : rel s top < 131072) (h : Come s top bts c) : lookW top bts c ≠ 0 := by
  obtain ⟨hc, h1, h2⟩ := h
  have e1 := wy_rel hs ht hc
  have e2 := wy_rel hs hc ht
  have e3 : wy c top = rel s top - rel s c := by omega
  have ha : aft c top = false := by
    unfold aft
    rw [decide_eq_false_iff_not]
    omega
  unfold lookW
  rw [if_neg (by rw [ha]; simp)]
  rcases h2 with h2 | h2
  · rw [if_pos (by omega)]; omega
  · split
    · omega
    · rw [e3, if_pos h2]; omega

theorem ar_after {w rn rt rc : Nat} (e : w = (rn + 4294967296 - rt) % 4294967296) (hn : rn < 131072) (ht : rt < 131072) (hlt : rt < rn) : w = rn - rt := by omega
theorem ar_diff {w rn rt rc : Nat} (e : w = rn - rt) (hlt : rt < rn) (hc : rc ≤ rt) (h64 : ¬ 64 ≤ rn - rc) : rn - rc - min w 64 = rt - rc ∧ rn - rc < 64 ∧ min w 64 ≤ rn - rc ∧ ¬ 64 ≤ rt - rc := by omega
theorem ar_lt {w rn rt : Nat} (e : w = (rn + 4294967296 - rt) % 4294967296) (hn : rn < 131072) (ht : rt < 131072) (ha : 1 ≤ w ∧ w < 2147483648) : rt < rn := by omega
theorem ar_le {w rn rt : Nat} (e : w = (rn + 4294967296 - rt) % 4294967296) (hn : rn < 131072) (ht : rt < 131072) (ha : ¬ (1 ≤ w ∧ w < 2147483648)) : rn ≤ rt := by omega

theorem ar_back {rn rt : Nat} (hn : rn < 131072) (ht : rt < 131072) (hle : rn ≤ rt) : (rt + 4294967296 - rn) % 4294967296 = rt - rn := by omega

theorem bit_shift (b m k j : Nat) (hk : k < 64) (hm : m ≤ k) (hj : k - m = j) (h : b.testBit j = true) : (b * 2 ^ m % 18446744073709551616 ||| 1).testBit k = true := by
  have q4 : (18446744073709551616 : Nat) = 2 ^ 64 := by decide
  rw [Nat.testBit_or, q4, Nat.testBit_mod_two_pow, Nat.testBit_mul_two_pow, hj, h, decide_eq_true hk, decide_eq_true hm]
  rfl
theorem bit_one (b : Nat) : (b ||| 1).testBit 0 = true := by
  rw [Nat.testBit_or]; simp

theorem mark_come {s top bts n : Nat} (hs : s < 4294967296) (ht : top < 4294967296) (hn : n < 4294967296) (htr : rel s top < 131072) (hnr : rel s n < 131072) (hl : lookW top bts n = 0) :
    rel s (markW top bts n).1 < 131072 ∧ Come s (markW top bts n).1 (markW top bts n).2 n ∧ ∀ c, Come s top bts c → Come s (markW top bts n).1 (markW top bts n).2 c := by
  have e1 := wy_rel hs ht hn
  have e2 := wy_rel hs hn ht
  unfold markW
  rw [if_neg (fun h => h hl)]
  cases ha : aft n top with
  | true =>
    rw [if_pos rfl]
    unfold aft at ha
    rw [decide_eq_true_eq] at ha
    have hlt := ar_lt e1 hnr htr ha
    have e3 := ar_after (rc := 0) e1 hnr htr hlt
    refine ⟨hnr, ⟨hn, Nat.le_refl _, .inr ?_⟩, ?_⟩
    · rw [Nat.sub_self]; exact bit_one _
    · rintro c ⟨hc, h1, h2⟩
      refine ⟨hc, Nat.le_trans h1 (Nat.le_of_lt hlt), ?_⟩
      by_cases h64 : 64 ≤ rel s n - rel s c
      · exact .inl h64
      · right
        obtain ⟨q1, q2, q3, q5⟩ := ar_diff e3 hlt h1 h64
        exact bit_shift _ _ _ _ q2 q3 q1 (h2.resolve_left q5)
  | false =>
    rw [if_neg (by simp)]
    unfold aft at ha
    rw [decide_eq_false_iff_not] at ha
    have hle := ar_le e1 hnr htr ha
    have e3 : wy n top = rel s top - rel s n := by
      rw [e2]; exact ar_back hnr htr hle
    refine ⟨htr, ⟨hn, hle, .inr ?_⟩, ?_⟩
    · rw [e3, Nat.testBit_or, Nat.testBit_two_pow_self, Bool.or_true]
    · rintro c ⟨hc, h1, h2⟩
      refine ⟨hc, h1, ?_⟩
      rcases h2 with h2 | h2
      · exact .inl h2
      · right; rw [Nat.testBit_or, h2, Bool.true_or]

/-- The number that the law makes of one of its numbers. -/
def numOf (s x : Nat) : Nat := (s + x + 4294967296 - 100) % 4294967296

theorem num_rel {s x : Nat} (hs : s < 4294967296) (hx : x < 131072) : rel s (numOf s x) = x := by unfold rel numOf; omega
theorem num_lt (s x : Nat) : numOf s x < 4294967296 := Nat.mod_lt _ (by omega)

theorem wtop_ok (H : AHeap) {p top bts : Nat} (hw : WinAt H p top bts) (Q : AVal → AHeap → Prop) (h : Q (.int .u32 top) H) : FunOK Try.prog F.window_Window_Top [.ptr p 0] H Q := by
  refine fun_V 60 window_Window_Top_code rfl ?_
  simp (disch := first | omega | (simp only [lnx]; omega)) only [stdh, stdx, ↓reduceIte, seval, window_Window_Top, window_Window_Top.body, eqA, hw.1]
  exact h
theorem wbits_ok (H : AHeap) {p top bts : Nat} (hw : WinAt H p top bts) (Q : AVal → AHeap → Prop) (h : Q (.int .u64 bts) H) : FunOK Try.prog F.window_Window_Bits [.ptr p 0] H Q := by
  refine fun_V 60 window_Window_Bits_code rfl ?_
  simp (disch := first | omega | (simp only [lnx]; omega)) only [stdh, stdx, ↓reduceIte, seval, window_Window_Bits, window_Window_Bits.body, eqA, hw.1]
  exact h

set_option linter.unusedSimpArgs false
set_option linter.unusedVariables false

/-! A joiner: its window, its table. -/
structure JoinS (H : AHeap) (J W P M : Nat) (top bts room : Nat) (ord : AVal) (sl : List Sl) : Prop where
  j : H[J]? = some (.cells [.ptr W 0, .ptr P 0] T.join_Joiner)
  w : WinAt H W top bts
  t : TabS H P M room ord sl
  aJ : J ∉ tabF P M ord sl
  aW : W ∉ tabF P M ord sl
theorem JoinS.ne {H : AHeap} {J W P M top bts room : Nat} {ord : AVal} {sl : List Sl} (h : JoinS H J W P M top bts room ord sl) : J ≠ W := fun e => by
  have := h.j; rw [e, h.w.1] at this; cases this
theorem JoinS.lt {H : AHeap} {J W P M top bts room : Nat} {ord : AVal} {sl : List Sl} (h : JoinS H J W P M top bts room ord sl) : J < H.length ∧ W < H.length := ⟨(List.getElem?_eq_some_iff.1 h.j).1, (List.getElem?_eq_some_iff.1 h.w.1).1⟩
theorem JoinS.keeps {H H' : AHeap} {J W P M top bts room : Nat} {ord : AVal} {sl : List Sl} (h : JoinS H J W P M top bts room ord sl) (hk : Keeps H H') : JoinS H' J W P M top bts room ord sl := ⟨hk.get h.j, ⟨hk.get h.w.1, h.w.2⟩, h.t.keeps hk, h.aJ, h.aW⟩
/-- The table has changed. -/
theorem JoinS.table {H H' : AHeap} {J W P M top bts room : Nat} {ord ord' : AVal} {sl sl' : List Sl} (h : JoinS H J W P M top bts room ord sl) (ht : Touches (tabF P M ord sl) H (tabF P M ord' sl') H') (h' : TabS H' P M room ord' sl') : JoinS H' J W P M top bts room ord' sl' := by
  refine ⟨(ht.kept J h.lt.1 h.aJ).trans h.j, ⟨(ht.kept W h.lt.2 h.aW).trans h.w.1, h.w.2⟩, h', fun hm => ?_, fun hm => ?_⟩
  · rcases ht.feet J hm with hh | hh
    · exact h.aJ hh
    · have := h.lt.1; omega
  · rcases ht.feet W hm with hh | hh
    · exact h.aW hh
    · have := h.lt.2; omega
/-- Other blocks have changed. -/
theorem JoinS.keep {H H' : AHeap} {J W P M top bts room : Nat} {ord : AVal} {sl : List Sl} (h : JoinS H J W P M top bts room ord sl) (hk : ∀ m, m = J ∨ m = W ∨ m ∈ tabF P M ord sl → H'[m]? = H[m]?) : JoinS H' J W P M top bts room ord sl :=
  ⟨(hk J (.inl rfl)).trans h.j, ⟨(hk W (.inr (.inl rfl))).trans h.w.1, h.w.2⟩, h.t.keep fun m hm => hk m (.inr (.inr hm)), h.aJ, h.aW⟩

def takeJ (top bts room : Nat) (ts : Ts) (f : Fr) : Ts × OutT × Nat :=
  if checkOf f.h ≠ 0 then (ts, {}, checkOf f.h) else if lookW top bts f.h.s.toNat ≠ 0 then (ts, {}, lookW top bts f.h.s.toNat) else putT room ts f

section
variable {H : AHeap} {J W P M top bts room : Nat} {ord : AVal} {sl : List Sl}

set_option maxRecDepth 10000 in
set_option maxHeartbeats 8000000 in
theorem jtake_ok (h : JoinS H J W P M top bts room ord sl) (f : Fr) (his : is32 f.h.s) (hfl : f.b.length ≤ 1000) (hroom : 1 ≤ room) (Q : AVal → AHeap → Prop)
    (hq : ∀ H' ord' sl', Touches (tabF P M ord sl) H (tabF P M ord' sl') H' → TabS H' P M room ord' sl' → tsOf sl' = (takeJ top bts room (tsOf sl) f).1 → Q (.tup [.agg (encOut (takeJ top bts room (tsOf sl) f).2.1), .int .i64 ((takeJ top bts room (tsOf sl) f).2.2 : Nat)]) H') :
    FunOK Try.prog F.join_Joiner_Take [.ptr J 0, .agg (encFr f)] H Q := by
  obtain ⟨n, hn⟩ := Int.eq_ofNat_of_zero_le his.1
  have hnl : n < 4294967296 := by have := his.2; omega
  have hX : ∀ X, JoinS (H ++ X) J W P M top bts room ord sl := fun X => h.keeps (keeps_append _ _)
  have jx : ∀ X, (H ++ X)[J]? = _ := fun X => (hX X).j
  have bad : ∀ (e : Nat) (X : AHeap), takeJ top bts room (tsOf sl) f = (tsOf sl, {}, e) → Q (.tup [.agg [.nils, .bool false, .bool false, .int .u32 0], .int .i64 (e : Nat)]) (H ++ X) := fun e X he => by
    have := hq (H ++ X) ord sl ⟨by simp, fun m hm => .inl hm, fun m hm _ => at_low hm⟩ (hX X).t (by rw [he])
    rw [he] at this
    exact this
  refine fun_V 100 join_Joiner_Take_code rfl ?_
  simp (disch := first | omega | (simp only [lnx]; omega)) only [stdh, stdx, ↓reduceIte, seval, join_Joiner_Take, join_Joiner_Take.body, encFr, eqA]
  refine callK_fn (check_ok _ f.h _ ?_)
  refine runL_V 60 ?_
  by_cases hc : checkOf f.h = 0
  case neg =>
    have d : decide ((checkOf f.h : Int) = 0) = false := decide_eq_false (by omega)
    simp (disch := first | omega | (simp only [lnx]; omega)) only [stdh, stdx, ↓reduceIte, seval, d]
    exact bad _ _ (by rw [takeJ, if_pos hc])
  rw [hc]
  simp (disch := first | omega | (simp only [lnx]; omega)) only [stdh, stdx, ↓reduceIte, seval, join_Joiner_Take.d0, jx]
  rw [hn]
  refine callD_fn (wlook_ok _ (hX _).w n hnl _ ?_)
  refine ⟨by simp (disch := first | omega | (simp only [lnx]; omega)) only [stdh, stdx, ↓reduceIte, seval, jx, hn], ?_⟩
  refine runD_V 60 ?_
  have ht : f.h.s.toNat = n := by rw [hn]; rfl
  by_cases hl : lookW top bts n = 0
  case neg =>
    have d : decide ((lookW top bts n : Int) = 0) = false := decide_eq_false (by omega)
    simp (disch := first | omega | (simp only [lnx]; omega)) only [stdh, stdx, ↓reduceIte, seval, d, jx]
    exact bad _ _ (by rw [takeJ, if_neg (by omega), ht, if_pos hl])
  have hp : takeJ top bts room (tsOf sl) f = putT room (tsOf sl) f := by rw [takeJ, if_neg (by omega), ht, if_neg (by omega)]
  rw [hp] at hq
  rw [hl]
  simp (disch := first | omega | (simp only [lnx]; omega)) only [stdh, stdx, ↓reduceIte, seval, join_Joiner_Take.d1, jx]
  rw [← hn]
  refine callD_fn (tput_ok (hX _).t f his hfl hroom _ ?_)
  intro H1 ord1 sl1 tt h1 hts
  have hl1 := tt.le
  simp only [List.length_append, List.length_cons, List.length_nil] at hl1
  have hft := h.t.foot
  have nin : ∀ m, H.length ≤ m → m ∉ tabF P M ord sl := fun m hm hh => by have := hft m hh; omega
  have g0 := (tt.kept H.length (by (first | omega | (simp only [lnx]; omega))) (nin _ (by omega))).trans at_0
  have g1 := (tt.kept (H.length + 1) (by (first | omega | (simp only [lnx]; omega))) (nin _ (by omega))).trans at_k
  have jx1 := (tt.kept J (by have := h.lt.1; (first | omega | (simp only [lnx]; omega))) h.aJ).trans (jx _)
  refine ⟨by simp (disch := first | omega | (simp only [lnx]; omega)) only [stdh, stdx, ↓reduceIte, seval, jx, jx1, g0, g1, hn], ?_⟩
  refine runD_V 60 ?_
  generalize putT room (tsOf sl) f = res at *
  obtain ⟨ts', ⟨body, whole, ev, old⟩, e⟩ := res
  simp only at hts hq
  have hbc : (if whole = true then nums .u8 false body else .nils).cellish = true := by cases whole <;> rfl
  simp only [encOut] at hq ⊢
  generalize (if whole = true then nums IntKind.u8 false body else AVal.nils) = bv at *
  simp (disch := first | omega | (simp only [lnx]; omega)) only [stdh, stdx, ↓reduceIte, seval, g0, g1, hbc, List.getElem?_set_self]
  refine hq (H1.set (H.length + 1) _) ord1 sl1 ⟨by simp; omega, fun m hm => ?_, fun m m1 m2 => ?_⟩ (h1.keep fun m hm => ?_) hts
  · rcases tt.feet m hm with hh | hh
    · exact .inl hh
    · exact .inr (by simp only [List.length_append, List.length_cons, List.length_nil] at hh; omega)
  · rw [List.getElem?_set_ne (by omega), tt.kept m (by (first | omega | (simp only [lnx]; omega))) m2, at_low m1]
  · refine List.getElem?_set_ne fun e => ?_
    rcases tt.feet m hm with hh | hh
    · exact nin m (by omega) hh
    · simp only [List.length_append, List.length_cons, List.length_nil] at hh; omega

/-- A number goes from a table, if it is there. -/
theorem drop_any (h : TabS H P M room ord sl) (q : Int) (Q : AVal → AHeap → Prop) (hq : ∀ H' ord' sl' b, Touches (tabF P M ord sl) H (tabF P M ord' sl') H' → TabS H' P M room ord' sl' → Q (.bool b) H') : FunOK Try.prog F.table_Table_Drop [.ptr P 0, .int .u32 q] H Q := by
  cases hh : hasT (tsOf sl) q with
  | false => exact dropT_no h (hasT_no hh) Q (hq H ord sl false (Touches.refl _ _) h)
  | true =>
    obtain ⟨a, x, b, rfl, hx⟩ := hasT_yes hh
    exact dropT_yes h hx Q fun H' ord' t1 t2 => hq H' ord' (a ++ b) true t1 t2

theorem JoinS.mark {n : Nat} (h : JoinS H J W P M top bts room ord sl) (hn : n < 4294967296) : JoinS (H.set W (.cells [.int .u32 (markW top bts n).1, .int .u64 (markW top bts n).2] T.window_Window)) J W P M (markW top bts n).1 (markW top bts n).2 room ord sl :=
  ⟨by rw [List.getElem?_set_ne h.ne.symm]; exact h.j, ⟨List.getElem?_set_self h.lt.2, mark_lt h.w.2.1 h.w.2.2 hn⟩, h.t.keep fun m hm => List.getElem?_set_ne fun e => h.aW (by rw [e]; exact hm), h.aJ, h.aW⟩

set_option maxRecDepth 10000 in
theorem jdone_ok (h : JoinS H J W P M top bts room ord sl) {n : Nat} (hn : n < 4294967296) (Q : AVal → AHeap → Prop)
    (hq : ∀ H' ord' sl', Touches (W :: tabF P M ord sl) H (W :: tabF P M ord' sl') H' → JoinS H' J W P M (markW top bts n).1 (markW top bts n).2 room ord' sl' → Q (.int .i64 (lookW top bts n : Nat)) H') :
    FunOK Try.prog F.join_Joiner_Done [.ptr J 0, .int .u32 (n : Nat)] H Q := by
  refine fun_V 60 join_Joiner_Done_code rfl ?_
  simp (disch := first | omega | (simp only [lnx]; omega)) only [stdh, stdx, ↓reduceIte, seval, join_Joiner_Done, join_Joiner_Done.body, eqA, h.j]
  refine callK_fn (wmark_ok _ h.w n hn _ ?_)
  have h1 := h.mark hn
  have hl1 : (H.set W (.cells [.int .u32 (markW top bts n).1, .int .u64 (markW top bts n).2] T.window_Window)).length = H.length := by simp
  have hk1 : ∀ m, m ≠ W → (H.set W (.cells [.int .u32 (markW top bts n).1, .int .u64 (markW top bts n).2] T.window_Window))[m]? = H[m]? := fun m hm => List.getElem?_set_ne fun e => hm e.symm
  generalize H.set W (.cells [.int .u32 (markW top bts n).1, .int .u64 (markW top bts n).2] T.window_Window) = H1 at *
  refine runL_V 60 ?_
  by_cases hl : lookW top bts n = 0
  · rw [hl] at hq ⊢
    simp (disch := first | omega | (simp only [lnx]; omega)) only [stdh, stdx, ↓reduceIte, seval, h1.j]
    refine callK_fn (drop_any h1.t _ _ ?_)
    intro H2 ord2 sl2 b tt h2
    have hl2 := tt.le
    refine runL_V 60 ?_
    simp (disch := first | omega | (simp only [lnx]; omega)) only [stdh, stdx, ↓reduceIte, seval]
    refine hq H2 ord2 sl2 ⟨by omega, fun m hm => ?_, fun m m1 m2 => ?_⟩ (h1.table tt h2)
    · rcases List.mem_cons.1 hm with rfl | hm
      · exact .inl (by simp)
      · rcases tt.feet m hm with hh | hh
        · exact .inl (by simp [hh])
        · exact .inr (by omega)
    · simp only [List.mem_cons, not_or] at m2
      rw [tt.kept m (by omega) m2.2, hk1 m m2.1]
  · have d : decide ((lookW top bts n : Int) = 0) = false := decide_eq_false (by omega)
    simp (disch := first | omega | (simp only [lnx]; omega)) only [stdh, stdx, ↓reduceIte, seval, d, h1.j]
    refine hq H1 ord sl ⟨by omega, fun m hm => .inl hm, fun m m1 m2 => ?_⟩ h1
    simp only [List.mem_cons, not_or] at m2
    exact hk1 m m2.1

theorem jnew_ok (H : AHeap) {s : Nat} (hs : s < 4294967296) (room : Nat) (hr : 1 ≤ room ∧ room ≤ 16) (Q : AVal → AHeap → Prop) (hq : ∀ H' J W P M, Keeps H H' → H.length ≤ J → H.length ≤ W → H.length ≤ P → H.length ≤ M → JoinS H' J W P M (addN s (-1)) 18446744073709551615 room .nils [] → Q (.tup [.ptr J 0, .int .i64 0]) H') :
    FunOK Try.prog F.join_New [.int .u32 (s : Nat), .int .i64 (room : Nat)] H Q := by
  refine fun_V 60 join_New_code rfl ?_
  simp (disch := first | omega | (simp only [lnx]; omega)) only [stdh, stdx, ↓reduceIte, seval, join_New, join_New.body]
  refine callK_fn (tnew_ok _ room hr _ ?_)
  intro H1 P M hk hP hM hT
  have hl1 := hk.1
  refine runL_V 60 ?_
  simp (disch := first | omega | (simp only [lnx]; omega)) only [stdh, stdx, ↓reduceIte, seval]
  refine callK_fn (wnew_ok _ s _ ?_)
  refine runL_V 60 ?_
  simp (disch := first | omega | (simp only [lnx]; omega)) only [stdh, stdx, ↓reduceIte, seval]
  have hPl := hT.foot P (by simp [tabF])
  have hMl := hT.foot M (by simp [tabF])
  refine hq _ (H1.length + 1) H1.length P M (hk.trans (by simpa using keeps_append _ _)) (by omega) (by omega) (by omega) (by omega) ⟨by simp, ⟨by simp, addN_lt _ _, by omega⟩, by simpa using hT.keeps (keeps_append H1 _), ?_, ?_⟩
  · simp [tabF, slF, AVal.names]; omega
  · simp [tabF, slF, AVal.names]; omega
end

theorem look_again {top bts n : Nat} (ht : top < 4294967296) (hn : n < 4294967296) (hl : lookW top bts n = 0) : lookW (markW top bts n).1 (markW top bts n).2 n = 14 := by
  unfold markW
  rw [if_neg (by omega)]
  by_cases ha : aft n top = true
  · rw [if_pos ha]
    have h0 := wy_self n hn
    unfold lookW
    simp only [h0]
    rw [if_neg (by unfold aft; rw [h0]; simp), if_neg (by omega), if_pos (by rw [Nat.testBit_or]; simp)]
  · rw [if_neg ha]
    unfold lookW at hl ⊢
    rw [if_neg ha] at hl ⊢
    simp only
    by_cases h64 : 64 ≤ wy n top
    · rw [if_pos h64] at hl; omega
    · rw [if_neg h64, if_pos (by rw [Nat.testBit_or, Nat.testBit_two_pow_self, Bool.or_true])]
end Go.Proofs.Ytmioldcmjfackaa
