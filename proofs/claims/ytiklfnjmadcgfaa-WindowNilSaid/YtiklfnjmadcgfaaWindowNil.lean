/-
  whatever the number, the law WindowNil returns true, and the input reads as it did. No condition. By an AI agent. No person has read it.
-/
import Derived.Test.YtiklfnjmadcgfaaLIB
import Derived.Test.YtiklfnjmadcgfaaAm5
import Derived.OpenShut
import Derived.Test.YtiklfnjmadcgfaaRows

namespace Go.Proofs.Ytiklfnjmadcgfaa
open Go Go.Am
set_option linter.unusedSimpArgs false
set_option linter.unusedVariables false

/-- A number, told from the start on. -/
def rel (s x : Nat) : Nat := (x + 100 + 4294967296 - s) % 4294967296

theorem rel_lt (s x : Nat) : rel s x < 4294967296 := Nat.mod_lt _ (by omega)
theorem wy_rel {s x y : Nat} (hs : s < 4294967296) (hx : x < 4294967296) (hy : y < 4294967296) : wy x y = (rel s y + 4294967296 - rel s x) % 4294967296 := by
  unfold wy rel; omega

/-- A number that has come: it is old, or its bit is set. -/
def Come (s top bts c : Nat) : Prop := c < 4294967296 ∧ rel s c ≤ rel s top ∧ (64 ≤ rel s top - rel s c ∨ bts.testBit (rel s top - rel s c) = true)

theorem come_look {s top bts c : Nat} (hs : s < 4294967296) (ht : top < 4294967296) (htr : rel s top < 65536) (h : Come s top bts c) : lookW top bts c ≠ 0 := by
  obtain ⟨hc, h1, h2⟩ := h
  have e1 := wy_rel hs ht hc
  have e2 := wy_rel hs hc ht
  have e3 : wy c top = rel s top - rel s c := by omega
  have ha : aft c top = false := by
    unfold aft
    rw [decide_eq_false_iff_not]
    omega
  unfold lookW
  rw [if_neg (by rw [ha]; simp)]
  rcases h2 with h2 | h2
  · rw [if_pos (by omega)]; omega
  · split
    · omega
    · rw [e3, if_pos h2]; omega

theorem ar_after {w rn rt rc : Nat} (e : w = (rn + 4294967296 - rt) % 4294967296) (hn : rn < 65536) (ht : rt < 65536) (hlt : rt < rn) : w = rn - rt := by omega
theorem ar_diff {w rn rt rc : Nat} (e : w = rn - rt) (hlt : rt < rn) (hc : rc ≤ rt) (h64 : ¬ 64 ≤ rn - rc) : rn - rc - min w 64 = rt - rc ∧ rn - rc < 64 ∧ min w 64 ≤ rn - rc ∧ ¬ 64 ≤ rt - rc := by omega
theorem ar_lt {w rn rt : Nat} (e : w = (rn + 4294967296 - rt) % 4294967296) (hn : rn < 65536) (ht : rt < 65536) (ha : 1 ≤ w ∧ w < 2147483648) : rt < rn := by omega
theorem ar_le {w rn rt : Nat} (e : w = (rn + 4294967296 - rt) % 4294967296) (hn : rn < 65536) (ht : rt < 65536) (ha : ¬ (1 ≤ w ∧ w < 2147483648)) : rn ≤ rt := by omega

theorem ar_back {rn rt : Nat} (hn : rn < 65536) (ht : rt < 65536) (hle : rn ≤ rt) : (rt + 4294967296 - rn) % 4294967296 = rt - rn := by omega

theorem bit_shift (b m k j : Nat) (hk : k < 64) (hm : m ≤ k) (hj : k - m = j) (h : b.testBit j = true) : (b * 2 ^ m % 18446744073709551616 ||| 1).testBit k = true := by
  have q4 : (18446744073709551616 : Nat) = 2 ^ 64 := by decide
  rw [Nat.testBit_or, q4, Nat.testBit_mod_two_pow, Nat.testBit_mul_two_pow, hj, h, decide_eq_true hk, decide_eq_true hm]
  rfl
theorem bit_one (b : Nat) : (b ||| 1).testBit 0 = true := by
  rw [Nat.testBit_or]; simp

theorem mark_come {s top bts n : Nat} (hs : s < 4294967296) (ht : top < 4294967296) (hn : n < 4294967296) (htr : rel s top < 65536) (hnr : rel s n < 65536) (hl : lookW top bts n = 0) :
    rel s (markW top bts n).1 < 65536 ∧ Come s (markW top bts n).1 (markW top bts n).2 n ∧ ∀ c, Come s top bts c → Come s (markW top bts n).1 (markW top bts n).2 c := by
  have e1 := wy_rel hs ht hn
  have e2 := wy_rel hs hn ht
  unfold markW
  rw [if_neg (fun h => h hl)]
  cases ha : aft n top with
  | true =>
    rw [if_pos rfl]
    unfold aft at ha
    rw [decide_eq_true_eq] at ha
    have hlt := ar_lt e1 hnr htr ha
    have e3 := ar_after (rc := 0) e1 hnr htr hlt
    refine ⟨hnr, ⟨hn, Nat.le_refl _, .inr ?_⟩, ?_⟩
    · rw [Nat.sub_self]; exact bit_one _
    · rintro c ⟨hc, h1, h2⟩
      refine ⟨hc, Nat.le_trans h1 (Nat.le_of_lt hlt), ?_⟩
      by_cases h64 : 64 ≤ rel s n - rel s c
      · exact .inl h64
      · right
        obtain ⟨q1, q2, q3, q5⟩ := ar_diff e3 hlt h1 h64
        exact bit_shift _ _ _ _ q2 q3 q1 (h2.resolve_left q5)
  | false =>
    rw [if_neg (by simp)]
    unfold aft at ha
    rw [decide_eq_false_iff_not] at ha
    have hle := ar_le e1 hnr htr ha
    have e3 : wy n top = rel s top - rel s n := by
      rw [e2]; exact ar_back hnr htr hle
    refine ⟨htr, ⟨hn, hle, .inr ?_⟩, ?_⟩
    · rw [e3, Nat.testBit_or, Nat.testBit_two_pow_self, Bool.or_true]
    · rintro c ⟨hc, h1, h2⟩
      refine ⟨hc, h1, ?_⟩
      rcases h2 with h2 | h2
      · exact .inl h2
      · right; rw [Nat.testBit_or, h2, Bool.true_or]

/-- The number that the law makes of one of its numbers. -/
def numOf (s x : Nat) : Nat := (s + x + 4294967296 - 100) % 4294967296

theorem num_rel {s x : Nat} (hs : s < 4294967296) (hx : x < 65536) : rel s (numOf s x) = x := by unfold rel numOf; omega
theorem num_lt (s x : Nat) : numOf s x < 4294967296 := Nat.mod_lt _ (by omega)

theorem wtop_ok (H : AHeap) {p top bts : Nat} (hw : WinAt H p top bts) (Q : AVal → AHeap → Prop) (h : Q (.int .u32 top) H) : FunOK Try.prog F.window_Window_Top [.ptr p 0] H Q := by
  refine fun_V 60 window_Window_Top_code rfl ?_
  simp (disch := first | omega | (simp only [List.length_append, List.length_cons, List.length_nil, List.length_set, List.length_map, List.length_take, List.length_drop]; omega)) only [stdh, ↓reduceIte, Nat.reduceEqDiff, Int.reduceToNat, Int.reducePow, Nat.reduceAdd, Nat.reduceLeDiff, Nat.reduceMul, Nat.reduceBEq, reduceCtorEq, window_Window_Top, window_Window_Top.body, eqA, hw.1]
  exact h
theorem wbits_ok (H : AHeap) {p top bts : Nat} (hw : WinAt H p top bts) (Q : AVal → AHeap → Prop) (h : Q (.int .u64 bts) H) : FunOK Try.prog F.window_Window_Bits [.ptr p 0] H Q := by
  refine fun_V 60 window_Window_Bits_code rfl ?_
  simp (disch := first | omega | (simp only [List.length_append, List.length_cons, List.length_nil, List.length_set, List.length_map, List.length_take, List.length_drop]; omega)) only [stdh, ↓reduceIte, Nat.reduceEqDiff, Int.reduceToNat, Int.reducePow, Nat.reduceAdd, Nat.reduceLeDiff, Nat.reduceMul, Nat.reduceBEq, reduceCtorEq, window_Window_Bits, window_Window_Bits.body, eqA, hw.1]
  exact h

theorem known11_ok (H : AHeap) (Q : AVal → AHeap → Prop) (h : Q (.bool true) H) : FunOK Try.prog F.cuneiformlaw11_known [] H Q := fun_reck codes_ok 1000 (.bool true) (by kernel_rfl) rfl rfl H Q h
end Go.Proofs.Ytiklfnjmadcgfaa

namespace Go.Proofs.Ytiklfnjmadcgfaa
open Go Go.Am
set_option linter.unusedSimpArgs false
set_option linter.unusedVariables false

theorem all1_nil {H : AHeap} {n : Nat} : Iter Try.prog F.window_Window_all_1 [.yld n, cell .nilp] n (fun _ => [.int .u32 0, .bool false]) 0 [] H := by
  intro I hI fp hi hown
  refine fun_V 100 window_Window_all_1_code rfl ?_
  simp (disch := first | omega | (simp only [List.length_append, List.length_cons, List.length_nil, List.length_set, List.length_map, List.length_take, List.length_drop]; omega)) only [stdh, ↓reduceIte, Nat.reduceEqDiff, Int.reduceToNat, Int.reducePow, Nat.reduceAdd, Nat.reduceLeDiff, Nat.reduceMul, Nat.reduceBEq, reduceCtorEq, window_Window_all_1, window_Window_all_1.body]
  refine loop_V 100 window_Window_all_1.b1.eq_1 ?_
  simp (disch := first | omega | (simp only [List.length_append, List.length_cons, List.length_nil, List.length_set, List.length_map, List.length_take, List.length_drop]; omega)) only [stdh, ↓reduceIte, Nat.reduceEqDiff, Int.reduceToNat, Int.reducePow, Nat.reduceAdd, Nat.reduceLeDiff, Nat.reduceMul, Nat.reduceBEq, reduceCtorEq, window_Window_all_1.d0, eqA]
  exact ⟨true, 0, fp, fun _ _ _ => trivial, fun _ => rfl, hi⟩

theorem all_nil (H : AHeap) (Q : AVal → AHeap → Prop) (h : Q (.fn F.window_Window_all_1 [] [cell .nilp]) H) : FunOK Try.prog F.window_Window_all [.nilp] H Q := by
  refine fun_iced window_Window_all_code fun _ => ?_
  refine fun_V 40 window_Window_all_code rfl ?_
  simp (disch := first | omega | (simp only [List.length_append, List.length_cons, List.length_nil, List.length_set, List.length_map, List.length_take, List.length_drop]; omega)) only [stdh, ↓reduceIte, Nat.reduceEqDiff, Int.reduceToNat, Int.reducePow, Nat.reduceAdd, Nat.reduceLeDiff, Nat.reduceMul, Nat.reduceBEq, reduceCtorEq, window_Window_all, window_Window_all.body]
  exact ice_clo1 trivial h

theorem come_nil (H : AHeap) (Q : AVal → AHeap → Prop) (h : Q (.fn F.window_Window_Come_1 [] [cell .nilp]) H) : FunOK Try.prog F.window_Window_Come [.nilp] H Q := by
  refine fun_iced window_Window_Come_code fun _ => ?_
  refine fun_V 40 window_Window_Come_code rfl ?_
  simp (disch := first | omega | (simp only [List.length_append, List.length_cons, List.length_nil, List.length_set, List.length_map, List.length_take, List.length_drop]; omega)) only [stdh, ↓reduceIte, Nat.reduceEqDiff, Int.reduceToNat, Int.reducePow, Nat.reduceAdd, Nat.reduceLeDiff, Nat.reduceMul, Nat.reduceBEq, reduceCtorEq, window_Window_Come, window_Window_Come.body]
  exact ice_clo1 trivial h

theorem come1_nil {H : AHeap} {n : Nat} : Iter Try.prog F.window_Window_Come_1 [.yld n, cell .nilp] n (fun _ => [.int .u32 0]) 0 [] H := by
  intro I hI fp hi hown
  refine fun_V 100 window_Window_Come_1_code rfl ?_
  simp (disch := first | omega | (simp only [List.length_append, List.length_cons, List.length_nil, List.length_set, List.length_map, List.length_take, List.length_drop]; omega)) only [stdh, ↓reduceIte, Nat.reduceEqDiff, Int.reduceToNat, Int.reducePow, Nat.reduceAdd, Nat.reduceLeDiff, Nat.reduceMul, Nat.reduceBEq, reduceCtorEq, window_Window_Come_1, window_Window_Come_1.body]
  refine ⟨rfl, callK_fn (all_nil _ _ ?_)⟩
  refine runL_V 60 ?_
  simp (disch := first | omega | (simp only [List.length_append, List.length_cons, List.length_nil, List.length_set, List.length_map, List.length_take, List.length_drop]; omega)) only [stdh, ↓reduceIte, Nat.reduceEqDiff, Int.reduceToNat, Int.reducePow, Nat.reduceAdd, Nat.reduceLeDiff, Nat.reduceMul, Nat.reduceBEq, reduceCtorEq]
  refine range_vars (g := F.window_Window_all_1) (first := []) (captured := [cell .nilp]) rfl (by intro n hn; cases hn) (item := fun _ => [.int .u32 0, .bool false]) (len := 0) (fun j => rfl) [] (fun _ => none) vars_nil (fun _ _ _ _ hj => absurd hj (by omega)) (fun _ _ _ => all1_nil) ?_ (fun _ _ _ _ _ _ hh => by cases hh)
  intro H' hl hk _ _
  refine run_V0 60 ?_
  simp (disch := first | omega | (simp only [List.length_append, List.length_cons, List.length_nil, List.length_set, List.length_map, List.length_take, List.length_drop]; omega)) only [stdh, ↓reduceIte, Nat.reduceEqDiff, Int.reduceToNat, Int.reducePow, Nat.reduceAdd, Nat.reduceLeDiff, Nat.reduceMul, Nat.reduceBEq, reduceCtorEq]
  refine run_fin rfl rfl trivial ?_
  have hk' : ∀ m, m < H.length → H'[m]? = H[m]? := fun m hm => (hk m (by (first | omega | (simp only [List.length_append, List.length_cons, List.length_nil, List.length_set, List.length_map, List.length_take, List.length_drop]; omega))) (by simp)).trans (List.getElem?_append_left hm)
  have hl' : H.length ≤ H'.length := by simp only [List.length_append, List.length_cons] at hl; omega
  exact ⟨true, 0, fp, hl', fun m hm _ => hk' m hm, fun _ => rfl, (hI.foot true 0).stable _ _ _ hi hl' fun m hm => hk' m ((hI.foot true 0).lt _ _ hi m hm)⟩

theorem missing_nil (H : AHeap) (Q : AVal → AHeap → Prop) (h : Q (.imm [] 0 false) H) : FunOK Try.prog F.window_Window_Missing [.nilp] H Q := by
  refine fun_iced window_Window_Missing_code fun _ => ?_
  refine fun_V 60 window_Window_Missing_code rfl ?_
  simp (disch := first | omega | (simp only [List.length_append, List.length_cons, List.length_nil, List.length_set, List.length_map, List.length_take, List.length_drop]; omega)) only [stdh, ↓reduceIte, Nat.reduceEqDiff, Int.reduceToNat, Int.reducePow, Nat.reduceAdd, Nat.reduceLeDiff, Nat.reduceMul, Nat.reduceBEq, reduceCtorEq, window_Window_Missing, window_Window_Missing.body]
  refine callK_fn (all_nil _ _ ?_)
  refine runL_V 60 ?_
  simp (disch := first | omega | (simp only [List.length_append, List.length_cons, List.length_nil, List.length_set, List.length_map, List.length_take, List.length_drop]; omega)) only [stdh, ↓reduceIte, Nat.reduceEqDiff, Int.reduceToNat, Int.reducePow, Nat.reduceAdd, Nat.reduceLeDiff, Nat.reduceMul, Nat.reduceBEq, reduceCtorEq]
  refine range_vars (g := F.window_Window_all_1) (first := []) (captured := [cell .nilp]) rfl (by intro n hn; cases hn) (item := fun _ => [.int .u32 0, .bool false]) (len := 0) (fun j => rfl) [] (fun _ => none) vars_nil (fun _ _ _ _ hj => absurd hj (by omega)) (fun _ _ _ => all1_nil) ?_ (fun _ _ _ _ _ _ hh => by cases hh)
  intro H' hl hk _ _
  have hk0 : H'[H.length]? = some (.cells [.nils] T.sl_uint32) := (hk _ (by (first | omega | (simp only [List.length_append, List.length_cons, List.length_nil, List.length_set, List.length_map, List.length_take, List.length_drop]; omega))) (by simp)).trans at_0
  have hkk : Keeps H H' := ⟨by simp only [List.length_append, List.length_cons] at hl; omega, fun m hm => (hk m (by (first | omega | (simp only [List.length_append, List.length_cons, List.length_nil, List.length_set, List.length_map, List.length_take, List.length_drop]; omega))) (by simp)).trans (List.getElem?_append_left hm)⟩
  refine run_V0 60 ?_
  simp (disch := first | omega | (simp only [List.length_append, List.length_cons, List.length_nil, List.length_set, List.length_map, List.length_take, List.length_drop]; omega)) only [stdh, ↓reduceIte, Nat.reduceEqDiff, Int.reduceToNat, Int.reducePow, Nat.reduceAdd, Nat.reduceLeDiff, Nat.reduceMul, Nat.reduceBEq, reduceCtorEq, hk0]
  refine callK_fn (fun_reck codes_ok 100 (.tup []) (by kernel_rfl) rfl rfl _ _ ?_)
  refine runL_V 60 ?_
  simp (disch := first | omega | (simp only [List.length_append, List.length_cons, List.length_nil, List.length_set, List.length_map, List.length_take, List.length_drop]; omega)) only [stdh, ↓reduceIte, Nat.reduceEqDiff, Int.reduceToNat, Int.reducePow, Nat.reduceAdd, Nat.reduceLeDiff, Nat.reduceMul, Nat.reduceBEq, reduceCtorEq, hk0]
  exact ice_nils hkk h

theorem look_nil (n : Int) (H : AHeap) (Q : AVal → AHeap → Prop) (h : Q (.int .i64 1) H) : FunOK Try.prog F.window_Window_Look [.nilp, .int .u32 n] H Q := by
  refine fun_V 60 window_Window_Look_code rfl ?_
  simp (disch := first | omega | (simp only [List.length_append, List.length_cons, List.length_nil, List.length_set, List.length_map, List.length_take, List.length_drop]; omega)) only [stdh, ↓reduceIte, Nat.reduceEqDiff, Int.reduceToNat, Int.reducePow, Nat.reduceAdd, Nat.reduceLeDiff, Nat.reduceMul, Nat.reduceBEq, reduceCtorEq, window_Window_Look, window_Window_Look.body, eqA]
  exact h

theorem mark_nil (n : Int) (H : AHeap) (Q : AVal → AHeap → Prop) (h : Q (.int .i64 1) H) : FunOK Try.prog F.window_Window_Mark [.nilp, .int .u32 n] H Q := by
  refine fun_V 60 window_Window_Mark_code rfl ?_
  simp (disch := first | omega | (simp only [List.length_append, List.length_cons, List.length_nil, List.length_set, List.length_map, List.length_take, List.length_drop]; omega)) only [stdh, ↓reduceIte, Nat.reduceEqDiff, Int.reduceToNat, Int.reducePow, Nat.reduceAdd, Nat.reduceLeDiff, Nat.reduceMul, Nat.reduceBEq, reduceCtorEq, window_Window_Mark, window_Window_Mark.body, eqA]
  refine callK_fn (look_nil _ _ _ ?_)
  refine runL_V 60 ?_
  simp (disch := first | omega | (simp only [List.length_append, List.length_cons, List.length_nil, List.length_set, List.length_map, List.length_take, List.length_drop]; omega)) only [stdh, ↓reduceIte, Nat.reduceEqDiff, Int.reduceToNat, Int.reducePow, Nat.reduceAdd, Nat.reduceLeDiff, Nat.reduceMul, Nat.reduceBEq, reduceCtorEq]
  exact h

theorem wnil_ok (n : Int) : FunOK Try.prog F.cuneiformlaw11_WindowNil [.int .u32 n] [] fun av _ => av = .bool true := by
  refine fun_V 60 cuneiformlaw11_WindowNil_code rfl ?_
  simp (disch := first | omega | (simp only [List.length_append, List.length_cons, List.length_nil, List.length_set, List.length_map, List.length_take, List.length_drop]; omega)) only [stdh, ↓reduceIte, Nat.reduceEqDiff, Int.reduceToNat, Int.reducePow, Nat.reduceAdd, Nat.reduceLeDiff, Nat.reduceMul, Nat.reduceBEq, reduceCtorEq, cuneiformlaw11_WindowNil, cuneiformlaw11_WindowNil.body]
  refine callK_fn (come_nil _ _ ?_)
  refine runL_V 60 ?_
  simp (disch := first | omega | (simp only [List.length_append, List.length_cons, List.length_nil, List.length_set, List.length_map, List.length_take, List.length_drop]; omega)) only [stdh, ↓reduceIte, Nat.reduceEqDiff, Int.reduceToNat, Int.reducePow, Nat.reduceAdd, Nat.reduceLeDiff, Nat.reduceMul, Nat.reduceBEq, reduceCtorEq, eqA]
  refine range_vars (g := F.window_Window_Come_1) (first := []) (captured := [cell .nilp]) rfl (by intro n hn; cases hn) (item := fun _ => [.int .u32 0]) (len := 0) (fun j => rfl) [] (fun _ => none) vars_nil (fun _ _ _ _ hj => absurd hj (by omega)) (fun _ _ _ => come1_nil) ?_ (fun _ _ _ _ _ _ hh => by cases hh)
  intro H' hl hk _ _
  have hk0 : H'[0]? = some (.cells [.int .i64 0] T.int) := (hk 0 (by (first | omega | (simp only [List.length_append, List.length_cons, List.length_nil, List.length_set, List.length_map, List.length_take, List.length_drop]; omega))) (by simp)).trans rfl
  clear hk hl
  refine run_V0 60 ?_
  simp (disch := first | omega | (simp only [List.length_append, List.length_cons, List.length_nil, List.length_set, List.length_map, List.length_take, List.length_drop]; omega)) only [stdh, ↓reduceIte, Nat.reduceEqDiff, Int.reduceToNat, Int.reducePow, Nat.reduceAdd, Nat.reduceLeDiff, Nat.reduceMul, Nat.reduceBEq, reduceCtorEq]
  refine callK_fn (known11_ok _ _ ?_)
  refine runL_V 60 ?_
  simp (disch := first | omega | (simp only [List.length_append, List.length_cons, List.length_nil, List.length_set, List.length_map, List.length_take, List.length_drop]; omega)) only [stdh, ↓reduceIte, Nat.reduceEqDiff, Int.reduceToNat, Int.reducePow, Nat.reduceAdd, Nat.reduceLeDiff, Nat.reduceMul, Nat.reduceBEq, reduceCtorEq]
  refine callK_fn (look_nil _ _ _ ?_)
  refine runL_V 60 ?_
  simp (disch := first | omega | (simp only [List.length_append, List.length_cons, List.length_nil, List.length_set, List.length_map, List.length_take, List.length_drop]; omega)) only [stdh, ↓reduceIte, Nat.reduceEqDiff, Int.reduceToNat, Int.reducePow, Nat.reduceAdd, Nat.reduceLeDiff, Nat.reduceMul, Nat.reduceBEq, reduceCtorEq]
  refine callK_fn (mark_nil _ _ _ ?_)
  refine runL_V 60 ?_
  simp (disch := first | omega | (simp only [List.length_append, List.length_cons, List.length_nil, List.length_set, List.length_map, List.length_take, List.length_drop]; omega)) only [stdh, ↓reduceIte, Nat.reduceEqDiff, Int.reduceToNat, Int.reducePow, Nat.reduceAdd, Nat.reduceLeDiff, Nat.reduceMul, Nat.reduceBEq, reduceCtorEq]
  refine callK_fn (fun_reck codes_ok 100 (.int .u32 0) (by kernel_rfl) rfl rfl _ _ ?_)
  refine runL_V 60 ?_
  simp (disch := first | omega | (simp only [List.length_append, List.length_cons, List.length_nil, List.length_set, List.length_map, List.length_take, List.length_drop]; omega)) only [stdh, ↓reduceIte, Nat.reduceEqDiff, Int.reduceToNat, Int.reducePow, Nat.reduceAdd, Nat.reduceLeDiff, Nat.reduceMul, Nat.reduceBEq, reduceCtorEq]
  refine callK_fn (fun_reck codes_ok 100 (.int .u64 0) (by kernel_rfl) rfl rfl _ _ ?_)
  refine runL_V 60 ?_
  simp (disch := first | omega | (simp only [List.length_append, List.length_cons, List.length_nil, List.length_set, List.length_map, List.length_take, List.length_drop]; omega)) only [stdh, ↓reduceIte, Nat.reduceEqDiff, Int.reduceToNat, Int.reducePow, Nat.reduceAdd, Nat.reduceLeDiff, Nat.reduceMul, Nat.reduceBEq, reduceCtorEq, hk0]
  refine callK_fn (missing_nil _ _ ?_)
  refine runL_V 60 ?_
  simp (disch := first | omega | (simp only [List.length_append, List.length_cons, List.length_nil, List.length_set, List.length_map, List.length_take, List.length_drop]; omega)) only [stdh, ↓reduceIte, Nat.reduceEqDiff, Int.reduceToNat, Int.reducePow, Nat.reduceAdd, Nat.reduceLeDiff, Nat.reduceMul, Nat.reduceBEq, reduceCtorEq]
  refine callK_fn (fun_reck codes_ok 100 .nilp (by kernel_rfl) rfl rfl _ _ ?_)
  refine runL_V 60 ?_
  simp (disch := first | omega | (simp only [List.length_append, List.length_cons, List.length_nil, List.length_set, List.length_map, List.length_take, List.length_drop]; omega)) only [stdh, ↓reduceIte, Nat.reduceEqDiff, Int.reduceToNat, Int.reducePow, Nat.reduceAdd, Nat.reduceLeDiff, Nat.reduceMul, Nat.reduceBEq, reduceCtorEq, eqA]
end Go.Proofs.Ytiklfnjmadcgfaa

namespace Go.Proofs.Ytiklfnjmadcgfaa.windowNil
open Go Go.Am Go.ChangeShapes Go.WideShapes Go.ChangeAt Go.RowKit
set_option linter.unusedVariables false

theorem own : ownKnob Try.prog.godebug = none := by kernel_rfl
theorem laidOut : laidOutB Try.prog = true := by kernel_rfl

set_option maxRecDepth 100000 in
theorem lifted (os : Os) (started : os.Started) (H : Type) (enc : TypeId × Value → H) :
    ReturnsInHanded {} Try.checked os F.cuneiformlaw11_WindowNil .any (Rows.windowNilSpec.pre6 enc Try.prog Try.f6 Rows.windowNilRow.domain false) (Rows.windowNilSpec.post enc Try.prog Try.f6 false true false false) := by
  refine returnsInHanded_of_change (C := Try.checked) own started (by kernel_rfl) Try.func6
    (ChangeSpec.witness6 (enc := enc) (C := Try.checked) false ⟨#[], #[.int .u32 0], []⟩ 8 (by kernel_rfl) (by kernel_rfl) (by kernel_rfl) (by kernel_rfl)) ?_
  intro W base args ds gs before hval hW hcnd _
  refine law_calls (shs := [.int .u32]) (tb := 4) laidOut (by kernel_rfl) ?_ (by kernel_rfl) Try.underlying4 rfl ?_ ?_ hval hW
  · intro t ht
    have : ∀ t ∈ Try.f6.params.toList, (Try.prog.readableRec t && decide (t < Try.prog.types.size)) = true := List.all_eq_true.1 (by kernel_rfl)
    simpa using this t ht
  · intro H ds hd
    match ds, hd with
    | [d0], _ => exact ⟨rfl, rfl, rfl⟩
  · rintro xs ⟨a, r, rfl, ⟨s, hs, ws⟩, rfl⟩
    cases hs
    exact wnil_ok s

theorem proved : Rows.WindowNilSaid :=
  OpenClaim.holds_of_wide F.cuneiformlaw11_WindowNil Try.f6 rfl rfl rfl rfl rfl rfl rfl ⟨rfl, rfl, rfl, rfl, rfl⟩ rfl rfl rfl rfl rfl (by kernel_rfl) Try.func6 (by kernel_rfl)
    (of_decide_eq_true (by kernel_rfl)) (by unfold Func.isWrapper; first | (rw [if_pos (by decide +kernel)]; kernel_rfl) | (rw [if_neg (by decide +kernel)]; exact ⟨rfl, rfl⟩))
    (fun os started H enc _ => lifted os started H enc)
end Go.Proofs.Ytiklfnjmadcgfaa.windowNil
