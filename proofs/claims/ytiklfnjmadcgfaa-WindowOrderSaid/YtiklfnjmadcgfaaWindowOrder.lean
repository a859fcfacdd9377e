/-
  WindowOrderSaid: whatever the two numbers and the bytes, the law WindowOrder returns true. No condition. By an AI agent. No person has read it.
-/
import Derived.Test.YtiklfnjmadcgfaaITER
import Derived.Test.YtiklfnjmadcgfaaAm6
import Derived.OpenShut
import Derived.Test.YtiklfnjmadcgfaaRows

namespace Go.Proofs.Ytiklfnjmadcgfaa
open Go Go.Am
set_option linter.unusedSimpArgs false
set_option linter.unusedVariables false

def numO (s x : Nat) : Nat := (s + x) % 4294967296
theorem numO_lt (s x : Nat) : numO s x < 4294967296 := Nat.mod_lt _ (by omega)

/-- A window behind i numbers: M is one above the greatest. -/
structure OW (s : Nat) (τ : Nat → Nat) (i M top bts : Nat) : Prop where
  top : top = (s + 4294967295 + M) % 4294967296
  lt : bts < 18446744073709551616
  max : ∀ x, x < i → τ x < M
  has : M = 0 ∨ ∃ x, x < i ∧ τ x + 1 = M
  bit : ∀ j, j < 64 → (bts.testBit j = true ↔ (M ≤ j ∨ ∃ x, x < i ∧ τ x + j + 1 = M))

theorem OW.zero (s : Nat) (τ : Nat → Nat) (hs : s < 4294967296) : OW s τ 0 0 (addN s (-1)) 18446744073709551615 where
  top := by unfold addN; omega
  lt := by omega
  max := fun x hx => by omega
  has := .inl rfl
  bit := fun j hj => by
    have : (18446744073709551615 : Nat) = 2 ^ 64 - 1 := by decide
    rw [this, Nat.testBit_two_pow_sub_one]
    simp [hj]

theorem ow_up {s y M : Nat} (hy : y < 300) (hM : M ≤ 300) (h : M ≤ y) : wy ((s + 4294967295 + M) % 4294967296) (numO s y) = y + 1 - M := by unfold wy numO; omega
theorem ow_dn {s y M : Nat} (hy : y < 300) (hM : M ≤ 300) (h : y < M) : wy (numO s y) ((s + 4294967295 + M) % 4294967296) = M - 1 - y ∧ ¬ (1 ≤ wy ((s + 4294967295 + M) % 4294967296) (numO s y) ∧ wy ((s + 4294967295 + M) % 4294967296) (numO s y) < 2147483648) := by unfold wy numO; omega

theorem ow_look {s M bts y : Nat} (hy : y < 300) (hM : M ≤ 300) (h : y < M) (hb : M - 1 - y < 64) : lookW ((s + 4294967295 + M) % 4294967296) bts (numO s y) = if bts.testBit (M - 1 - y) = true then 14 else 0 := by
  obtain ⟨e1, e2⟩ := ow_dn (s := s) hy hM h
  unfold lookW aft
  rw [e1, if_neg (by rw [decide_eq_true_eq]; exact e2), if_neg (by omega)]

theorem OW.step {s : Nat} {τ : Nat → Nat} {i M top bts : Nat} (h : OW s τ i M top bts) (hs : s < 4294967296) (hM : M ≤ 300) (hy : τ i < 300) (hne : ∀ x, x < i → τ x ≠ τ i) (hnear : τ i < M → M - 1 - τ i < 64) :
    lookW top bts (numO s (τ i)) = 0 ∧ (∃ M', M' ≤ 300 ∧ OW s τ (i + 1) M' (markW top bts (numO s (τ i))).1 (markW top bts (numO s (τ i))).2) ∧ lookW (markW top bts (numO s (τ i))).1 (markW top bts (numO s (τ i))).2 (numO s (τ i)) = 14 := by
  have ht := h.top
  subst ht
  generalize hyy : τ i = y at *
  by_cases hym : M ≤ y
  · have e1 := ow_up (s := s) hy hM hym
    have ha : aft (numO s y) ((s + 4294967295 + M) % 4294967296) = true := by
      unfold aft; rw [decide_eq_true_eq, e1]; omega
    have hl : lookW ((s + 4294967295 + M) % 4294967296) bts (numO s y) = 0 := by unfold lookW; rw [if_pos ha]
    have hm : markW ((s + 4294967295 + M) % 4294967296) bts (numO s y) = (numO s y, bts * 2 ^ min (y + 1 - M) 64 % 18446744073709551616 ||| 1) := by
      unfold markW; rw [if_neg (by omega), if_pos ha, e1]
    rw [hm]
    have htop : numO s y = (s + 4294967295 + (y + 1)) % 4294967296 := by unfold numO; omega
    have hlt : bts * 2 ^ min (y + 1 - M) 64 % 18446744073709551616 ||| 1 < 18446744073709551616 := Nat.or_lt_two_pow (n := 64) (Nat.mod_lt _ (by omega)) (by omega)
    refine ⟨hl, ⟨y + 1, by omega, htop, hlt, ?_, ?_, ?_⟩, ?_⟩
    · intro x hx
      by_cases hxi : x < i
      · have := h.max x hxi; omega
      · have : x = i := by omega
        subst this; omega
    · exact .inr ⟨i, by omega, by omega⟩
    · intro j hj
      have q4 : (18446744073709551616 : Nat) = 2 ^ 64 := by decide
      rw [Nat.testBit_or, q4, Nat.testBit_mod_two_pow, Nat.testBit_mul_two_pow, decide_eq_true hj, Bool.true_and]
      by_cases hj0 : j = 0
      · subst hj0
        simp only [Nat.testBit_one_zero, Bool.or_true, true_iff]
        exact .inr ⟨i, by omega, by omega⟩
      · have e0 : (1 : Nat).testBit j = false := Nat.testBit_two_pow_of_ne (n := 0) (m := j) (by omega)
        rw [e0, Bool.or_false]
        by_cases hw : y + 1 - M ≤ j
        · have e5 : min (y + 1 - M) 64 = y + 1 - M := by omega
          rw [e5, decide_eq_true (show j ≥ y + 1 - M from hw), Bool.true_and, h.bit (j - (y + 1 - M)) (by omega)]
          constructor
          · rintro (h1 | ⟨x, h1, h2⟩)
            · exact .inl (by omega)
            · exact .inr ⟨x, by omega, by omega⟩
          · rintro (h1 | ⟨x, h1, h2⟩)
            · exact .inl (by omega)
            · by_cases hxi : x < i
              · exact .inr ⟨x, hxi, by have := h.max x hxi; omega⟩
              · have : x = i := by omega
                subst this; omega
        · rw [decide_eq_false (show ¬ j ≥ min (y + 1 - M) 64 by omega), Bool.false_and]
          simp only [Bool.false_eq_true, false_iff]
          rintro (h1 | ⟨x, h1, h2⟩)
          · omega
          · by_cases hxi : x < i
            · have := h.max x hxi; omega
            · have : x = i := by omega
              subst this; omega
    · have h1 := ow_look (s := s) (M := y + 1) (bts := bts * 2 ^ min (y + 1 - M) 64 % 18446744073709551616 ||| 1) hy (by omega) (by omega) (by omega)
      rw [← htop, show y + 1 - 1 - y = 0 by omega, bit_one, if_pos rfl] at h1
      exact h1
  · have hlt : y < M := by omega
    have hn := hnear hlt
    have hl0 := ow_look (s := s) (bts := bts) hy hM hlt hn
    have hbit : bts.testBit (M - 1 - y) = false := by
      rw [Bool.eq_false_iff]
      intro hc
      rcases (h.bit _ hn).1 hc with h1 | ⟨x, h1, h2⟩
      · omega
      · exact hne x h1 (by omega)
    rw [hbit, if_neg (by simp)] at hl0
    obtain ⟨e1, e2⟩ := ow_dn (s := s) hy hM hlt
    have hm : markW ((s + 4294967295 + M) % 4294967296) bts (numO s y) = ((s + 4294967295 + M) % 4294967296, bts ||| 2 ^ (M - 1 - y)) := by
      unfold markW
      rw [if_neg (by omega), if_neg (by unfold aft; rw [decide_eq_true_eq]; exact e2), e1]
    rw [hm]
    refine ⟨hl0, ⟨M, hM, rfl, ?_, ?_, ?_, ?_⟩, ?_⟩
    · exact Nat.or_lt_two_pow (n := 64) h.lt (Nat.pow_lt_pow_right (by omega) hn)
    · intro x hx
      by_cases hxi : x < i
      · exact h.max x hxi
      · have : x = i := by omega
        subst this; omega
    · rcases h.has with h1 | ⟨x, h1, h2⟩
      · exact .inl h1
      · exact .inr ⟨x, by omega, h2⟩
    · intro j hj
      rw [Nat.testBit_or, Nat.testBit_two_pow, Bool.or_eq_true, h.bit j hj, decide_eq_true_eq]
      constructor
      · rintro ((h1 | ⟨x, h1, h2⟩) | h1)
        · exact .inl h1
        · exact .inr ⟨x, by omega, h2⟩
        · exact .inr ⟨i, by omega, by omega⟩
      · rintro (h1 | ⟨x, h1, h2⟩)
        · exact .inl (.inl h1)
        · by_cases hxi : x < i
          · exact .inl (.inr ⟨x, hxi, h2⟩)
          · have : x = i := by omega
            subst this; exact .inr (by omega)
    · have h1 := ow_look (s := s) (bts := bts ||| 2 ^ (M - 1 - y)) hy hM hlt hn
      rw [Nat.testBit_or, Nat.testBit_two_pow_self, Bool.or_true, if_pos rfl] at h1
      exact h1

/-- Where a block's numbers go. -/
def rot (ts : List Nat) (x : Nat) : Nat := 32 * (x / 32) + (x % 32 + ts.getD (x / 32) 0 % 32) % 32
def sig (ts : List Nat) (i k x : Nat) : Nat := if x / 32 < i ∨ (x / 32 = i ∧ x % 32 < k) then rot ts x else x

theorem sig_next (ts : List Nat) (i x : Nat) : sig ts i 32 x = sig ts (i + 1) 0 x := by
  unfold sig
  have : (x / 32 < i ∨ (x / 32 = i ∧ x % 32 < 32)) ↔ (x / 32 < i + 1 ∨ (x / 32 = i + 1 ∧ x % 32 < 0)) := by omega
  by_cases h : x / 32 < i ∨ (x / 32 = i ∧ x % 32 < 32)
  · rw [if_pos h, if_pos (this.1 h)]
  · rw [if_neg h, if_neg (fun hh => h (this.2 hh))]

theorem sig_div (ts : List Nat) (i k x : Nat) : sig ts i k x / 32 = x / 32 := by unfold sig rot; split <;> omega
theorem sig_inj (ts : List Nat) {K x y : Nat} (h : sig ts K 0 x = sig ts K 0 y) : x = y := by
  have hd : x / 32 = y / 32 := by rw [← sig_div ts K 0 x, h, sig_div]
  unfold sig rot at h
  rw [hd] at h
  generalize ts.getD (y / 32) 0 = t at h
  split at h <;> split at h <;> omega
theorem sig_lt (ts : List Nat) {K x n : Nat} (hK : 32 * K ≤ n) (hx : x < n) : sig ts K 0 x < n := by
  unfold sig rot
  split <;> omega
theorem sig_surj (ts : List Nat) {K y n : Nat} (hK : 32 * K ≤ n) (hy : y < n) : ∃ x, x < n ∧ sig ts K 0 x = y := by
  by_cases h : y / 32 < K
  · refine ⟨32 * (y / 32) + (y % 32 + 32 - ts.getD (y / 32) 0 % 32) % 32, by omega, ?_⟩
    have hd : (32 * (y / 32) + (y % 32 + 32 - ts.getD (y / 32) 0 % 32) % 32) / 32 = y / 32 := by omega
    unfold sig rot
    rw [hd, if_pos (by omega)]
    generalize ts.getD (y / 32) 0 = t
    omega
  · exact ⟨y, hy, by unfold sig; rw [if_neg (by omega)]⟩

/-- Numbers by a function. -/
def mapR (n : Nat) (g : Nat → Nat) : List Nat := (List.range n).map g
theorem mapR_len (n : Nat) (g : Nat → Nat) : (mapR n g).length = n := by simp [mapR]
theorem mapR_get {n : Nat} {g : Nat → Nat} {i : Nat} (h : i < n) : (mapR n g).getD i 0 = g i := by simp [mapR, List.getD_eq_getElem?_getD, h]
theorem mapR_set {n : Nat} {g g' : Nat → Nat} {i v : Nat} (h : ∀ x, x < n → g' x = if x = i then v else g x) : (u32s (mapR n g)).set i (.int .u32 (v : Nat)) = u32s (mapR n g') := by
  apply List.ext_getElem?
  intro j
  rw [List.getElem?_set]
  simp only [u32s, mapR, List.getElem?_map, List.length_map, List.length_range]
  by_cases hj : j < n
  · rw [List.getElem?_range hj]
    simp only [Option.map_some, h j hj]
    by_cases hi : i = j
    · subst hi; simp [hj]
    · rw [if_neg hi, if_neg (fun e => hi e.symm)]
  · have : (List.range n)[j]? = none := List.getElem?_eq_none (by simp; omega)
    rw [this]
    by_cases hi : i = j
    · subst hi; simp [hj]
    · simp [hi]
theorem mapR_congr {n : Nat} {g g' : Nat → Nat} (h : ∀ x, x < n → g x = g' x) : mapR n g = mapR n g' := by
  unfold mapR
  exact List.map_congr_left fun x hx => h x (List.mem_range.1 hx)
theorem mapR_succ (n : Nat) (g : Nat → Nat) : mapR (n + 1) g = mapR n g ++ [g n] := by simp [mapR, List.range_succ]
end Go.Proofs.Ytiklfnjmadcgfaa

namespace Go.Proofs.Ytiklfnjmadcgfaa
open Go Go.Am
set_option linter.unusedSimpArgs false
set_option linter.unusedVariables false

abbrev ordC : Ctx := ⟨F.cuneiformlaw11_WindowOrder, 128, [.tmp 6], none⟩

theorem ord0 (K : List AItem) (Q : AVal → AHeap → Prop) {s n : Nat} (hs : s < 4294967296) (hn : n < 300) (tv : AVal)
    (hQ : ∀ a' H' r', Own 1 T.uint32 0 H' a' n (u32s (mapR n (numO s))) → rget r' 0 = .int .u32 (s : Nat) → rget r' 1 = .int .i64 (n : Nat) → rget r' 2 = tv → rget r' 7 = a' → Run Try.prog ordC K r' H' Q) :
    ∀ (m i : Nat) (H : AHeap) (a : AVal), n - i = m → i ≤ n → Own 1 T.uint32 0 H a i (u32s (mapR i (numO s))) →
    Rounds Try.prog ordC cuneiformlaw11_WindowOrder.b0 [.inBlock 0] K [(0, .int .u32 (s : Nat)), (1, .int .i64 (n : Nat)), (2, tv), (7, a), (8, .int .i64 (i : Nat))] H Q
  | m, i, H, a, h1, h2, ha => by
    refine loop_V 100 cuneiformlaw11_WindowOrder.b0.eq_1 ?_
    by_cases hi : i < n
    · have e : IntKind.u32.wrap ((s : Int) + IntKind.u32.wrap (i : Int)) = ((numO s i : Nat) : Int) := by
        rw [wrap_u32', wrap_u32']; unfold numO; omega
      simp (disch := first | omega | (simp only [List.length_append, List.length_cons, List.length_nil, List.length_set, List.length_map, List.length_take, List.length_drop]; omega)) only [stdh, goK_s2b, dgoK_s2b, isEff_s2b, isPure_s2b, goK_b2s, dgoK_b2s, isEff_b2s, isPure_b2s, evalOp_s2b, s2bR, goK_mark, dgoK_mark, isEff_mark, isPure_mark, evalOp_mark, markA_slc, markB, ↓reduceIte, Nat.reduceEqDiff, Int.reduceToNat, Int.reducePow, Nat.reduceAdd, Nat.reduceLeDiff, Nat.reduceMul, Nat.reduceBEq, reduceCtorEq, e]
      refine resK_append (k := 1) (ys := [.int .u32 (numO s i : Nat)]) (ha.keep (keeps_append _ _)) (Nat.zero_le _) rfl ?_ rfl (by omega) (by omega) (by omega) rfl fun v H3 ov ht hnm => ?_
      · rw [show IntKind.u32.wrap ((s : Int) + (i : Int)) = ((numO s i : Nat) : Int) by rw [wrap_u32']; unfold numO; omega]
        simp [srcCells, view, content, at_0, at_k]
      simp (disch := first | omega | (simp only [List.length_append, List.length_cons, List.length_nil, List.length_set, List.length_map, List.length_take, List.length_drop]; omega)) only [stdh, goK_s2b, dgoK_s2b, isEff_s2b, isPure_s2b, goK_b2s, dgoK_b2s, isEff_b2s, isPure_b2s, evalOp_s2b, s2bR, goK_mark, dgoK_mark, isEff_mark, isPure_mark, evalOp_mark, markA_slc, markB, ↓reduceIte, Nat.reduceEqDiff, Int.reduceToNat, Int.reducePow, Nat.reduceAdd, Nat.reduceLeDiff, Nat.reduceMul, Nat.reduceBEq, reduceCtorEq]
      refine ord0 K Q hs hn tv hQ _ (i + 1) H3 v rfl (by omega) ?_
      rw [mapR_succ]
      simpa [u32s] using ov
    · have : i = n := by omega
      subst this
      simp (disch := first | omega | (simp only [List.length_append, List.length_cons, List.length_nil, List.length_set, List.length_map, List.length_take, List.length_drop]; omega)) only [stdh, goK_s2b, dgoK_s2b, isEff_s2b, isPure_s2b, goK_b2s, dgoK_b2s, isEff_b2s, isPure_b2s, evalOp_s2b, s2bR, goK_mark, dgoK_mark, isEff_mark, isPure_mark, evalOp_mark, markA_slc, markB, ↓reduceIte, Nat.reduceEqDiff, Int.reduceToNat, Int.reducePow, Nat.reduceAdd, Nat.reduceLeDiff, Nat.reduceMul, Nat.reduceBEq, reduceCtorEq]
      refine hQ a H _ ha ?_ ?_ ?_ ?_ <;> simp (disch := first | omega | (simp only [List.length_append, List.length_cons, List.length_nil, List.length_set, List.length_map, List.length_take, List.length_drop]; omega)) only [stdh, goK_s2b, dgoK_s2b, isEff_s2b, isPure_s2b, goK_b2s, dgoK_b2s, isEff_b2s, isPure_b2s, evalOp_s2b, s2bR, goK_mark, dgoK_mark, isEff_mark, isPure_mark, evalOp_mark, markA_slc, markB, ↓reduceIte, Nat.reduceEqDiff, Int.reduceToNat, Int.reducePow, Nat.reduceAdd, Nat.reduceLeDiff, Nat.reduceMul, Nat.reduceBEq, reduceCtorEq]
  termination_by m => m

theorem ord1 (K : List AItem) (Q : AVal → AHeap → Prop) {s n i m : Nat} (hs : s < 4294967296) (hn : n < 300) {t : Bool} {ts : List Nat} (hts : ∀ x ∈ ts, x < 256) (hi : i < ts.length) (hin : 32 * i + 32 ≤ n) {bv : AVal} {bl : List Nat} (hbl : bl.length = 32) (hbg : ∀ j, j < 32 → bl.getD j 0 = numO s (32 * i + j))
    (hbm : m ∉ bv.names)
    (hQ : ∀ H' r', H'[m]? = some (.vec (u32s (mapR n fun x => numO s (sig ts (i + 1) 0 x))) T.uint32 1) → rget r' 0 = .int .u32 (s : Nat) → rget r' 1 = .int .i64 (n : Nat) → rget r' 2 = nums .u8 t ts → rget r' 7 = .slc m 0 n 1 → rget r' 9 = .int .i64 (i : Nat) → Run Try.prog ordC K r' H' Q) :
    ∀ (d k : Nat) (H : AHeap), 32 - k = d → k ≤ 32 → H[m]? = some (.vec (u32s (mapR n fun x => numO s (sig ts i k x))) T.uint32 1) → Own 1 T.uint32 0 H bv 32 (u32s bl) →
    Rounds Try.prog ordC cuneiformlaw11_WindowOrder.b1 [.inBlock 4] K [(0, .int .u32 (s : Nat)), (1, .int .i64 (n : Nat)), (2, nums .u8 t ts), (7, .slc m 0 n 1), (9, .int .i64 (i : Nat)), (10, bv), (11, .int .i64 (k : Nat))] H Q
  | d, k, H, h1, h2, hm, hb => by
    refine loop_V 100 cuneiformlaw11_WindowOrder.b1.eq_1 ?_
    by_cases hk : k < 32
    · have hbs := hb.slen
      have hbi := hb.isSome
      have hx : ts.getD i 0 < 256 := by
        rw [List.getD_eq_getElem?_getD]; simp [hi]; exact hts _ (List.getElem_mem hi)
      generalize htt : ts.getD i 0 = tt at hx
      have e1 : (tt : Int).tmod 32 = ((tt % 32 : Nat) : Int) := by rw [Int.tmod_eq_emod_of_nonneg (by omega)]; omega
      have e2 : ((k : Int) + ((tt % 32 : Nat) : Int)).tmod 32 = (((k + tt % 32) % 32 : Nat) : Int) := by rw [Int.tmod_eq_emod_of_nonneg (by omega)]; omega
      have e0 : 32 * (i : Int) + (k : Int) = ((32 * i + k : Nat) : Int) := by omega
      have hld := hb.load (j := (k + tt % 32) % 32) (by rw [u32s_len, hbl]; omega)
      rw [u32s_get _ (by omega), hbg _ (by omega)] at hld
      have hv := view_vec hm (n := n) (by rw [u32s_len, mapR_len])
      have hst := store_vec (n := n) (j := 32 * i + k) (v := .int .u32 (numO s (32 * i + (k + tt % 32) % 32) : Nat)) hm (by rw [u32s_len, mapR_len]) (by omega) rfl rfl
      simp (disch := first | omega | (simp only [List.length_append, List.length_cons, List.length_nil, List.length_set, List.length_map, List.length_take, List.length_drop]; omega)) only [stdh, goK_s2b, dgoK_s2b, isEff_s2b, isPure_s2b, goK_b2s, dgoK_b2s, isEff_b2s, isPure_b2s, evalOp_s2b, s2bR, goK_mark, dgoK_mark, isEff_mark, isPure_mark, evalOp_mark, markA_slc, markB, ↓reduceIte, Nat.reduceEqDiff, Int.reduceToNat, Int.reducePow, Nat.reduceAdd, Nat.reduceLeDiff, Nat.reduceMul, Nat.reduceBEq, reduceCtorEq, htt, e1, e2, e0, hbs, hbi, hld, hv, hst]
      have hmm := (List.getElem?_eq_some_iff.1 hm).1
      rw [show (k : Int) + 1 = ((k + 1 : Nat) : Int) by omega]
      refine ord1 K Q hs hn hts hi hin hbl hbg hbm hQ _ (k + 1) _ rfl (by omega) ?_ ?_
      · rw [List.getElem?_set_self hmm]
        congr 2
        refine mapR_set fun x hx => ?_
        by_cases hxx : x = 32 * i + k
        · subst hxx
          rw [if_pos rfl]
          congr 1
          unfold sig rot
          rw [if_pos (by omega), show (32 * i + k) / 32 = i by omega, show (32 * i + k) % 32 = k by omega, htt]
        · rw [if_neg hxx]
          congr 1
          unfold sig
          have : (x / 32 < i ∨ (x / 32 = i ∧ x % 32 < k + 1)) ↔ (x / 32 < i ∨ (x / 32 = i ∧ x % 32 < k)) := by omega
          by_cases h : x / 32 < i ∨ (x / 32 = i ∧ x % 32 < k)
          · rw [if_pos h, if_pos (this.2 h)]
          · rw [if_neg h, if_neg (fun hh => h (this.1 hh))]
      · exact hb.moved fun q hq => by rw [List.getElem?_set_ne (by rintro rfl; exact hbm hq)]
    · have : k = 32 := by omega
      subst this
      simp (disch := first | omega | (simp only [List.length_append, List.length_cons, List.length_nil, List.length_set, List.length_map, List.length_take, List.length_drop]; omega)) only [stdh, goK_s2b, dgoK_s2b, isEff_s2b, isPure_s2b, goK_b2s, dgoK_b2s, isEff_b2s, isPure_b2s, evalOp_s2b, s2bR, goK_mark, dgoK_mark, isEff_mark, isPure_mark, evalOp_mark, markA_slc, markB, ↓reduceIte, Nat.reduceEqDiff, Int.reduceToNat, Int.reducePow, Nat.reduceAdd, Nat.reduceLeDiff, Nat.reduceMul, Nat.reduceBEq, reduceCtorEq]
      refine hQ H _ ?_ ?_ ?_ ?_ ?_ ?_
      · rw [hm, mapR_congr fun x _ => by rw [sig_next]]
      all_goals simp (disch := first | omega | (simp only [List.length_append, List.length_cons, List.length_nil, List.length_set, List.length_map, List.length_take, List.length_drop]; omega)) only [stdh, goK_s2b, dgoK_s2b, isEff_s2b, isPure_s2b, goK_b2s, dgoK_b2s, isEff_b2s, isPure_b2s, evalOp_s2b, s2bR, goK_mark, dgoK_mark, isEff_mark, isPure_mark, evalOp_mark, markA_slc, markB, ↓reduceIte, Nat.reduceEqDiff, Int.reduceToNat, Int.reducePow, Nat.reduceAdd, Nat.reduceLeDiff, Nat.reduceMul, Nat.reduceBEq, reduceCtorEq]
  termination_by d => d

theorem Own.weak {w : Nat} {el : TypeId} {B : Nat} {H : AHeap} {a : AVal} {n : Nat} {cs : List AVal} (h : Own w el B H a n cs) : Own w el 0 H a n cs := by
  refine ⟨h.len, ?_⟩
  rcases h.is with h | ⟨m, _, h2, h3⟩
  · exact .inl h
  · exact .inr ⟨m, Nat.zero_le _, h2, h3⟩

theorem ord2 (K : List AItem) (Q : AVal → AHeap → Prop) {s n : Nat} (hs : s < 4294967296) (hn : n < 300) {t : Bool} {ts : List Nat} (hts : ∀ x ∈ ts, x < 256) (hlen : ts.length ≤ 9223372036854775807)
    (hQ : ∀ k a' H' r', 32 * k ≤ n → Own 1 T.uint32 0 H' a' n (u32s (mapR n fun x => numO s (sig ts k 0 x))) → rget r' 0 = .int .u32 (s : Nat) → rget r' 1 = .int .i64 (n : Nat) → rget r' 7 = a' → Run Try.prog ordC K r' H' Q) :
    ∀ (d i : Nat) (H : AHeap) (a : AVal), n / 32 - i = d → 32 * i ≤ n → Own 1 T.uint32 0 H a n (u32s (mapR n fun x => numO s (sig ts i 0 x))) →
    Rounds Try.prog ordC cuneiformlaw11_WindowOrder.b2 [.inBlock 2] K [(0, .int .u32 (s : Nat)), (1, .int .i64 (n : Nat)), (2, nums .u8 t ts), (7, a), (9, .int .i64 (i : Nat))] H Q
  | d, i, H, a, h1, h2, ha => by
    refine loop_V 100 cuneiformlaw11_WindowOrder.b2.eq_1 ?_
    by_cases hi : i < ts.length
    · by_cases hin : 32 * i + 32 ≤ n
      · obtain ⟨m, _, hml, rfl, hm, hcl⟩ := ha.split (by omega)
        have hv := view_vec hm (n := n) (by rw [u32s_len, mapR_len])
        have hsl : sliceA 1 (.slc m 0 n 1) (some (32 * (i : Int))) (some (32 * (i : Int) + 32)) none = some (True, .slc m (32 * i) 32 1) := by
          rw [slice_slc (l := 32 * i) (r := 32 * i + 32) (by simp) (by simp) (by omega) hin]
          congr 3 <;> omega
        simp (disch := first | omega | (simp only [List.length_append, List.length_cons, List.length_nil, List.length_set, List.length_map, List.length_take, List.length_drop]; omega)) only [stdh, goK_s2b, dgoK_s2b, isEff_s2b, isPure_s2b, goK_b2s, dgoK_b2s, isEff_b2s, isPure_b2s, evalOp_s2b, s2bR, goK_mark, dgoK_mark, isEff_mark, isPure_mark, evalOp_mark, markA_slc, markB, ↓reduceIte, Nat.reduceEqDiff, Int.reduceToNat, Int.reducePow, Nat.reduceAdd, Nat.reduceLeDiff, Nat.reduceMul, Nat.reduceBEq, reduceCtorEq, hv, hsl]
        have hmp : (H ++ [ABlk.vec [] T.uint32 1])[m]? = some (.vec (u32s (mapR n fun x => numO s (sig ts i 0 x))) T.uint32 1) := (at_low hml).trans hm
        refine resK_append (k := 32) (n := 0) (cs := []) (B := H.length) ⟨rfl, .inr ⟨H.length, Nat.le_refl _, rfl, at_0⟩⟩ (by (first | omega | (simp only [List.length_append, List.length_cons, List.length_nil, List.length_set, List.length_map, List.length_take, List.length_drop]; omega))) rfl (srcCells_slcv hmp (by rw [hcl]; exact hin)) ?_ (by omega) (by omega) (by omega) ?_ fun v H3 ov ht hnm => ?_
        · rw [List.length_take, List.length_drop, hcl]; omega
        · rw [List.all_eq_true]
          intro c hc
          obtain ⟨x, _, rfl⟩ := List.mem_map.1 (List.mem_of_mem_drop (List.mem_of_mem_take hc))
          rfl
        have hm3 : H3[m]? = some (.vec (u32s (mapR n fun x => numO s (sig ts i 0 x))) T.uint32 1) := (ht.kept m (by (first | omega | (simp only [List.length_append, List.length_cons, List.length_nil, List.length_set, List.length_map, List.length_take, List.length_drop]; omega))) (by simp [AVal.names]; omega)).trans hmp
        have hbm : m ∉ v.names := fun hh => by
          have := hnm m hh
          simp only [List.length_append, List.length_cons, List.length_nil] at this; omega
        have ebl : [] ++ ((u32s (mapR n fun x => numO s (sig ts i 0 x))).drop (32 * i)).take 32 = u32s (((mapR n fun x => numO s (sig ts i 0 x)).drop (32 * i)).take 32) := by
          simp [u32s, List.map_take, List.map_drop]
        rw [ebl] at ov
        simp (disch := first | omega | (simp only [List.length_append, List.length_cons, List.length_nil, List.length_set, List.length_map, List.length_take, List.length_drop]; omega)) only [stdh, goK_s2b, dgoK_s2b, isEff_s2b, isPure_s2b, goK_b2s, dgoK_b2s, isEff_b2s, isPure_b2s, evalOp_s2b, s2bR, goK_mark, dgoK_mark, isEff_mark, isPure_mark, evalOp_mark, markA_slc, markB, ↓reduceIte, Nat.reduceEqDiff, Int.reduceToNat, Int.reducePow, Nat.reduceAdd, Nat.reduceLeDiff, Nat.reduceMul, Nat.reduceBEq, reduceCtorEq]
        refine ord1 _ Q hs hn hts hi hin (bv := v) (bl := ((mapR n fun x => numO s (sig ts i 0 x)).drop (32 * i)).take 32) ?_ ?_ hbm ?_ _ 0 H3 rfl (by omega) hm3 (by simpa using Own.weak ov)
        · rw [List.length_take, List.length_drop, mapR_len]; omega
        · intro j hj
          have e1 : (((mapR n fun x => numO s (sig ts i 0 x)).drop (32 * i)).take 32).getD j 0 = (mapR n fun x => numO s (sig ts i 0 x)).getD (32 * i + j) 0 := by
            simp [List.getD_eq_getElem?_getD, List.getElem?_take, List.getElem?_drop, hj]
          rw [e1, mapR_get (by omega)]
          congr 1
          unfold sig
          rw [if_neg (by omega)]
        · intro H' r' g0 f0 f1 f2 f7 f9
          refine run_Ve 100 [_, _, _, _] K rfl ?_
          simp (disch := first | omega | (simp only [List.length_append, List.length_cons, List.length_nil, List.length_set, List.length_map, List.length_take, List.length_drop]; omega)) only [stdh, goK_s2b, dgoK_s2b, isEff_s2b, isPure_s2b, goK_b2s, dgoK_b2s, isEff_b2s, isPure_b2s, evalOp_s2b, s2bR, goK_mark, dgoK_mark, isEff_mark, isPure_mark, evalOp_mark, markA_slc, markB, ↓reduceIte, Nat.reduceEqDiff, Int.reduceToNat, Int.reducePow, Nat.reduceAdd, Nat.reduceLeDiff, Nat.reduceMul, Nat.reduceBEq, reduceCtorEq, f0, f1, f2, f7, f9]
          rw [show (i : Int) + 1 = ((i + 1 : Nat) : Int) by omega]
          refine ord2 K Q hs hn hts hlen hQ _ (i + 1) H' _ rfl (by omega) ⟨?_, .inr ⟨m, Nat.zero_le _, rfl, g0⟩⟩
          rw [u32s_len, mapR_len]; omega
      · simp (disch := first | omega | (simp only [List.length_append, List.length_cons, List.length_nil, List.length_set, List.length_map, List.length_take, List.length_drop]; omega)) only [stdh, goK_s2b, dgoK_s2b, isEff_s2b, isPure_s2b, goK_b2s, dgoK_b2s, isEff_b2s, isPure_b2s, evalOp_s2b, s2bR, goK_mark, dgoK_mark, isEff_mark, isPure_mark, evalOp_mark, markA_slc, markB, ↓reduceIte, Nat.reduceEqDiff, Int.reduceToNat, Int.reducePow, Nat.reduceAdd, Nat.reduceLeDiff, Nat.reduceMul, Nat.reduceBEq, reduceCtorEq]
        refine hQ i a H _ h2 ha ?_ ?_ ?_ <;> simp (disch := first | omega | (simp only [List.length_append, List.length_cons, List.length_nil, List.length_set, List.length_map, List.length_take, List.length_drop]; omega)) only [stdh, goK_s2b, dgoK_s2b, isEff_s2b, isPure_s2b, goK_b2s, dgoK_b2s, isEff_b2s, isPure_b2s, evalOp_s2b, s2bR, goK_mark, dgoK_mark, isEff_mark, isPure_mark, evalOp_mark, markA_slc, markB, ↓reduceIte, Nat.reduceEqDiff, Int.reduceToNat, Int.reducePow, Nat.reduceAdd, Nat.reduceLeDiff, Nat.reduceMul, Nat.reduceBEq, reduceCtorEq]
    · simp (disch := first | omega | (simp only [List.length_append, List.length_cons, List.length_nil, List.length_set, List.length_map, List.length_take, List.length_drop]; omega)) only [stdh, goK_s2b, dgoK_s2b, isEff_s2b, isPure_s2b, goK_b2s, dgoK_b2s, isEff_b2s, isPure_b2s, evalOp_s2b, s2bR, goK_mark, dgoK_mark, isEff_mark, isPure_mark, evalOp_mark, markA_slc, markB, ↓reduceIte, Nat.reduceEqDiff, Int.reduceToNat, Int.reducePow, Nat.reduceAdd, Nat.reduceLeDiff, Nat.reduceMul, Nat.reduceBEq, reduceCtorEq]
      refine hQ i a H _ h2 ha ?_ ?_ ?_ <;> simp (disch := first | omega | (simp only [List.length_append, List.length_cons, List.length_nil, List.length_set, List.length_map, List.length_take, List.length_drop]; omega)) only [stdh, goK_s2b, dgoK_s2b, isEff_s2b, isPure_s2b, goK_b2s, dgoK_b2s, isEff_b2s, isPure_b2s, evalOp_s2b, s2bR, goK_mark, dgoK_mark, isEff_mark, isPure_mark, evalOp_mark, markA_slc, markB, ↓reduceIte, Nat.reduceEqDiff, Int.reduceToNat, Int.reducePow, Nat.reduceAdd, Nat.reduceLeDiff, Nat.reduceMul, Nat.reduceBEq, reduceCtorEq]
  termination_by d => d

theorem wmark_seen (H : AHeap) {p top bts : Nat} (hw : WinAt H p top bts) (n : Nat) (hn : n < 4294967296) (hl : lookW top bts n = 14) (Q : AVal → AHeap → Prop)
    (h : Q (.int .i64 14) H) : FunOK Try.prog F.window_Window_Mark [.ptr p 0, .int .u32 n] H Q := by
  refine wmark_ok H hw n hn Q ?_
  have hm : markW top bts n = (top, bts) := by unfold markW; rw [if_pos (by omega)]
  have e : H.set p (.cells [.int .u32 (markW top bts n).1, .int .u64 (markW top bts n).2] T.window_Window) = H := by
    rw [hm]; exact set_same hw.1
  rw [e, hl]
  exact h

theorem ord3 (K : List AItem) (Q : AVal → AHeap → Prop) {s n p : Nat} (hs : s < 4294967296) (hn : n < 300) {ts : List Nat} {k : Nat} (hk : 32 * k ≤ n) {a : AVal}
    (hQ : ∀ H' r' M top bts, WinAt H' p top bts → OW s (sig ts k 0) n M top bts → M ≤ 300 → rget r' 0 = .int .u32 (s : Nat) → rget r' 1 = .int .i64 (n : Nat) → rget r' 12 = .ptr p 0 → Run Try.prog ordC K r' H' Q) :
    ∀ (d i : Nat) (H : AHeap) (M top bts : Nat), n - i = d → i ≤ n → Own 1 T.uint32 0 H a n (u32s (mapR n fun x => numO s (sig ts k 0 x))) → WinAt H p top bts → OW s (sig ts k 0) i M top bts → M ≤ 300 →
    Rounds Try.prog ordC cuneiformlaw11_WindowOrder.b3 [.inBlock 6] K [(0, .int .u32 (s : Nat)), (1, .int .i64 (n : Nat)), (7, a), (12, .ptr p 0), (13, .int .i64 (i : Nat))] H Q := by
  intro d
  induction d using Nat.strongRecOn with
  | _ d ih =>
    intro i H M top bts h1 h2 ha hw ho hM
    refine loop_V 100 cuneiformlaw11_WindowOrder.b3.eq_1 ?_
    have hsl := ha.slen
    by_cases hi : i < n
    · have hld := ha.load (j := i) (by rw [u32s_len, mapR_len]; exact hi)
      have hg : (u32s (mapR n fun x => numO s (sig ts k 0 x))).getD i .junk = .int .u32 ((numO s (sig ts k 0 i) : Nat) : Int) := by
        rw [u32s_get _ (by rw [mapR_len]; exact hi), mapR_get hi]
      rw [hg] at hld
      have hvs := ha.isSome
      have hy : sig ts k 0 i < n := sig_lt ts hk hi
      obtain ⟨q1, ⟨M', q2, q3⟩, q4⟩ := ho.step hs hM (by omega) (fun x hx he => by have := sig_inj ts he; omega) (fun hlt => by
        rcases ho.has with h0 | ⟨x, hx, hxe⟩
        · omega
        · have e1 := sig_div ts k 0 x
          have e2 := sig_div ts k 0 i
          omega)
      have hc := numO_lt s (sig ts k 0 i)
      generalize numO s (sig ts k 0 i) = c at *
      have q1' : ((lookW top bts c : Nat) : Int) = 0 := by omega
      simp (disch := first | omega | (simp only [List.length_append, List.length_cons, List.length_nil, List.length_set, List.length_map, List.length_take, List.length_drop]; omega)) only [stdh, goK_s2b, dgoK_s2b, isEff_s2b, isPure_s2b, goK_b2s, dgoK_b2s, isEff_b2s, isPure_b2s, evalOp_s2b, s2bR, goK_mark, dgoK_mark, isEff_mark, isPure_mark, evalOp_mark, markA_slc, markB, ↓reduceIte, Nat.reduceEqDiff, Int.reduceToNat, Int.reducePow, Nat.reduceAdd, Nat.reduceLeDiff, Nat.reduceMul, Nat.reduceBEq, reduceCtorEq, hsl, hld, hvs]
      refine callK_fn (wlook_ok _ hw _ hc _ ?_)
      refine runL_V 60 ?_
      simp (disch := first | omega | (simp only [List.length_append, List.length_cons, List.length_nil, List.length_set, List.length_map, List.length_take, List.length_drop]; omega)) only [stdh, goK_s2b, dgoK_s2b, isEff_s2b, isPure_s2b, goK_b2s, dgoK_b2s, isEff_b2s, isPure_b2s, evalOp_s2b, s2bR, goK_mark, dgoK_mark, isEff_mark, isPure_mark, evalOp_mark, markA_slc, markB, ↓reduceIte, Nat.reduceEqDiff, Int.reduceToNat, Int.reducePow, Nat.reduceAdd, Nat.reduceLeDiff, Nat.reduceMul, Nat.reduceBEq, reduceCtorEq, hld, hvs, q1', hsl]
      refine callK_fn (wmark_ok _ hw _ hc _ ?_)
      refine runL_V 60 ?_
      have hp := (List.getElem?_eq_some_iff.1 hw.1).1
      have hlt := mark_lt hw.2.1 hw.2.2 hc
      generalize hT : (markW top bts c).1 = top' at *
      generalize hB : (markW top bts c).2 = bts' at *
      have hw2 : WinAt (H.set p (.cells [.int .u32 top', .int .u64 bts'] T.window_Window)) p top' bts' := ⟨by rw [List.getElem?_set_self hp], hlt⟩
      have ha2 : Own 1 T.uint32 0 (H.set p (.cells [.int .u32 top', .int .u64 bts'] T.window_Window)) a n (u32s (mapR n fun x => numO s (sig ts k 0 x))) := ha.moved fun q hq => by
        rw [List.getElem?_set_ne (by rintro rfl; exact ha.ne hw.1 hq)]
      generalize H.set p (.cells [.int .u32 top', .int .u64 bts'] T.window_Window) = H2 at *
      have hld2 := ha2.load (j := i) (by rw [u32s_len, mapR_len]; exact hi)
      have hvs2 := ha2.isSome
      rw [hg] at hld2
      simp (disch := first | omega | (simp only [List.length_append, List.length_cons, List.length_nil, List.length_set, List.length_map, List.length_take, List.length_drop]; omega)) only [stdh, goK_s2b, dgoK_s2b, isEff_s2b, isPure_s2b, goK_b2s, dgoK_b2s, isEff_b2s, isPure_b2s, evalOp_s2b, s2bR, goK_mark, dgoK_mark, isEff_mark, isPure_mark, evalOp_mark, markA_slc, markB, ↓reduceIte, Nat.reduceEqDiff, Int.reduceToNat, Int.reducePow, Nat.reduceAdd, Nat.reduceLeDiff, Nat.reduceMul, Nat.reduceBEq, reduceCtorEq, q1', hld2, hvs2, hsl]
      refine callK_fn (wmark_seen _ hw2 _ hc q4 _ ?_)
      refine runL_V 60 ?_
      simp (disch := first | omega | (simp only [List.length_append, List.length_cons, List.length_nil, List.length_set, List.length_map, List.length_take, List.length_drop]; omega)) only [stdh, goK_s2b, dgoK_s2b, isEff_s2b, isPure_s2b, goK_b2s, dgoK_b2s, isEff_b2s, isPure_b2s, evalOp_s2b, s2bR, goK_mark, dgoK_mark, isEff_mark, isPure_mark, evalOp_mark, markA_slc, markB, ↓reduceIte, Nat.reduceEqDiff, Int.reduceToNat, Int.reducePow, Nat.reduceAdd, Nat.reduceLeDiff, Nat.reduceMul, Nat.reduceBEq, reduceCtorEq]
      rw [show (i : Int) + 1 = ((i + 1 : Nat) : Int) by omega]
      exact ih (n - (i + 1)) (by omega) (i + 1) H2 M' top' bts' rfl (by omega) ha2 hw2 q3 q2
    · have : i = n := by omega
      subst this
      simp (disch := first | omega | (simp only [List.length_append, List.length_cons, List.length_nil, List.length_set, List.length_map, List.length_take, List.length_drop]; omega)) only [stdh, goK_s2b, dgoK_s2b, isEff_s2b, isPure_s2b, goK_b2s, dgoK_b2s, isEff_b2s, isPure_b2s, evalOp_s2b, s2bR, goK_mark, dgoK_mark, isEff_mark, isPure_mark, evalOp_mark, markA_slc, markB, ↓reduceIte, Nat.reduceEqDiff, Int.reduceToNat, Int.reducePow, Nat.reduceAdd, Nat.reduceLeDiff, Nat.reduceMul, Nat.reduceBEq, reduceCtorEq, hsl]
      refine hQ H _ M top bts hw ho hM ?_ ?_ ?_ <;> simp (disch := first | omega | (simp only [List.length_append, List.length_cons, List.length_nil, List.length_set, List.length_map, List.length_take, List.length_drop]; omega)) only [stdh, goK_s2b, dgoK_s2b, isEff_s2b, isPure_s2b, goK_b2s, dgoK_b2s, isEff_b2s, isPure_b2s, evalOp_s2b, s2bR, goK_mark, dgoK_mark, isEff_mark, isPure_mark, evalOp_mark, markA_slc, markB, ↓reduceIte, Nat.reduceEqDiff, Int.reduceToNat, Int.reducePow, Nat.reduceAdd, Nat.reduceLeDiff, Nat.reduceMul, Nat.reduceBEq, reduceCtorEq]

theorem ow_full {s n top bts : Nat} {ts : List Nat} {k M : Nat} (hs : s < 4294967296) (hn : 0 < n) (hn3 : n < 300) (hk : 32 * k ≤ n) (h : OW s (sig ts k 0) n M top bts) (hM : M ≤ 300) : top = numO s (n - 1) ∧ lackL top bts 64 = [] := by
  have e : M = n := by
    rcases h.has with h0 | ⟨x, hx, hxe⟩
    · have := h.max 0 hn; omega
    · have h1 := sig_lt ts hk hx
      obtain ⟨y, hy, hye⟩ := sig_surj ts hk (show n - 1 < n by omega)
      have := h.max y hy
      omega
  subst e
  refine ⟨by rw [h.top]; unfold numO; omega, ?_⟩
  unfold lackL lackJ
  have : (List.range 64).filter (fun i => !bts.testBit i) = [] := by
    rw [List.filter_eq_nil_iff]
    intro j hj
    have hj' := List.mem_range.1 hj
    have : bts.testBit j = true := (h.bit j hj').2 (by
      by_cases hM : M ≤ j
      · exact .inl hM
      · obtain ⟨x, hx, hxe⟩ := sig_surj ts hk (show M - 1 - j < M by omega)
        exact .inr ⟨x, hx, by omega⟩)
    simp [this]
  rw [this]; rfl

theorem order_ok {s : Nat} {nn : Int} {t : Bool} {ts : List Nat} (hs : s < 4294967296) (hts : ∀ x ∈ ts, x < 256) (hlen : ts.length ≤ 9223372036854775807) :
    FunOK Try.prog F.cuneiformlaw11_WindowOrder [.int .u32 (s : Nat), .int .i64 nn, nums .u8 t ts] [] fun av _ => av = .bool true := by
  refine fun_V 60 cuneiformlaw11_WindowOrder_code rfl ?_
  have hx : ∃ n : Nat, IntKind.u64.wrap nn % 300 = (n : Int) ∧ n < 300 := ⟨(IntKind.u64.wrap nn % 300).toNat, by omega, by omega⟩
  obtain ⟨n, hn, hn3⟩ := hx
  have hn' : (IntKind.u64.wrap nn).tmod 300 = (n : Int) := by
    have : (0 : Int) ≤ IntKind.u64.wrap nn := by rw [wrap_u64']; omega
    rw [Int.tmod_eq_emod_of_nonneg this]; exact hn
  simp (disch := first | omega | (simp only [List.length_append, List.length_cons, List.length_nil, List.length_set, List.length_map, List.length_take, List.length_drop]; omega)) only [stdh, goK_s2b, dgoK_s2b, isEff_s2b, isPure_s2b, goK_b2s, dgoK_b2s, isEff_b2s, isPure_b2s, evalOp_s2b, s2bR, goK_mark, dgoK_mark, isEff_mark, isPure_mark, evalOp_mark, markA_slc, markB, ↓reduceIte, Nat.reduceEqDiff, Int.reduceToNat, Int.reducePow, Nat.reduceAdd, Nat.reduceLeDiff, Nat.reduceMul, Nat.reduceBEq, reduceCtorEq, cuneiformlaw11_WindowOrder, cuneiformlaw11_WindowOrder.body, hn, hn']
  refine ord0 _ _ hs hn3 _ ?_ _ 0 _ _ rfl (by omega) Own.nil
  intro a H r o f0 f1 f2 f7
  refine run_V0 60 ?_
  simp (disch := first | omega | (simp only [List.length_append, List.length_cons, List.length_nil, List.length_set, List.length_map, List.length_take, List.length_drop]; omega)) only [stdh, goK_s2b, dgoK_s2b, isEff_s2b, isPure_s2b, goK_b2s, dgoK_b2s, isEff_b2s, isPure_b2s, evalOp_s2b, s2bR, goK_mark, dgoK_mark, isEff_mark, isPure_mark, evalOp_mark, markA_slc, markB, ↓reduceIte, Nat.reduceEqDiff, Int.reduceToNat, Int.reducePow, Nat.reduceAdd, Nat.reduceLeDiff, Nat.reduceMul, Nat.reduceBEq, reduceCtorEq, f0, f1, f2, f7]
  refine ord2 _ _ hs hn3 hts hlen ?_ _ 0 H a rfl (by omega) ?_
  · intro k a2 H2 r2 hk o2 g0 g1 g7
    refine run_V0 60 ?_
    simp (disch := first | omega | (simp only [List.length_append, List.length_cons, List.length_nil, List.length_set, List.length_map, List.length_take, List.length_drop]; omega)) only [stdh, goK_s2b, dgoK_s2b, isEff_s2b, isPure_s2b, goK_b2s, dgoK_b2s, isEff_b2s, isPure_b2s, evalOp_s2b, s2bR, goK_mark, dgoK_mark, isEff_mark, isPure_mark, evalOp_mark, markA_slc, markB, ↓reduceIte, Nat.reduceEqDiff, Int.reduceToNat, Int.reducePow, Nat.reduceAdd, Nat.reduceLeDiff, Nat.reduceMul, Nat.reduceBEq, reduceCtorEq, g0, g1, g7]
    refine callK_fn (wnew_ok _ _ _ ?_)
    refine runL_V 60 ?_
    simp (disch := first | omega | (simp only [List.length_append, List.length_cons, List.length_nil, List.length_set, List.length_map, List.length_take, List.length_drop]; omega)) only [stdh, goK_s2b, dgoK_s2b, isEff_s2b, isPure_s2b, goK_b2s, dgoK_b2s, isEff_b2s, isPure_b2s, evalOp_s2b, s2bR, goK_mark, dgoK_mark, isEff_mark, isPure_mark, evalOp_mark, markA_slc, markB, ↓reduceIte, Nat.reduceEqDiff, Int.reduceToNat, Int.reducePow, Nat.reduceAdd, Nat.reduceLeDiff, Nat.reduceMul, Nat.reduceBEq, reduceCtorEq, g0, g1, g7, eqA]
    refine ord3 _ _ hs hn3 hk (ts := ts) (a := a2) ?_ _ 0 _ 0 (addN s (-1)) 18446744073709551615 rfl (by omega) (o2.keep (keeps_append _ _)) ⟨at_0, by unfold addN; omega, by omega⟩ (OW.zero s _ hs) (by omega)
    intro H3 r3 M top bts hw ho hM j0 j1 j12
    refine run_V0 60 ?_
    by_cases hnp : 0 < n
    · obtain ⟨e1, e2⟩ := ow_full hs hnp hn3 hk ho hM
      have e3 : IntKind.u32.wrap ((s : Int) + ((n : Int) - 1)) = ((top : Nat) : Int) := by
        rw [wrap_u32', e1]; unfold numO; omega
      simp (disch := first | omega | (simp only [List.length_append, List.length_cons, List.length_nil, List.length_set, List.length_map, List.length_take, List.length_drop]; omega)) only [stdh, goK_s2b, dgoK_s2b, isEff_s2b, isPure_s2b, goK_b2s, dgoK_b2s, isEff_b2s, isPure_b2s, evalOp_s2b, s2bR, goK_mark, dgoK_mark, isEff_mark, isPure_mark, evalOp_mark, markA_slc, markB, ↓reduceIte, Nat.reduceEqDiff, Int.reduceToNat, Int.reducePow, Nat.reduceAdd, Nat.reduceLeDiff, Nat.reduceMul, Nat.reduceBEq, reduceCtorEq, j0, j1, j12]
      refine callK_fn (wtop_ok _ hw _ ?_)
      refine runL_V 60 ?_
      simp (disch := first | omega | (simp only [List.length_append, List.length_cons, List.length_nil, List.length_set, List.length_map, List.length_take, List.length_drop]; omega)) only [stdh, goK_s2b, dgoK_s2b, isEff_s2b, isPure_s2b, goK_b2s, dgoK_b2s, isEff_b2s, isPure_b2s, evalOp_s2b, s2bR, goK_mark, dgoK_mark, isEff_mark, isPure_mark, evalOp_mark, markA_slc, markB, ↓reduceIte, Nat.reduceEqDiff, Int.reduceToNat, Int.reducePow, Nat.reduceAdd, Nat.reduceLeDiff, Nat.reduceMul, Nat.reduceBEq, reduceCtorEq, j0, j1, j12, e3]
      refine callK_fn (missing_ok _ hw _ ?_)
      refine runL_V 60 ?_
      rw [e2]
      simp (disch := first | omega | (simp only [List.length_append, List.length_cons, List.length_nil, List.length_set, List.length_map, List.length_take, List.length_drop]; omega)) only [stdh, goK_s2b, dgoK_s2b, isEff_s2b, isPure_s2b, goK_b2s, dgoK_b2s, isEff_b2s, isPure_b2s, evalOp_s2b, s2bR, goK_mark, dgoK_mark, isEff_mark, isPure_mark, evalOp_mark, markA_slc, markB, ↓reduceIte, Nat.reduceEqDiff, Int.reduceToNat, Int.reducePow, Nat.reduceAdd, Nat.reduceLeDiff, Nat.reduceMul, Nat.reduceBEq, reduceCtorEq, j0, j1, j12, List.reverse_nil]
      refine callK_fn (known11_ok _ _ ?_)
      refine runL_V 60 ?_
      simp (disch := first | omega | (simp only [List.length_append, List.length_cons, List.length_nil, List.length_set, List.length_map, List.length_take, List.length_drop]; omega)) only [stdh, goK_s2b, dgoK_s2b, isEff_s2b, isPure_s2b, goK_b2s, dgoK_b2s, isEff_b2s, isPure_b2s, evalOp_s2b, s2bR, goK_mark, dgoK_mark, isEff_mark, isPure_mark, evalOp_mark, markA_slc, markB, ↓reduceIte, Nat.reduceEqDiff, Int.reduceToNat, Int.reducePow, Nat.reduceAdd, Nat.reduceLeDiff, Nat.reduceMul, Nat.reduceBEq, reduceCtorEq]
    · simp (disch := first | omega | (simp only [List.length_append, List.length_cons, List.length_nil, List.length_set, List.length_map, List.length_take, List.length_drop]; omega)) only [stdh, goK_s2b, dgoK_s2b, isEff_s2b, isPure_s2b, goK_b2s, dgoK_b2s, isEff_b2s, isPure_b2s, evalOp_s2b, s2bR, goK_mark, dgoK_mark, isEff_mark, isPure_mark, evalOp_mark, markA_slc, markB, ↓reduceIte, Nat.reduceEqDiff, Int.reduceToNat, Int.reducePow, Nat.reduceAdd, Nat.reduceLeDiff, Nat.reduceMul, Nat.reduceBEq, reduceCtorEq, j0, j1, j12]
      refine callK_fn (known11_ok _ _ ?_)
      refine runL_V 60 ?_
      simp (disch := first | omega | (simp only [List.length_append, List.length_cons, List.length_nil, List.length_set, List.length_map, List.length_take, List.length_drop]; omega)) only [stdh, goK_s2b, dgoK_s2b, isEff_s2b, isPure_s2b, goK_b2s, dgoK_b2s, isEff_b2s, isPure_b2s, evalOp_s2b, s2bR, goK_mark, dgoK_mark, isEff_mark, isPure_mark, evalOp_mark, markA_slc, markB, ↓reduceIte, Nat.reduceEqDiff, Int.reduceToNat, Int.reducePow, Nat.reduceAdd, Nat.reduceLeDiff, Nat.reduceMul, Nat.reduceBEq, reduceCtorEq]
  · rw [mapR_congr (g := numO s) (g' := fun x => numO s (sig ts 0 0 x)) (fun x _ => by unfold sig; rw [if_neg (by omega)])] at o
    exact o
end Go.Proofs.Ytiklfnjmadcgfaa

namespace Go.Proofs.Ytiklfnjmadcgfaa.windowOrder
open Go Go.Am Go.ChangeShapes Go.WideShapes Go.ChangeAt Go.RowKit
set_option linter.unusedVariables false

theorem own : ownKnob Try.prog.godebug = none := by kernel_rfl
theorem laidOut : laidOutB Try.prog = true := by kernel_rfl

set_option maxRecDepth 100000 in
theorem lifted (os : Os) (started : os.Started) (H : Type) (enc : TypeId × Value → H) :
    ReturnsInHanded {} Try.checked os F.cuneiformlaw11_WindowOrder .any (Rows.windowOrderSpec.pre6 enc Try.prog Try.f4 Rows.windowOrderRow.domain false) (Rows.windowOrderSpec.post enc Try.prog Try.f4 false true false false) := by
  refine returnsInHanded_of_change (C := Try.checked) own started (by kernel_rfl) Try.func4
    (ChangeSpec.witness6 (enc := enc) (C := Try.checked) false ⟨#[], #[.int .u32 5, .int .i64 7, .slice none 0 0], []⟩ 8 (by kernel_rfl) (by kernel_rfl) (by kernel_rfl) (by kernel_rfl)) ?_
  intro W base args ds gs before hval hW hcnd _
  refine law_calls (shs := [.int .u32, .int .i64, .slice (.int .u8)]) (tb := 4) laidOut (by kernel_rfl) ?_ (by kernel_rfl) Try.underlying4 rfl ?_ ?_ hval hW
  · intro t ht
    have : ∀ t ∈ Try.f4.params.toList, (Try.prog.readableRec t && decide (t < Try.prog.types.size)) = true := List.all_eq_true.1 (by kernel_rfl)
    simpa using this t ht
  · intro H ds hd
    match ds, hd with
    | [d0, d1, d2], _ => exact ⟨rfl, rfl, rfl⟩
  · rintro xs ⟨a, r, rfl, ⟨s, hs, ws⟩, c, r2, rfl, ⟨z, hz, wz⟩, b, r', rfl, hb, rfl⟩
    cases hs
    cases hz
    obtain ⟨bs, h1, h2, h3⟩ := nums_fits rfl hb
    have h4 := bounds_u32 ws
    obtain ⟨s, rfl⟩ := Int.eq_ofNat_of_zero_le h4.1
    exact fun_sees (.cons (.refl _) (.cons (.refl _) (.cons h1 .nil))) (order_ok (by omega) (fun b hb => by have := bounds_u8 (h2 b hb); omega) h3)

theorem proved : Rows.WindowOrderSaid :=
  OpenClaim.holds_of_wide F.cuneiformlaw11_WindowOrder Try.f4 rfl rfl rfl rfl rfl rfl rfl ⟨rfl, rfl, rfl, rfl, rfl⟩ rfl rfl rfl rfl rfl (by kernel_rfl) Try.func4 (by kernel_rfl)
    (of_decide_eq_true (by kernel_rfl)) (by unfold Func.isWrapper; first | (rw [if_pos (by decide +kernel)]; kernel_rfl) | (rw [if_neg (by decide +kernel)]; exact ⟨rfl, rfl⟩))
    (fun os started H enc _ => lifted os started H enc)
end Go.Proofs.Ytiklfnjmadcgfaa.windowOrder
