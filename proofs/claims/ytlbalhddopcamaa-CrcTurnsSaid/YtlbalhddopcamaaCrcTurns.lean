/-
  CrcTurnsSaid: whatever the bytes, the place and the bits, the law CrcTurns returns true. No condition. By an AI agent. No person has read it.
-/
import Derived.Test.YtlbalhddopcamaaSUM
import Derived.Test.YtlbalhddopcamaaSEAL
import Derived.Test.YtlbalhddopcamaaAm6
import Derived.OpenShut
import Derived.Test.YtlbalhddopcamaaRows

namespace Go.Am
open Go
set_option linter.unusedVariables false
set_option linter.unusedSimpArgs false

/-! ### Bytes as one number; turned bits -/

def valL : List Nat → Nat
  | [] => 0
  | c :: r => c ^^^ valL r * 2 ^ 8

theorem xor_mul (a b n : Nat) : (a ^^^ b) * 2 ^ n = a * 2 ^ n ^^^ b * 2 ^ n := by
  refine Nat.eq_of_testBit_eq fun i => ?_
  rw [Nat.testBit_xor, Nat.testBit_mul_two_pow, Nat.testBit_mul_two_pow, Nat.testBit_mul_two_pow, Nat.testBit_xor]
  cases decide (i ≥ n) <;> simp

theorem addAll_val : ∀ (bs : List Nat) (s : Nat), addAll s bs = shN (8 * bs.length) (s ^^^ valL bs)
  | [], s => by simp [addAll, valL, shN]
  | c :: r, s => by
    show addAll (add1 s c) r = _
    rw [addAll_val r, List.length_cons, show 8 * (r.length + 1) = 8 + 8 * r.length by omega, shN_add]
    congr 1
    rw [valL, ← Nat.xor_assoc, shN_xor 8 (s ^^^ c), shN_pow]
    rfl

theorem valL_set : ∀ (ys : List Nat) (q d : Nat), q < ys.length → valL (ys.set q (ys.getD q 0 ^^^ d)) = valL ys ^^^ d * 2 ^ (8 * q)
  | [], q, d, h => by simp at h
  | c :: r, 0, d, h => by
    show (c ^^^ d) ^^^ valL r * 2 ^ 8 = (c ^^^ valL r * 2 ^ 8) ^^^ d * 2 ^ (8 * 0)
    rw [Nat.mul_zero, Nat.pow_zero, Nat.mul_one, Nat.xor_assoc, Nat.xor_assoc, Nat.xor_comm d]
  | c :: r, q + 1, d, h => by
    show c ^^^ valL (r.set q (r.getD q 0 ^^^ d)) * 2 ^ 8 = (c ^^^ valL r * 2 ^ 8) ^^^ d * 2 ^ (8 * (q + 1))
    rw [valL_set r q d (by simpa using h), xor_mul, Nat.xor_assoc, Nat.mul_assoc, ← Nat.pow_add, show 8 * q + 8 = 8 * (q + 1) by omega]

theorem mod_succ (t i : Nat) : t % 2 ^ (i + 1) = t % 2 ^ i ^^^ (if t.testBit i = true then 2 ^ i else 0) := by
  refine Nat.eq_of_testBit_eq fun j => ?_
  rw [Nat.testBit_mod_two_pow, Nat.testBit_xor, Nat.testBit_mod_two_pow]
  by_cases hb : t.testBit i = true
  · rw [if_pos hb, Nat.testBit_two_pow]
    by_cases h1 : i = j
    · subst h1; simp [hb]
    · by_cases h2 : j < i
      · simp [h1, h2, show j < i + 1 by omega]
      · simp [h1, h2, show ¬ j < i + 1 by omega]
  · rw [if_neg hb, Nat.zero_testBit]
    by_cases h1 : i = j
    · subst h1; simp [hb]
    · by_cases h2 : j < i
      · simp [h1, h2, show j < i + 1 by omega]
      · simp [h1, h2, show ¬ j < i + 1 by omega]

theorem sh1_ne {w : Nat} (h : w < 4294967296) (h0 : w ≠ 0) : sh1 w ≠ 0 := by
  unfold sh1
  by_cases ho : w % 2 = 1
  · rw [if_pos ho]
    intro he
    have hb : (w / 2 ^^^ pol).testBit 31 = false := by rw [he]; simp
    rw [Nat.testBit_xor, Nat.testBit_lt_two_pow (x := w / 2) (i := 31) (by omega), show pol.testBit 31 = true by decide] at hb
    simp at hb
  · rw [if_neg ho, Nat.xor_zero]; omega
theorem shN_ne : ∀ (n : Nat) {w : Nat}, w < 4294967296 → w ≠ 0 → shN n w ≠ 0
  | 0, w, _, h => h
  | n + 1, w, h, h0 => shN_ne n (sh1_lt h) (sh1_ne h h0)

theorem xor_not {s : Nat} (h : s < 4294967296) : s ^^^ (4294967295 - s) = 4294967295 := by
  have e : (4294967296 : Nat) = 2 ^ 32 := by decide
  have e1 : 4294967295 - s = 2 ^ 32 - (s + 1) := by omega
  have e2 : (4294967295 : Nat) = 2 ^ 32 - 1 := by decide
  rw [e1]
  refine Nat.eq_of_testBit_eq fun i => ?_
  rw [Nat.testBit_xor, Nat.testBit_two_pow_sub_succ (by omega), e2, Nat.testBit_two_pow_sub_one]
  by_cases hi : i < 32
  · simp [hi]
  · have : s.testBit i = false := Nat.testBit_lt_two_pow (Nat.lt_of_lt_of_le h (by rw [e]; exact Nat.pow_le_pow_right (by omega) (by omega)))
    simp [hi, this]

theorem seal_const {hs : List Nat} {a b c d : Nat} (hb : ∀ b ∈ hs, b < 256) (he : [sumOf hs % 256, sumOf hs / 256 % 256, sumOf hs / 65536 % 256, sumOf hs / 16777216] = [a, b, c, d]) :
    addAll 4294967295 (hs ++ [a, b, c, d]) = shN 32 4294967295 := by
  rw [addAll_append]
  show add1 (add1 (add1 (add1 (addAll 4294967295 hs) a) b) c) d = _
  rw [step_four]
  congr 1
  have h1 := word4_of (sumOf_lt hs)
  simp only [List.cons.injEq, and_true] at he
  obtain ⟨rfl, rfl, rfl, rfl⟩ := he
  rw [← h1]
  unfold sumOf
  exact xor_not (addAll_lt hs (by omega) hb)

/-- Bits that are turned, within 32 in a row, are told. -/
theorem turned_told {xs ys : List Nat} {t f : Nat} (ht : t < 4294967296) (h0 : t ≠ 0) (hf : f + 32 ≤ 8 * xs.length) (hl : ys.length = xs.length) (hv : valL ys = valL xs ^^^ t * 2 ^ f) (hx : addAll 4294967295 xs = shN 32 4294967295) : addAll 4294967295 ys ≠ shN 32 4294967295 := by
  intro hy
  rw [addAll_val] at hx hy
  rw [hl, hv, ← Nat.xor_assoc, shN_xor, hx] at hy
  have e : shN (8 * xs.length) (t * 2 ^ f) = shN (8 * xs.length - f) t := by
    rw [show 8 * xs.length = f + (8 * xs.length - f) by omega, shN_add, shN_pow]
    congr 1; omega
  rw [e] at hy
  have hne := shN_ne (8 * xs.length - f) ht h0
  generalize shN (8 * xs.length - f) t = z at *
  generalize shN 32 4294967295 = k at *
  have : z = k ^^^ (k ^^^ z) := by rw [← Nat.xor_assoc, Nat.xor_self, Nat.zero_xor]
  rw [hy, Nat.xor_self] at this
  exact hne this
end Go.Am

namespace Go.Proofs.Ytlbalhddopcamaa
open Go Go.Am
set_option linter.unusedSimpArgs false
set_option linter.unusedVariables false

theorem seal_raw (H : AHeap) {t : Bool} {bs : List Nat} (hlen : bs.length ≤ 1000000) (hb : ∀ b ∈ bs, b < 256) (Q : AVal → AHeap → Prop) (h : ∀ HB, Keeps H HB → HB.length = H.length + 4 → (ClosedH H → ClosedH HB) → Q (.slc HB.length 0 (bs.length + 4) 1) (HB ++ [.vec ((bs ++ le4 (sumOf bs)).map fun n : Nat => AVal.int .u8 (n : Int)) T.uint8 1])) : FunOK Try.prog F.crc_Seal [tabV, nums .u8 t bs] H Q := by
  refine fun_V 100 crc_Seal_code rfl ?_
  have hne : eqA .ptr tabV .nilp = some false := rfl
  simp (disch := first | omega | (simp only [List.length_append, List.length_cons, List.length_nil, List.length_set, List.length_map, List.length_take, List.length_drop]; omega)) only [stdh, goK_s2b, dgoK_s2b, isEff_s2b, isPure_s2b, goK_b2s, dgoK_b2s, isEff_b2s, isPure_b2s, evalOp_s2b, s2bR, goK_mark, dgoK_mark, isEff_mark, isPure_mark, evalOp_mark, markA_slc, markB, ↓reduceIte, Nat.reduceEqDiff, Int.reduceToNat, Int.reducePow, Nat.reduceAdd, Nat.reduceLeDiff, Nat.reduceMul, Nat.reduceBEq, reduceCtorEq, crc_Seal, crc_Seal.body, hne]
  refine callK_fn (sum_ok _ (lists_one (bs := bs) (t := t) at_0 (Sees.refl _) hb (by omega)) _ ?_)
  rw [show [bs].flatten = bs by simp]
  refine runL_V 60 ?_
  simp (disch := first | omega | (simp only [List.length_append, List.length_cons, List.length_nil, List.length_set, List.length_map, List.length_take, List.length_drop]; omega)) only [stdh, goK_s2b, dgoK_s2b, isEff_s2b, isPure_s2b, goK_b2s, dgoK_b2s, isEff_b2s, isPure_b2s, evalOp_s2b, s2bR, goK_mark, dgoK_mark, isEff_mark, isPure_mark, evalOp_mark, markA_slc, markB, ↓reduceIte, Nat.reduceEqDiff, Int.reduceToNat, Int.reducePow, Nat.reduceAdd, Nat.reduceLeDiff, Nat.reduceMul, Nat.reduceBEq, reduceCtorEq]
  refine callK_fn (bytes_ok _ (sumOf_lt bs) _ ?_)
  refine runL_V 60 ?_
  have hc4 : (le4A (sumOf bs)).all AVal.cellish = true := cellish_nats _
  have hf4 : fillAt [AVal.int .u8 0, .int .u8 0, .int .u8 0, .int .u8 0] 0 (le4A (sumOf bs)) = le4A (sumOf bs) := rfl
  have hl4 : (le4A (sumOf bs)).length = 4 := rfl
  have hb1 : (bounds 4 4 none none none).1 := by simp [bounds]
  have hb2 : (bounds 4 4 none none none).2.1 = 0 := rfl
  have hb3 : (bounds 4 4 none none none).2.2.1 = 4 := rfl
  have hcn := cellish_nats bs
  obtain ⟨p1, a1, hp1⟩ := append_at (H := H ++ [.vec [nums .u8 t bs] T.sl_uint8 1, .cells (le4A (sumOf bs)) T.n4_uint8, .vec [] T.uint8 1]) (m := H.length + 2) (n := 0) (k := bs.length) (el := T.uint8) (bytes := 1) (cs := []) (x := nums .u8 t bs) (by rw [at_k]; rfl) rfl rfl rfl (by simp) rfl (by omega) hcn
  rw [List.nil_append] at a1
  obtain ⟨p2, a2, hp2⟩ := append_at (H := H ++ [.vec [nums .u8 t bs] T.sl_uint8 1, .cells (le4A (sumOf bs)) T.n4_uint8, .dead, .vec (bs.map fun n : Nat => AVal.int .u8 (n : Int)) T.uint8 1]) (m := H.length + 3) (n := bs.length) (k := 4) (el := T.uint8) (bytes := 1) (cs := bs.map fun n : Nat => AVal.int .u8 (n : Int)) (ys := le4A (sumOf bs)) (x := .slc (H.length + 1) 0 4 1) (by rw [at_k]; rfl) (by simp) rfl (by simp only [srcCells, view, at_k]; rfl) rfl rfl (by omega) hc4
  simp (disch := first | omega | (simp only [List.length_append, List.length_cons, List.length_nil, List.length_set, List.length_map, List.length_take, List.length_drop]; omega)) only [stdh, goK_s2b, dgoK_s2b, isEff_s2b, isPure_s2b, goK_b2s, dgoK_b2s, isEff_b2s, isPure_b2s, evalOp_s2b, s2bR, goK_mark, dgoK_mark, isEff_mark, isPure_mark, evalOp_mark, markA_slc, markB, ↓reduceIte, Nat.reduceEqDiff, Int.reduceToNat, Int.reducePow, Nat.reduceAdd, Nat.reduceLeDiff, Nat.reduceMul, Nat.reduceBEq, reduceCtorEq, hc4, hf4, hl4, crc_Seal.d0, hb1, hb2, hb3, Nat.sub_zero, a1, hp1, a2, hp2]
  rw [show (bs.map fun n : Nat => AVal.int .u8 (n : Int)) ++ le4A (sumOf bs) = (bs ++ le4 (sumOf bs)).map fun n : Nat => AVal.int .u8 (n : Int) by rw [List.map_append]; rfl]
  have h := h (H ++ [ABlk.vec [nums .u8 t bs] T.sl_uint8 1, .cells (le4A (sumOf bs)) T.n4_uint8, .dead, .dead]) (keeps_append _ _) (by simp) (fun hc => by
    have c1 := hc.push (b := .vec [nums .u8 t bs] T.sl_uint8 1) ⟨closed_nums _ _ _, trivial⟩
    have c2 := c1.push (b := .cells (le4A (sumOf bs)) T.n4_uint8) (closeds_ints _ _)
    have c3 := c2.push (b := .dead) trivial
    have c4 := c3.push (b := .dead) trivial
    simpa using c4)
  simp only [List.length_append, List.length_cons, List.length_nil, Nat.zero_add, Nat.reduceAdd, List.append_assoc, List.cons_append, List.nil_append] at h
  exact h

theorem tu_mod (w : Nat) : ((w : Nat) : Int).tmod 2 = ((w % 2 : Nat) : Int) := by rw [Int.tmod_eq_emod_of_nonneg (by omega)]; omega
theorem tu_quo {w : Nat} (h : w < 4294967296) : IntKind.u32.wrap (((w : Nat) : Int).tdiv 2) = ((w / 2 : Nat) : Int) := by rw [Int.tdiv_eq_ediv_of_nonneg (by omega), wrap_u32 (by omega)]; omega
theorem tu_pow {s : Nat} (hr : s < 8) : IntKind.u8.wrap (1 * 2 ^ s) = ((2 ^ s : Nat) : Int) := by
  have hp8 : 2 ^ s < 256 := (show 2 ^ s < 2 ^ 8 from Nat.pow_lt_pow_right (by decide) hr)
  rw [Int.one_mul, show (2 : Int) ^ s = ((2 ^ s : Nat) : Int) by simp]
  generalize 2 ^ s = z at *
  exact wrap_u8 (by omega)

theorem mv_nums_ptr {f : Nat → To} : mv f tabV = tabV := by
  unfold tabV
  rw [mv, mv_nums]

abbrev tuC : Ctx := ⟨F.cuneiformlaw04_CrcTurns, 88, [.tmp 6], none⟩

def u8v (xs : List Nat) : List AVal := xs.map fun n : Nat => AVal.int .u8 (n : Int)
theorem u8v_len (xs : List Nat) : (u8v xs).length = xs.length := by simp [u8v]
theorem u8v_get {xs : List Nat} {j : Nat} (h : j < xs.length) : (u8v xs).getD j .junk = .int .u8 ((xs.getD j 0 : Nat) : Int) := by
  simp [u8v, List.getD_eq_getElem?_getD, h]
theorem u8v_set (xs : List Nat) (j v : Nat) : (u8v xs).set j (.int .u8 (v : Nat)) = u8v (xs.set j v) := by simp [u8v, List.map_set]

theorem turn_loop (K : List AItem) (Q : AVal → AHeap → Prop) {HB : AHeap} {xs : List Nat} {t f : Nat} (ht : t < 4294967296) (hf : f + 32 ≤ 8 * xs.length) (hlen : xs.length ≤ 1000000)
    (hK : ∀ ys r', ys.length = xs.length → (∀ b ∈ ys, b < 256) → valL ys = valL xs ^^^ t * 2 ^ f → rget r' 7 = tabV → rget r' 8 = .slc HB.length 0 xs.length 1 → Run Try.prog tuC K r' (HB ++ [.vec (u8v ys) T.uint8 1]) Q) :
    ∀ (m i : Nat) (ys : List Nat), 32 - i = m → i ≤ 32 → ys.length = xs.length → (∀ b ∈ ys, b < 256) → valL ys = valL xs ^^^ t % 2 ^ i * 2 ^ f →
    Rounds Try.prog tuC cuneiformlaw04_CrcTurns.b1 [.inBlock 0] K [(2, .int .u32 ((t / 2 ^ i : Nat) : Int)), (7, tabV), (8, .slc HB.length 0 xs.length 1), (9, .int .i64 (f : Nat)), (10, .int .i64 (i : Nat))] (HB ++ [.vec (u8v ys) T.uint8 1]) Q
  | m, i, ys, h1, h2, hl, hb, hv => by
    refine loop_V 100 cuneiformlaw04_CrcTurns.b1.eq_1 ?_
    by_cases hi : i < 32
    · have hlt : t / 2 ^ i < 4294967296 := Nat.lt_of_le_of_lt (Nat.div_le_self _ _) ht
      have hbit : t.testBit i = decide ((t / 2 ^ i) % 2 = 1) := Nat.testBit_eq_decide_div_mod_eq
      have hd2 : t / 2 ^ (i + 1) = t / 2 ^ i / 2 := by rw [Nat.pow_succ, Nat.div_div_eq_div_mul]
      have e1 := tu_mod (t / 2 ^ i)
      have e2 := tu_quo hlt
      have hms := mod_succ t i
      rcases Nat.mod_two_eq_zero_or_one (t / 2 ^ i) with h0 | h0
      · rw [hbit, h0, if_neg (by simp), Nat.xor_zero] at hms
        rw [h0] at e1
        simp (disch := first | omega | (simp only [List.length_append, List.length_cons, List.length_nil, List.length_set, List.length_map, List.length_take, List.length_drop]; omega)) only [stdh, goK_s2b, dgoK_s2b, isEff_s2b, isPure_s2b, goK_b2s, dgoK_b2s, isEff_b2s, isPure_b2s, evalOp_s2b, s2bR, goK_mark, dgoK_mark, isEff_mark, isPure_mark, evalOp_mark, markA_slc, markB, ↓reduceIte, Nat.reduceEqDiff, Int.reduceToNat, Int.reducePow, Nat.reduceAdd, Nat.reduceLeDiff, Nat.reduceMul, Nat.reduceBEq, reduceCtorEq, e1, e2]
        rw [← hd2, show (i : Int) + 1 = ((i + 1 : Nat) : Int) by omega]
        refine turn_loop K Q ht hf hlen hK _ (i + 1) ys rfl (by omega) hl hb (by rw [hms]; exact hv)
      · rw [hbit, h0, if_pos (by simp)] at hms
        rw [h0] at e1
        have ek : (f : Int) + (i : Int) = ((f + i : Nat) : Int) := by omega
        have e3 : ((f + i : Nat) : Int).tdiv 8 = (((f + i) / 8 : Nat) : Int) := by rw [Int.tdiv_eq_ediv_of_nonneg (by omega)]; omega
        have e4 : ((f + i : Nat) : Int).tmod 8 = (((f + i) % 8 : Nat) : Int) := by rw [Int.tmod_eq_emod_of_nonneg (by omega)]; omega
        have hr : (f + i) % 8 < 8 := by omega
        have hq : (f + i) / 8 < xs.length := by omega
        have hfi : f + i = 8 * ((f + i) / 8) + (f + i) % 8 := by omega
        generalize (f + i) / 8 = q at *
        generalize (f + i) % 8 = s at *
        have hp8 : 2 ^ s < 256 := (show 2 ^ s < 2 ^ 8 from Nat.pow_lt_pow_right (by decide) hr)
        have e5 := tu_pow hr
        have hxb : ys.getD q 0 < 256 := by
          rw [List.getD_eq_getElem?_getD]; simp [show q < ys.length by omega]; exact hb _ (List.getElem_mem _)
        have hxq := valL_set ys q (2 ^ s) (by omega)
        have hnb : ys.getD q 0 ^^^ 2 ^ s < 256 := Nat.xor_lt_two_pow (n := 8) hxb hp8
        have e6 := bits_xor (k := .u8) rfl (a := ys.getD q 0) (b := 2 ^ s) hxb hp8
        have hat : (HB ++ [ABlk.vec (u8v ys) T.uint8 1])[HB.length]? = some (.vec (u8v ys) T.uint8 1) := at_0
        have hul : (u8v ys).length = xs.length := by rw [u8v_len, hl]
        have v1 := view_vec hat hul
        have l1 := load_vec hat hul (j := q) hq
        rw [u8v_get (by omega)] at l1
        generalize hz : ys.getD q 0 ^^^ 2 ^ s = z at *
        generalize ys.getD q 0 = y at *
        have s1 := store_vec (v := .int .u8 (z : Nat)) hat hul (j := q) hq rfl rfl
        rw [set_0, u8v_set] at s1
        simp only [List.set_cons_zero] at s1
        simp (disch := first | omega | (simp only [List.length_append, List.length_cons, List.length_nil, List.length_set, List.length_map, List.length_take, List.length_drop]; omega)) only [stdh, goK_s2b, dgoK_s2b, isEff_s2b, isPure_s2b, goK_b2s, dgoK_b2s, isEff_b2s, isPure_b2s, evalOp_s2b, s2bR, goK_mark, dgoK_mark, isEff_mark, isPure_mark, evalOp_mark, markA_slc, markB, ↓reduceIte, Nat.reduceEqDiff, Int.reduceToNat, Int.reducePow, Nat.reduceAdd, Nat.reduceLeDiff, Nat.reduceMul, Nat.reduceBEq, reduceCtorEq, e1, e2, ek, e3, e4, e5, e6, v1, l1, s1, cuneiformlaw04_CrcTurns.d0]
        rw [← hd2, show (i : Int) + 1 = ((i + 1 : Nat) : Int) by omega]
        refine turn_loop K Q ht hf hlen hK _ (i + 1) (ys.set q z) rfl (by omega) (by rw [List.length_set, hl]) ?_ ?_
        · intro b hbm
          rcases List.mem_or_eq_of_mem_set hbm with h | rfl
          · exact hb b h
          · exact hnb
        · rw [hxq, hv, hms, xor_mul, Nat.xor_assoc]
          congr 2
          rw [← Nat.pow_add, ← Nat.pow_add]
          congr 1
          omega
    · have : i = 32 := by omega
      subst this
      rw [Nat.mod_eq_of_lt (show t < 2 ^ 32 by omega)] at hv
      simp (disch := first | omega | (simp only [List.length_append, List.length_cons, List.length_nil, List.length_set, List.length_map, List.length_take, List.length_drop]; omega)) only [stdh, goK_s2b, dgoK_s2b, isEff_s2b, isPure_s2b, goK_b2s, dgoK_b2s, isEff_b2s, isPure_b2s, evalOp_s2b, s2bR, goK_mark, dgoK_mark, isEff_mark, isPure_mark, evalOp_mark, markA_slc, markB, ↓reduceIte, Nat.reduceEqDiff, Int.reduceToNat, Int.reducePow, Nat.reduceAdd, Nat.reduceLeDiff, Nat.reduceMul, Nat.reduceBEq, reduceCtorEq]
      exact hK ys _ hl hb hv rfl rfl
  termination_by m => m

theorem open_turned {zs ys : List Nat} {t f : Nat} (hz : ∀ b ∈ zs, b < 256) (hy : ∀ b ∈ ys, b < 256) (hl : ys.length = (zs ++ le4 (sumOf zs)).length) (ht : t < 4294967296) (h0 : t ≠ 0) (hf : f + 32 ≤ 8 * (zs ++ le4 (sumOf zs)).length)
    (hv : valL ys = valL (zs ++ le4 (sumOf zs)) ^^^ t * 2 ^ f) : openOf ys = ([], 11) := by
  have hln : (zs ++ le4 (sumOf zs)).length = zs.length + 4 := by simp [le4]
  have hx : addAll 4294967295 (zs ++ le4 (sumOf zs)) = shN 32 4294967295 := seal_const hz rfl
  have hn := turned_told ht h0 hf hl hv hx
  unfold openOf
  rw [if_neg (by omega), if_neg]
  intro he
  apply hn
  have hd : (ys.drop (ys.length - 4)).length = 4 := by rw [List.length_drop]; omega
  have hsp := List.take_append_drop (ys.length - 4) ys
  have hb' : ∀ b ∈ ys.take (ys.length - 4), b < 256 := fun b hbm => hy b (List.mem_of_mem_take hbm)
  generalize ys.take (ys.length - 4) = hs at *
  generalize ys.drop (ys.length - 4) = ds at *
  match ds, hd with
  | [a, b, c, d], _ =>
    rw [← hsp]
    exact seal_const hb' he

theorem turns_ok {bs : List Nat} (hb : ∀ b ∈ bs, b < 256) (at_ : Int) {t : Nat} (ht : t < 4294967296) : FunOK Try.prog F.cuneiformlaw04_CrcTurns [nums .u8 false bs, .int .i64 at_, .int .u32 (t : Nat)] [] fun av _ => av = .bool true := by
  refine fun_V 100 cuneiformlaw04_CrcTurns_code rfl ?_
  have min200 : ∀ n : Nat, (if 200 < (n : Int) then 200 else (n : Int)) = ((min n 200 : Nat) : Int) := fun n => by split <;> omega
  simp (disch := first | omega | (simp only [List.length_append, List.length_cons, List.length_nil, List.length_set, List.length_map, List.length_take, List.length_drop]; omega)) only [stdh, goK_s2b, dgoK_s2b, isEff_s2b, isPure_s2b, goK_b2s, dgoK_b2s, isEff_b2s, isPure_b2s, evalOp_s2b, s2bR, goK_mark, dgoK_mark, isEff_mark, isPure_mark, evalOp_mark, markA_slc, markB, ↓reduceIte, Nat.reduceEqDiff, Int.reduceToNat, Int.reducePow, Nat.reduceAdd, Nat.reduceLeDiff, Nat.reduceMul, Nat.reduceBEq, reduceCtorEq, cuneiformlaw04_CrcTurns, cuneiformlaw04_CrcTurns.body, min200]
  have hz : ∀ b ∈ bs.take (min bs.length 200), b < 256 := fun b hb' => hb b (List.mem_of_mem_take hb')
  have hzl : (bs.take (min bs.length 200)).length ≤ 200 := by rw [List.length_take]; omega
  generalize bs.take (min bs.length 200) = zs at *
  have hsz : ∀ b ∈ zs ++ le4 (sumOf zs), b < 256 := by
    intro b hb'
    rcases List.mem_append.1 hb' with h | h
    · exact hz b h
    · exact le4_lt (sumOf_lt zs) b h
  have hln : (zs ++ le4 (sumOf zs)).length = zs.length + 4 := by simp [le4]
  refine callK_fn (new_ok _ _ ?_)
  refine runL_V 60 ?_
  simp (disch := first | omega | (simp only [List.length_append, List.length_cons, List.length_nil, List.length_set, List.length_map, List.length_take, List.length_drop]; omega)) only [stdh, goK_s2b, dgoK_s2b, isEff_s2b, isPure_s2b, goK_b2s, dgoK_b2s, isEff_b2s, isPure_b2s, evalOp_s2b, s2bR, goK_mark, dgoK_mark, isEff_mark, isPure_mark, evalOp_mark, markA_slc, markB, ↓reduceIte, Nat.reduceEqDiff, Int.reduceToNat, Int.reducePow, Nat.reduceAdd, Nat.reduceLeDiff, Nat.reduceMul, Nat.reduceBEq, reduceCtorEq]
  refine callK_fn (seal_raw _ (by omega) hz _ ?_)
  intro HB _ hbl hbc
  have hcl : ClosedH HB := hbc (fun n b h => by simp at h)
  change RunL _ _ _ _ _ _ _ (HB ++ [ABlk.vec (u8v (zs ++ le4 (sumOf zs))) T.uint8 1]) _
  generalize hxs : zs ++ le4 (sumOf zs) = xs at *
  rw [← hln]
  refine runL_V 60 ?_
  by_cases h0 : t = 0
  · subst h0
    simp (disch := first | omega | (simp only [List.length_append, List.length_cons, List.length_nil, List.length_set, List.length_map, List.length_take, List.length_drop]; omega)) only [stdh, goK_s2b, dgoK_s2b, isEff_s2b, isPure_s2b, goK_b2s, dgoK_b2s, isEff_b2s, isPure_b2s, evalOp_s2b, s2bR, goK_mark, dgoK_mark, isEff_mark, isPure_mark, evalOp_mark, markA_slc, markB, ↓reduceIte, Nat.reduceEqDiff, Int.reduceToNat, Int.reducePow, Nat.reduceAdd, Nat.reduceLeDiff, Nat.reduceMul, Nat.reduceBEq, reduceCtorEq]
    refine callK_fn (known04_ok _ _ ?_)
    refine runL_V 60 ?_
    simp (disch := first | omega | (simp only [List.length_append, List.length_cons, List.length_nil, List.length_set, List.length_map, List.length_take, List.length_drop]; omega)) only [stdh, goK_s2b, dgoK_s2b, isEff_s2b, isPure_s2b, goK_b2s, dgoK_b2s, isEff_b2s, isPure_b2s, evalOp_s2b, s2bR, goK_mark, dgoK_mark, isEff_mark, isPure_mark, evalOp_mark, markA_slc, markB, ↓reduceIte, Nat.reduceEqDiff, Int.reduceToNat, Int.reducePow, Nat.reduceAdd, Nat.reduceLeDiff, Nat.reduceMul, Nat.reduceBEq, reduceCtorEq]
  · have hx : ∃ f : Nat, (IntKind.u64.wrap at_).tmod (8 * (xs.length : Int) - 31) = (f : Int) ∧ f + 32 ≤ 8 * xs.length := by
      have h1 : (0 : Int) ≤ IntKind.u64.wrap at_ := by rw [wrap_u64']; omega
      have h2 := Int.emod_nonneg (IntKind.u64.wrap at_) (b := 8 * (xs.length : Int) - 31) (by omega)
      have h3 := Int.emod_lt_of_pos (IntKind.u64.wrap at_) (b := 8 * (xs.length : Int) - 31) (by omega)
      refine ⟨(IntKind.u64.wrap at_ % (8 * (xs.length : Int) - 31)).toNat, ?_, by omega⟩
      rw [Int.tmod_eq_emod_of_nonneg h1]; omega
    obtain ⟨f, hf1, hf2⟩ := hx
    simp (disch := first | omega | (simp only [List.length_append, List.length_cons, List.length_nil, List.length_set, List.length_map, List.length_take, List.length_drop]; omega)) only [stdh, goK_s2b, dgoK_s2b, isEff_s2b, isPure_s2b, goK_b2s, dgoK_b2s, isEff_b2s, isPure_b2s, evalOp_s2b, s2bR, goK_mark, dgoK_mark, isEff_mark, isPure_mark, evalOp_mark, markA_slc, markB, ↓reduceIte, Nat.reduceEqDiff, Int.reduceToNat, Int.reducePow, Nat.reduceAdd, Nat.reduceLeDiff, Nat.reduceMul, Nat.reduceBEq, reduceCtorEq, hf1]
    have ht2 : t / 2 ^ 0 = t := by simp
    have hlp := turn_loop (HB := HB) (t := t) (xs := xs) (K := [AItem.code
            ((ACode.region
                  [{ dst := some 73, op := AOp.mov (AOpd.tmp 7), guard := none },
                    { dst := some 74, op := AOp.mov (AOpd.tmp 8), guard := none },
                    { dst := some 75, op := AOp.call (AOpd.const (AVal.fn F.crc_Open [] [])) [AOpd.tmp 73, AOpd.tmp 74],
                      guard := none },
                    { dst := some 72, op := AOp.mov (AOpd.tmp 75), guard := none },
                    { dst := some 76, op := AOp.extract (AOpd.tmp 72) 0, guard := none },
                    { dst := some 77, op := AOp.extract (AOpd.tmp 72) 1, guard := none },
                    { dst := some 12, op := AOp.mov (AOpd.tmp 76), guard := none },
                    { dst := some 13, op := AOp.mov (AOpd.tmp 77), guard := none }]
                  [12, 13]).seq
              ((ACode.region
                    [{ dst := some 78, op := AOp.call (AOpd.const (AVal.fn F.cuneiformlaw04_known [] [])) [],
                        guard := none },
                      { dst := some 79, op := AOp.mov (AOpd.tmp 78), guard := none },
                      { dst := some 80, op := AOp.mov (AOpd.tmp 12), guard := some (79, true) },
                      { dst := some 81, op := AOp.len LKind.slice (AOpd.tmp 80), guard := some (79, true) },
                      { dst := some 82, op := AOp.bin BinOp.eql (AOpd.tmp 81) (AOpd.const (AVal.int IntKind.i64 0)),
                        guard := some (79, true) },
                      { dst := some 83, op := AOp.pick (AOpd.tmp 79) (AOpd.tmp 82) (AOpd.const (AVal.bool false)),
                        guard := none },
                      { dst := some 84, op := AOp.mov (AOpd.tmp 83), guard := none },
                      { dst := some 85, op := AOp.mov (AOpd.tmp 13), guard := some (84, true) },
                      { dst := some 86, op := AOp.bin BinOp.eql (AOpd.tmp 85) (AOpd.const (AVal.int IntKind.i64 11)),
                        guard := some (84, true) },
                      { dst := some 87, op := AOp.pick (AOpd.tmp 84) (AOpd.tmp 86) (AOpd.const (AVal.bool false)),
                        guard := none },
                      { dst := some 6, op := AOp.mov (AOpd.tmp 87), guard := none }]
                    [6]).seq
                ACode.ret))]) (fun av _ => av = AVal.bool true) ht hf2 (by omega) ?_ _ 0 xs rfl (by omega) rfl hsz (by rw [Nat.pow_zero, Nat.mod_one, Nat.zero_mul, Nat.xor_zero])
    · rw [ht2] at hlp
      exact hlp
    · intro ys r' hyl hyb hyv g7 g8
      have hot := open_turned (zs := zs) (ys := ys) (t := t) (f := f) hz hyb (by rw [hxs]; exact hyl) ht h0 (by rw [hxs]; exact hf2) (by rw [hxs]; exact hyv)
      refine run_iceLast hcl (closeds_ints _ _) (by intro n hn; cases hn) ?_
      have g7' : rget (mvRegs (iceF HB.length (u8v ys)) r') 7 = tabV := by rw [rget_mv, g7]; exact mv_nums_ptr
      have g8' : rget (mvRegs (iceF HB.length (u8v ys)) r') 8 = nums .u8 false ys := by
        rw [rget_mv, g8, ← hyl, mv_iceAt (by rw [u8v_len]; omega)]; rfl
      refine run_V0 60 ?_
      simp (disch := first | omega | (simp only [List.length_append, List.length_cons, List.length_nil, List.length_set, List.length_map, List.length_take, List.length_drop]; omega)) only [stdh, goK_s2b, dgoK_s2b, isEff_s2b, isPure_s2b, goK_b2s, dgoK_b2s, isEff_b2s, isPure_b2s, evalOp_s2b, s2bR, goK_mark, dgoK_mark, isEff_mark, isPure_mark, evalOp_mark, markA_slc, markB, ↓reduceIte, Nat.reduceEqDiff, Int.reduceToNat, Int.reducePow, Nat.reduceAdd, Nat.reduceLeDiff, Nat.reduceMul, Nat.reduceBEq, reduceCtorEq, g7', g8']
      refine callK_fn (open_ok _ (by omega) hyb _ ?_)
      rw [hot]
      refine runL_V 60 ?_
      simp (disch := first | omega | (simp only [List.length_append, List.length_cons, List.length_nil, List.length_set, List.length_map, List.length_take, List.length_drop]; omega)) only [stdh, goK_s2b, dgoK_s2b, isEff_s2b, isPure_s2b, goK_b2s, dgoK_b2s, isEff_b2s, isPure_b2s, evalOp_s2b, s2bR, goK_mark, dgoK_mark, isEff_mark, isPure_mark, evalOp_mark, markA_slc, markB, ↓reduceIte, Nat.reduceEqDiff, Int.reduceToNat, Int.reducePow, Nat.reduceAdd, Nat.reduceLeDiff, Nat.reduceMul, Nat.reduceBEq, reduceCtorEq]
      refine callK_fn (known04_ok _ _ ?_)
      refine runL_V 60 ?_
      simp (disch := first | omega | (simp only [List.length_append, List.length_cons, List.length_nil, List.length_set, List.length_map, List.length_take, List.length_drop]; omega)) only [stdh, goK_s2b, dgoK_s2b, isEff_s2b, isPure_s2b, goK_b2s, dgoK_b2s, isEff_b2s, isPure_b2s, evalOp_s2b, s2bR, goK_mark, dgoK_mark, isEff_mark, isPure_mark, evalOp_mark, markA_slc, markB, ↓reduceIte, Nat.reduceEqDiff, Int.reduceToNat, Int.reducePow, Nat.reduceAdd, Nat.reduceLeDiff, Nat.reduceMul, Nat.reduceBEq, reduceCtorEq]
end Go.Proofs.Ytlbalhddopcamaa

namespace Go.Proofs.Ytlbalhddopcamaa.crcTurns
open Go Go.Am Go.ChangeShapes Go.WideShapes Go.ChangeAt Go.RowKit
set_option linter.unusedVariables false

theorem own : ownKnob Try.prog.godebug = none := by kernel_rfl
theorem laidOut : laidOutB Try.prog = true := by kernel_rfl

set_option maxRecDepth 100000 in
theorem lifted (os : Os) (started : os.Started) (H : Type) (enc : TypeId × Value → H) :
    ReturnsInHanded {} Try.checked os F.cuneiformlaw04_CrcTurns .any (Rows.crcTurnsSpec.pre6 enc Try.prog Try.f6 Rows.crcTurnsRow.domain false) (Rows.crcTurnsSpec.post enc Try.prog Try.f6 false true false false) := by
  refine returnsInHanded_of_change (C := Try.checked) own started (by kernel_rfl) Try.func6
    (ChangeSpec.witness6 (enc := enc) (C := Try.checked) false ⟨#[], #[.slice none 0 0, .int .i64 7, .int .u32 5], []⟩ 8 (by kernel_rfl) (by kernel_rfl) (by kernel_rfl) (by kernel_rfl)) ?_
  intro W base args ds gs before hval hW hcnd _
  refine law_calls (shs := [.slice (.int .u8), .int .i64, .int .u32]) (tb := 4) laidOut (by kernel_rfl) ?_ (by kernel_rfl) Try.underlying4 rfl ?_ ?_ hval hW
  · intro t ht
    have : ∀ t ∈ Try.f6.params.toList, (Try.prog.readableRec t && decide (t < Try.prog.types.size)) = true := List.all_eq_true.1 (by kernel_rfl)
    simpa using this t ht
  · intro H ds hd
    match ds, hd with
    | [d0, d1, d2], _ => exact ⟨rfl, rfl, rfl⟩
  · rintro xs ⟨a, r, rfl, ha, c, r2, rfl, ⟨z, hz, wz⟩, d, r3, rfl, ⟨s, hs, ws⟩, rfl⟩
    cases hs
    cases hz
    obtain ⟨bs, q1, q2, q3⟩ := nums_fits (k := .u8) rfl ha
    have hb : ∀ b ∈ bs, b < 256 := fun b hb => by
      have := q2 b hb
      simp only [Lit.wf, Bool.and_eq_true, decide_eq_true_eq, IntKind.min, IntKind.max, IntKind.signed, IntKind.bits] at this
      simp at this
      omega
    have h4 := bounds_u32 ws
    obtain ⟨s, rfl⟩ := Int.eq_ofNat_of_zero_le h4.1
    exact fun_sees (.cons q1 (.cons (.refl _) (.cons (.refl _) .nil))) (turns_ok hb z (by omega))

theorem proved : Rows.CrcTurnsSaid :=
  OpenClaim.holds_of_wide F.cuneiformlaw04_CrcTurns Try.f6 rfl rfl rfl rfl rfl rfl rfl ⟨rfl, rfl, rfl, rfl, rfl⟩ rfl rfl rfl rfl rfl (by kernel_rfl) Try.func6 (by kernel_rfl)
    (of_decide_eq_true (by kernel_rfl)) (by unfold Func.isWrapper; first | (rw [if_pos (by decide +kernel)]; kernel_rfl) | (rw [if_neg (by decide +kernel)]; exact ⟨rfl, rfl⟩))
    (fun os started H enc _ => lifted os started H enc)
end Go.Proofs.Ytlbalhddopcamaa.crcTurns
