/-
  Lemmas on the way to the statements of this seat. By an AI agent. No person has read it.
-/
import Derived.Test.YtebhlclfiiffbaaREAD

namespace Go.Proofs.Ytebhlclfiiffbaa
open Go Go.Am
set_option linter.unusedSimpArgs false
set_option linter.unusedVariables false

def lead : Nat → List Nat → Nat
  | 0, _ => 0
  | _ + 1, [] => 0
  | f + 1, b :: bs => if 128 ≤ b then 1 + lead f bs else 0

def val : List Nat → Nat
  | [] => 0
  | b :: bs => b % 128 + 128 * val bs

theorem lead_le : ∀ (f : Nat) (bs : List Nat), lead f bs ≤ f
  | 0, _ => by simp [lead]
  | _ + 1, [] => by simp [lead]
  | f + 1, b :: bs => by
    simp only [lead]
    have := lead_le f bs
    split <;> omega

def rgetSpec (bs : List Nat) : Nat × Nat × Nat :=
  if lead 10 bs = 10 then (0, 0, 3)
  else if bs.length ≤ lead 10 bs then (0, 0, 4)
  else if 18446744073709551616 ≤ val (bs.take (lead 10 bs + 1)) then (0, 0, 3)
  else if 0 < lead 10 bs ∧ bs.getD (lead 10 bs) 0 = 0 then (0, 0, 3)
  else (val (bs.take (lead 10 bs + 1)), lead 10 bs + 1, 0)

theorem getFrom_eq : ∀ (f i n : Nat) (bs : List Nat), i + f = 10 → n < 2 ^ (7 * i) →
    getFrom f i n bs = if lead f bs = f then (0, 0, 3) else if bs.length ≤ lead f bs then (0, 0, 4) else if 18446744073709551616 ≤ n + val (bs.take (lead f bs + 1)) * 2 ^ (7 * i) then (0, 0, 3)
      else if 0 < i + lead f bs ∧ bs.getD (lead f bs) 0 % 128 = 0 then (0, 0, 3) else (n + val (bs.take (lead f bs + 1)) * 2 ^ (7 * i), i + lead f bs + 1, 0)
  | 0, i, n, bs, h, hn => by simp [getFrom, lead]
  | f + 1, i, n, [], h, hn => by simp [getFrom, lead]
  | f + 1, i, n, b :: rest, h, hn => by
    have hp2 := Nat.two_pow_pos (7 * i)
    have h64 : (18446744073709551616 : Nat) = 2 ^ (64 - 7 * i) * 2 ^ (7 * i) := by rw [← Nat.pow_add, show 64 - 7 * i + 7 * i = 64 by omega]
    by_cases hb : 128 ≤ b
    · simp only [getFrom, lead, if_pos hb]
      by_cases hf : f = 0
      · subst hf; simp [getFrom, lead]
      · have hq : b % 128 % 2 ^ (64 - 7 * i) = b % 128 := by
          refine Nat.mod_eq_of_lt (Nat.lt_of_lt_of_le (Nat.mod_lt _ (by omega)) ?_)
          exact Nat.pow_le_pow_right (n := 2) (by omega) (show 7 ≤ 64 - 7 * i by omega)
        rw [hq]
        have hlt : n + b % 128 * 2 ^ (7 * i) < 2 ^ (7 * (i + 1)) := by
          have : b % 128 ≤ 127 := by omega
          have := Nat.mul_le_mul_right (2 ^ (7 * i)) this
          rw [show 7 * (i + 1) = 7 * i + 7 by omega, Nat.pow_add]
          omega
        rw [getFrom_eq f (i + 1) _ rest (by omega) hlt]
        have hv : n + b % 128 * 2 ^ (7 * i) + val (rest.take (lead f rest + 1)) * 2 ^ (7 * (i + 1)) = n + val ((b :: rest).take (1 + lead f rest + 1)) * 2 ^ (7 * i) := by
          rw [List.take_succ_cons, show 1 + lead f rest = lead f rest + 1 by omega, val, show 7 * (i + 1) = 7 * i + 7 by omega, Nat.pow_add, Nat.add_mul]
          have : val (rest.take (lead f rest + 1)) * (2 ^ (7 * i) * 2 ^ 7) = 128 * val (rest.take (lead f rest + 1)) * 2 ^ (7 * i) := by
            rw [Nat.mul_comm (2 ^ (7 * i)), ← Nat.mul_assoc, Nat.mul_comm (val _)]
          omega
        rw [hv]
        have e1 : (lead f rest = f) = (1 + lead f rest = f + 1) := propext ⟨fun h => by omega, fun h => by omega⟩
        have e2 : (rest.length ≤ lead f rest) = ((b :: rest).length ≤ 1 + lead f rest) := by simp only [List.length_cons]; exact propext ⟨fun h => by omega, fun h => by omega⟩
        have e3 : rest.getD (lead f rest) 0 = (b :: rest).getD (1 + lead f rest) 0 := by rw [Nat.add_comm 1]; simp
        rw [e3, show i + 1 + lead f rest = i + (1 + lead f rest) by omega]
        simp only [e1, e2]
    · have hbm : b % 128 = b := by omega
      simp only [getFrom, lead, if_neg hb, hbm]
      have e1 : (0 = f + 1) = False := by simp
      have e2 : ((b :: rest).length ≤ 0) = False := by simp
      simp only [e1, e2, if_false, List.take_succ_cons, List.take_zero, val, hbm, Nat.mul_zero, Nat.add_zero, List.getD_cons_zero]
      by_cases hq : b < 2 ^ (64 - 7 * i)
      · have hqm : b % 2 ^ (64 - 7 * i) = b := Nat.mod_eq_of_lt hq
        have hlt : n + b * 2 ^ (7 * i) < 18446744073709551616 := by
          have := Nat.mul_le_mul_right (2 ^ (7 * i)) (show b + 1 ≤ 2 ^ (64 - 7 * i) from hq)
          rw [← h64, Nat.add_mul] at this
          omega
        simp only [hqm, Nat.not_le.2 hlt, if_false, ne_eq, not_true_eq_false, or_false]
      · have hqm : b % 2 ^ (64 - 7 * i) ≠ b := by
          intro he
          have := Nat.mod_lt b (Nat.two_pow_pos (64 - 7 * i))
          omega
        have hge : 18446744073709551616 ≤ n + b * 2 ^ (7 * i) := by
          have := Nat.mul_le_mul_right (2 ^ (7 * i)) (show 2 ^ (64 - 7 * i) ≤ b by omega)
          rw [← h64] at this
          omega
        simp only [hqm, hge, if_true, ne_eq, not_false_eq_true, or_true]

theorem lead_last : ∀ (f : Nat) (bs : List Nat), lead f bs ≠ f → ∀ (h : lead f bs < bs.length), bs.getD (lead f bs) 0 < 128
  | 0, _, h, _ => by simp [lead] at h
  | f + 1, [], h, h' => by simp [lead] at h'
  | f + 1, b :: bs, h, h' => by
    by_cases hb : 128 ≤ b
    · simp only [lead, if_pos hb] at h h' ⊢
      have := lead_last f bs (by omega) (by simp at h'; omega)
      rw [Nat.add_comm 1]; simpa using this
    · simp only [lead, if_neg hb]
      simp; omega

/-- Both ways come to the same. -/
theorem rgetSpec_eq (bs : List Nat) : rgetSpec bs = getSpec bs := by
  unfold rgetSpec getSpec
  rw [getFrom_eq 10 0 0 bs rfl (by simp)]
  simp only [Nat.mul_zero, Nat.pow_zero, Nat.mul_one, Nat.zero_add]
  by_cases h1 : lead 10 bs = 10
  · simp [h1]
  · by_cases h2 : bs.length ≤ lead 10 bs
    · simp [h1, h2]
    · have := lead_last 10 bs h1 (by omega)
      rw [Nat.mod_eq_of_lt this]

/-! ### The walk -/

abbrev rgetC : Ctx := ⟨F.cuneiformref01_Get, 72, [.tmp 4, .tmp 5, .tmp 6], none⟩

theorem lead_step {f j : Nat} {bs : List Nat} (hj : j ≤ lead f bs) : lead f bs = j + lead (f - j) (bs.drop j) := by
  induction j generalizing f bs with
  | zero => simp
  | succ j ih =>
    cases f with
    | zero => simp [lead] at hj
    | succ f =>
      cases bs with
      | nil => simp [lead] at hj
      | cons b bs =>
        simp only [lead] at hj ⊢
        by_cases hb : 128 ≤ b
        · simp only [if_pos hb] at hj ⊢
          rw [ih (f := f) (bs := bs) (by omega)]
          simp only [List.drop_succ_cons, show f + 1 - (j + 1) = f - j by omega]; omega
        · simp only [if_neg hb] at hj; omega

theorem rget_find (K : List AItem) (H : AHeap) (Q : AVal → AHeap → Prop) {l : AVal} {bs : List Nat} {at_ : Nat} (hl : Nats .u8 H l bs) (hlen : bs.length < 9223372036854775000) (hat : at_ ≤ bs.length)
    (h : ∀ r', rget r' 0 = l → rget r' 1 = .int .i64 at_ → rget r' 7 = .int .i64 ((at_ + lead 10 (bs.drop at_) : Nat) : Int) → Run Try.prog rgetC K r' H Q) :
    ∀ (m j : Nat), 10 - j = m → j ≤ lead 10 (bs.drop at_) → Rounds Try.prog rgetC cuneiformref01_Get.b0 [.inBlock 0] K [(0, l), (1, .int .i64 at_), (7, .int .i64 ((at_ + j : Nat) : Int))] H Q
  | m, j, hm, hj => by
    refine loop_V 300 cuneiformref01_Get.b0.eq_1 ?_
    have hs := lead_step hj
    have hle := lead_le 10 (bs.drop at_)
    by_cases h1 : at_ + j < bs.length
    · by_cases h2 : j < 10
      · have hd : (bs.drop at_).drop j = bs.getD (at_ + j) 0 :: bs.drop (at_ + (j + 1)) := by
          rw [List.drop_drop, List.drop_eq_getElem_cons h1]; simp [h1, Nat.add_assoc]
        rw [hd, show 10 - j = (10 - (j + 1)) + 1 by omega, lead] at hs
        by_cases h3 : 128 ≤ bs.getD (at_ + j) 0
        · rw [if_pos h3] at hs
          simp (disch := omega) only [std, goK_s2b, dgoK_s2b, isEff_s2b, isPure_s2b, goK_b2s, dgoK_b2s, isEff_b2s, isPure_b2s, evalOp_s2b, s2bR, goK_mark, dgoK_mark, isEff_mark, isPure_mark, evalOp_mark, markA_slc, markB, ↓reduceIte, Nat.reduceEqDiff, Int.reduceToNat, Int.reducePow, Nat.reduceAdd, Nat.reduceLeDiff, Nat.reduceMul, Nat.reduceBEq, reduceCtorEq, hl.len, hl.isSome, hl.load]
          exact rget_find K H Q hl hlen hat h (10 - (j + 1)) (j + 1) rfl (by omega)
        · rw [if_neg h3] at hs
          simp (disch := omega) only [std, goK_s2b, dgoK_s2b, isEff_s2b, isPure_s2b, goK_b2s, dgoK_b2s, isEff_b2s, isPure_b2s, evalOp_s2b, s2bR, goK_mark, dgoK_mark, isEff_mark, isPure_mark, evalOp_mark, markA_slc, markB, ↓reduceIte, Nat.reduceEqDiff, Int.reduceToNat, Int.reducePow, Nat.reduceAdd, Nat.reduceLeDiff, Nat.reduceMul, Nat.reduceBEq, reduceCtorEq, hl.len, hl.isSome, hl.load]
          refine h _ ?_ ?_ ?_ <;> simp (disch := omega) only [std, goK_s2b, dgoK_s2b, isEff_s2b, isPure_s2b, goK_b2s, dgoK_b2s, isEff_b2s, isPure_b2s, evalOp_s2b, s2bR, goK_mark, dgoK_mark, isEff_mark, isPure_mark, evalOp_mark, markA_slc, markB, ↓reduceIte, Nat.reduceEqDiff, Int.reduceToNat, Int.reducePow, Nat.reduceAdd, Nat.reduceLeDiff, Nat.reduceMul, Nat.reduceBEq, reduceCtorEq]
          rw [hs]; rfl
      · have : j = 10 := by omega
        subst this
        simp (disch := omega) only [std, goK_s2b, dgoK_s2b, isEff_s2b, isPure_s2b, goK_b2s, dgoK_b2s, isEff_b2s, isPure_b2s, evalOp_s2b, s2bR, goK_mark, dgoK_mark, isEff_mark, isPure_mark, evalOp_mark, markA_slc, markB, ↓reduceIte, Nat.reduceEqDiff, Int.reduceToNat, Int.reducePow, Nat.reduceAdd, Nat.reduceLeDiff, Nat.reduceMul, Nat.reduceBEq, reduceCtorEq, hl.len, hl.isSome, hl.load]
        refine h _ ?_ ?_ ?_ <;> simp (disch := omega) only [std, goK_s2b, dgoK_s2b, isEff_s2b, isPure_s2b, goK_b2s, dgoK_b2s, isEff_b2s, isPure_b2s, evalOp_s2b, s2bR, goK_mark, dgoK_mark, isEff_mark, isPure_mark, evalOp_mark, markA_slc, markB, ↓reduceIte, Nat.reduceEqDiff, Int.reduceToNat, Int.reducePow, Nat.reduceAdd, Nat.reduceLeDiff, Nat.reduceMul, Nat.reduceBEq, reduceCtorEq]
        rw [show lead 10 (bs.drop at_) = 10 by omega]
    · have hd : (bs.drop at_).drop j = [] := by rw [List.drop_drop]; exact List.drop_eq_nil_of_le (by omega)
      rw [hd] at hs
      have : lead (10 - j) [] = 0 := by cases 10 - j <;> rfl
      rw [this] at hs
      simp (disch := omega) only [std, goK_s2b, dgoK_s2b, isEff_s2b, isPure_s2b, goK_b2s, dgoK_b2s, isEff_b2s, isPure_b2s, evalOp_s2b, s2bR, goK_mark, dgoK_mark, isEff_mark, isPure_mark, evalOp_mark, markA_slc, markB, ↓reduceIte, Nat.reduceEqDiff, Int.reduceToNat, Int.reducePow, Nat.reduceAdd, Nat.reduceLeDiff, Nat.reduceMul, Nat.reduceBEq, reduceCtorEq, hl.len, hl.isSome, hl.load]
      refine h _ ?_ ?_ ?_ <;> simp (disch := omega) only [std, goK_s2b, dgoK_s2b, isEff_s2b, isPure_s2b, goK_b2s, dgoK_b2s, isEff_b2s, isPure_b2s, evalOp_s2b, s2bR, goK_mark, dgoK_mark, isEff_mark, isPure_mark, evalOp_mark, markA_slc, markB, ↓reduceIte, Nat.reduceEqDiff, Int.reduceToNat, Int.reducePow, Nat.reduceAdd, Nat.reduceLeDiff, Nat.reduceMul, Nat.reduceBEq, reduceCtorEq]
      rw [hs]; rfl
  termination_by m => m

theorem val_drop (d : List Nat) (j : Nat) (hj : j < d.length) : val (d.drop j) = d.getD j 0 % 128 + 128 * val (d.drop (j + 1)) := by
  rw [List.drop_eq_getElem_cons hj, val]; simp [hj]

theorem val_ge (d : List Nat) : ∀ j, val (d.drop j) ≤ val d
  | 0 => by simp
  | j + 1 => by
    have := val_ge d j
    by_cases hj : j < d.length
    · rw [val_drop d j hj] at this; omega
    · rw [List.drop_eq_nil_of_le (by omega)]; simp [val]

/-- From the last byte back to the first. -/
theorem rget_back (K : List AItem) (H : AHeap) (Q : AVal → AHeap → Prop) {l : AVal} {bs : List Nat} {at_ e : Nat} (hl : Nats .u8 H l bs) (hb : ∀ b ∈ bs, b < 256) (hlen : bs.length < 9223372036854775000) (hat : at_ + e < bs.length)
    (h : ∀ r', val ((bs.drop at_).take (e + 1)) < 18446744073709551616 → rget r' 0 = l → rget r' 1 = .int .i64 at_ → rget r' 7 = .int .i64 ((at_ + e : Nat) : Int) → rget r' 8 = .int .u64 (val ((bs.drop at_).take (e + 1))) → Run Try.prog rgetC K r' H Q)
    (hQ : 18446744073709551616 ≤ val ((bs.drop at_).take (e + 1)) → Q (.tup [.int .u64 0, .int .i64 at_, .int .i64 3]) H) :
    ∀ (j : Nat), j ≤ e + 1 → val (((bs.drop at_).take (e + 1)).drop j) < 18446744073709551616 →
    Rounds Try.prog rgetC cuneiformref01_Get.b1 [.inBlock 2] K [(0, l), (1, .int .i64 at_), (7, .int .i64 ((at_ + e : Nat) : Int)), (8, .int .u64 (val (((bs.drop at_).take (e + 1)).drop j))), (9, .int .i64 ((at_ : Int) + (j : Int) - 1))] H Q
  | 0, hj, hv => by
    refine loop_V 300 cuneiformref01_Get.b1.eq_1 ?_
    rw [List.drop_zero] at hv
    simp (disch := omega) only [std, goK_s2b, dgoK_s2b, isEff_s2b, isPure_s2b, goK_b2s, dgoK_b2s, isEff_b2s, isPure_b2s, evalOp_s2b, s2bR, goK_mark, dgoK_mark, isEff_mark, isPure_mark, evalOp_mark, markA_slc, markB, ↓reduceIte, Nat.reduceEqDiff, Int.reduceToNat, Int.reducePow, Nat.reduceAdd, Nat.reduceLeDiff, Nat.reduceMul, Nat.reduceBEq, reduceCtorEq]
    refine h _ hv ?_ ?_ ?_ ?_ <;> simp (disch := omega) only [std, goK_s2b, dgoK_s2b, isEff_s2b, isPure_s2b, goK_b2s, dgoK_b2s, isEff_b2s, isPure_b2s, evalOp_s2b, s2bR, goK_mark, dgoK_mark, isEff_mark, isPure_mark, evalOp_mark, markA_slc, markB, ↓reduceIte, Nat.reduceEqDiff, Int.reduceToNat, Int.reducePow, Nat.reduceAdd, Nat.reduceLeDiff, Nat.reduceMul, Nat.reduceBEq, reduceCtorEq, List.drop_zero]
  | j + 1, hj, hv => by
    refine loop_V 300 cuneiformref01_Get.b1.eq_1 ?_
    have hdl : ((bs.drop at_).take (e + 1)).length = e + 1 := by simp; omega
    have hvd := val_drop ((bs.drop at_).take (e + 1)) j (by omega)
    have hge := val_ge ((bs.drop at_).take (e + 1)) j
    have hgd : ((bs.drop at_).take (e + 1)).getD j 0 = bs.getD (at_ + j) 0 := by
      simp [List.getD_eq_getElem?_getD, List.getElem?_take, List.getElem?_drop, show j < e + 1 by omega]
    have hbi : bs.getD (at_ + j) 0 < 256 := by
      rw [List.getD_eq_getElem?_getD, List.getElem?_eq_getElem (by omega)]; exact hb _ (List.getElem_mem _)
    rw [hgd] at hvd
    generalize hw : val (((bs.drop at_).take (e + 1)).drop (j + 1)) = w at *
    have ht : ((at_ : Int) + ((j + 1 : Nat) : Int) - 1).toNat = at_ + j := by omega
    have e9 : (at_ : Int) + ((j + 1 : Nat) : Int) - 1 - 1 = (at_ : Int) + (j : Int) - 1 := by omega
    by_cases hbig : 144115188075855871 < w
    · simp (disch := omega) only [std, goK_s2b, dgoK_s2b, isEff_s2b, isPure_s2b, goK_b2s, dgoK_b2s, isEff_b2s, isPure_b2s, evalOp_s2b, s2bR, goK_mark, dgoK_mark, isEff_mark, isPure_mark, evalOp_mark, markA_slc, markB, ↓reduceIte, Nat.reduceEqDiff, Int.reduceToNat, Int.reducePow, Nat.reduceAdd, Nat.reduceLeDiff, Nat.reduceMul, Nat.reduceBEq, reduceCtorEq]
      exact hQ (by omega)
    · have et : ((bs.getD (at_ + j) 0 : Nat) : Int).tmod 128 = ((bs.getD (at_ + j) 0 % 128 : Nat) : Int) := by rw [Int.tmod_eq_emod_of_nonneg (by omega)]; omega
      have e8 : (w : Int) * 128 + ((bs.getD (at_ + j) 0 % 128 : Nat) : Int) = ((val (((bs.drop at_).take (e + 1)).drop j) : Nat) : Int) := by omega
      simp (disch := omega) only [std, goK_s2b, dgoK_s2b, isEff_s2b, isPure_s2b, goK_b2s, dgoK_b2s, isEff_b2s, isPure_b2s, evalOp_s2b, s2bR, goK_mark, dgoK_mark, isEff_mark, isPure_mark, evalOp_mark, markA_slc, markB, ↓reduceIte, Nat.reduceEqDiff, Int.reduceToNat, Int.reducePow, Nat.reduceAdd, Nat.reduceLeDiff, Nat.reduceMul, Nat.reduceBEq, reduceCtorEq, hl.len, hl.isSome, hl.load, ht, et, e8, e9, ne_eq, not_false_eq_true, Int.reduceEq]
      exact rget_back K H Q hl hb hlen hat h hQ j (by omega) (by omega)

theorem rget_from {K : List AItem} (H : AHeap) (Q : AVal → AHeap → Prop) {l : AVal} {bs : List Nat} {at_ e : Nat} (hl : Nats .u8 H l bs) (hb : ∀ b ∈ bs, b < 256) (hlen : bs.length < 9223372036854775000) (hat : at_ + e < bs.length) {v8 v9 : Int} (j : Nat) (hj : j ≤ e + 1)
    (hv : val (((bs.drop at_).take (e + 1)).drop j) < 18446744073709551616) (h8 : v8 = val (((bs.drop at_).take (e + 1)).drop j)) (h9 : v9 = (at_ : Int) + (j : Int) - 1)
    (h : ∀ r', val ((bs.drop at_).take (e + 1)) < 18446744073709551616 → rget r' 0 = l → rget r' 1 = .int .i64 at_ → rget r' 7 = .int .i64 ((at_ + e : Nat) : Int) → rget r' 8 = .int .u64 (val ((bs.drop at_).take (e + 1))) → Run Try.prog rgetC K r' H Q)
    (hQ : 18446744073709551616 ≤ val ((bs.drop at_).take (e + 1)) → Q (.tup [.int .u64 0, .int .i64 at_, .int .i64 3]) H) :
    Rounds Try.prog rgetC cuneiformref01_Get.b1 [.inBlock 2] K [(0, l), (1, .int .i64 at_), (7, .int .i64 ((at_ + e : Nat) : Int)), (8, .int .u64 v8), (9, .int .i64 v9)] H Q := by
  rw [h8, h9]; exact rget_back K H Q hl hb hlen hat h hQ j hj hv

/-- The document's number at a place, and where it ends. -/
theorem rget_ok (H : AHeap) {l : AVal} {bs : List Nat} {at_ : Nat} (hl : Nats .u8 H l bs) (hb : ∀ b ∈ bs, b < 256) (hlen : bs.length < 9223372036854775000) (hat : at_ ≤ bs.length) (Q : AVal → AHeap → Prop)
    (h : Q (.tup [.int .u64 (getSpec (bs.drop at_)).1, .int .i64 ((at_ + (getSpec (bs.drop at_)).2.1 : Nat) : Int), .int .i64 (getSpec (bs.drop at_)).2.2]) H) : FunOK Try.prog F.cuneiformref01_Get [l, .int .i64 at_] H Q := by
  refine fun_V 100 cuneiformref01_Get_code rfl ?_
  simp (disch := omega) only [std, goK_s2b, dgoK_s2b, isEff_s2b, isPure_s2b, goK_b2s, dgoK_b2s, isEff_b2s, isPure_b2s, evalOp_s2b, s2bR, goK_mark, dgoK_mark, isEff_mark, isPure_mark, evalOp_mark, markA_slc, markB, ↓reduceIte, Nat.reduceEqDiff, Int.reduceToNat, Int.reducePow, Nat.reduceAdd, Nat.reduceLeDiff, Nat.reduceMul, Nat.reduceBEq, reduceCtorEq, cuneiformref01_Get, cuneiformref01_Get.body]
  have hle := lead_le 10 (bs.drop at_)
  rw [← rgetSpec_eq] at h
  unfold rgetSpec at h
  refine rget_find _ H Q hl hlen hat ?_ _ 0 rfl (by omega)
  intro r' e0 e1 e7
  refine run_V 100 ?_
  generalize hE : lead 10 (bs.drop at_) = E at *
  by_cases h10 : E = 10
  · subst h10
    simp (disch := omega) only [std, goK_s2b, dgoK_s2b, isEff_s2b, isPure_s2b, goK_b2s, dgoK_b2s, isEff_b2s, isPure_b2s, evalOp_s2b, s2bR, goK_mark, dgoK_mark, isEff_mark, isPure_mark, evalOp_mark, markA_slc, markB, ↓reduceIte, Nat.reduceEqDiff, Int.reduceToNat, Int.reducePow, Nat.reduceAdd, Nat.reduceLeDiff, Nat.reduceMul, Nat.reduceBEq, reduceCtorEq, e0, e1, e7, hl.len]
    simpa using h
  · rw [if_neg h10] at h
    by_cases hend : bs.length ≤ at_ + E
    · rw [if_pos (by simp; omega)] at h
      simp (disch := omega) only [std, goK_s2b, dgoK_s2b, isEff_s2b, isPure_s2b, goK_b2s, dgoK_b2s, isEff_b2s, isPure_b2s, evalOp_s2b, s2bR, goK_mark, dgoK_mark, isEff_mark, isPure_mark, evalOp_mark, markA_slc, markB, ↓reduceIte, Nat.reduceEqDiff, Int.reduceToNat, Int.reducePow, Nat.reduceAdd, Nat.reduceLeDiff, Nat.reduceMul, Nat.reduceBEq, reduceCtorEq, e0, e1, e7, hl.len]
      simpa using h
    · rw [if_neg (by simp; omega)] at h
      simp (disch := omega) only [std, goK_s2b, dgoK_s2b, isEff_s2b, isPure_s2b, goK_b2s, dgoK_b2s, isEff_b2s, isPure_b2s, evalOp_s2b, s2bR, goK_mark, dgoK_mark, isEff_mark, isPure_mark, evalOp_mark, markA_slc, markB, ↓reduceIte, Nat.reduceEqDiff, Int.reduceToNat, Int.reducePow, Nat.reduceAdd, Nat.reduceLeDiff, Nat.reduceMul, Nat.reduceBEq, reduceCtorEq, e0, e1, e7, hl.len]
      have hd0 : ((bs.drop at_).take (E + 1)).drop (E + 1) = [] := List.drop_eq_nil_of_le (by simp; omega)
      refine rget_from H Q (at_ := at_) (e := E) hl hb hlen (by omega) (v8 := 0) (v9 := ((at_ + E : Nat) : Int)) (E + 1) (by omega) (by rw [hd0]; simp [val]) (by rw [hd0]; rfl) (by omega) ?_ ?_
      · intro r'' hv f0 f1 f7 f8
        rw [if_neg (by omega)] at h
        refine run_V 100 ?_
        have hgd : (bs.drop at_).getD E 0 = bs.getD (at_ + E) 0 := by simp [List.getD_eq_getElem?_getD, List.getElem?_drop]
        rw [hgd] at h
        by_cases hE0 : 0 < E
        · by_cases hz : bs.getD (at_ + E) 0 = 0
          · rw [if_pos ⟨hE0, hz⟩] at h
            have hz' : ((bs.getD (at_ + E) 0 : Nat) : Int) = 0 := by omega
            simp (disch := omega) only [std, goK_s2b, dgoK_s2b, isEff_s2b, isPure_s2b, goK_b2s, dgoK_b2s, isEff_b2s, isPure_b2s, evalOp_s2b, s2bR, goK_mark, dgoK_mark, isEff_mark, isPure_mark, evalOp_mark, markA_slc, markB, ↓reduceIte, Nat.reduceEqDiff, Int.reduceToNat, Int.reducePow, Nat.reduceAdd, Nat.reduceLeDiff, Nat.reduceMul, Nat.reduceBEq, reduceCtorEq, f0, f1, f7, f8, hl.len, hl.isSome, hl.load, hz']
            simpa using h
          · rw [if_neg (by omega)] at h
            have hz' : ((bs.getD (at_ + E) 0 : Nat) : Int) ≠ 0 := by omega
            simp (disch := omega) only [std, goK_s2b, dgoK_s2b, isEff_s2b, isPure_s2b, goK_b2s, dgoK_b2s, isEff_b2s, isPure_b2s, evalOp_s2b, s2bR, goK_mark, dgoK_mark, isEff_mark, isPure_mark, evalOp_mark, markA_slc, markB, ↓reduceIte, Nat.reduceEqDiff, Int.reduceToNat, Int.reducePow, Nat.reduceAdd, Nat.reduceLeDiff, Nat.reduceMul, Nat.reduceBEq, reduceCtorEq, f0, f1, f7, f8, hl.len, hl.isSome, hl.load, hz']
            simpa [Int.add_assoc] using h
        · rw [if_neg (by omega)] at h
          simp (disch := omega) only [std, goK_s2b, dgoK_s2b, isEff_s2b, isPure_s2b, goK_b2s, dgoK_b2s, isEff_b2s, isPure_b2s, evalOp_s2b, s2bR, goK_mark, dgoK_mark, isEff_mark, isPure_mark, evalOp_mark, markA_slc, markB, ↓reduceIte, Nat.reduceEqDiff, Int.reduceToNat, Int.reducePow, Nat.reduceAdd, Nat.reduceLeDiff, Nat.reduceMul, Nat.reduceBEq, reduceCtorEq, f0, f1, f7, f8, hl.len, hl.isSome, hl.load]
          simpa [Int.add_assoc] using h
      · intro hv
        rw [if_pos hv] at h
        simpa using h
end Go.Proofs.Ytebhlclfiiffbaa

namespace Go.Proofs.Ytebhlclfiiffbaa
open Go Go.Am
set_option linter.unusedSimpArgs false
set_option linter.unusedVariables false

/-- A lens of the document's. -/
def mL (ys : List Nat) (a e : Nat) : List AVal := [nums .u8 false ys, .int .i64 (a : Nat), .int .i64 (e : Nat)]

theorem mL_closed {L : Nat} (ys : List Nat) (a e : Nat) : closeds L (mL ys a e) := ⟨closed_nums _ _ _, trivial, trivial, trivial⟩

theorem rfail_ok (H : AHeap) {ys : List Nat} {a e x : Nat} (Q : AVal → AHeap → Prop) (h : Q (.agg (mL ys a x)) H) : FunOK Try.prog F.cuneiformref03_fail [.agg (mL ys a e), .int .i64 (x : Nat)] H Q := by
  refine fun_iced cuneiformref03_fail_code fun _ => ?_
  refine fun_V 60 cuneiformref03_fail_code rfl ?_
  simp (disch := first | omega | (simp only [List.length_append, List.length_cons, List.length_nil, List.length_set, List.length_map, List.length_take, List.length_drop]; omega)) only [stdh, goK_s2b, dgoK_s2b, isEff_s2b, isPure_s2b, goK_b2s, dgoK_b2s, isEff_b2s, isPure_b2s, evalOp_s2b, s2bR, goK_mark, dgoK_mark, isEff_mark, isPure_mark, evalOp_mark, markA_slc, markB, ↓reduceIte, Nat.reduceEqDiff, Int.reduceToNat, Int.reducePow, Nat.reduceAdd, Nat.reduceLeDiff, Nat.reduceMul, Nat.reduceBEq, reduceCtorEq, cuneiformref03_fail, cuneiformref03_fail.body, mL]
  exact ice_none (mL_closed _ _ _) h

/-! ### Words -/

theorem leval_take {xs : List Nat} {j : Nat} (h : j < xs.length) : leval (xs.take (j + 1)) = leval (xs.take j) + 256 ^ j * xs.getD j 0 := by
  induction xs generalizing j with
  | nil => simp at h
  | cons c r ih =>
    cases j with
    | zero => simp [leval]
    | succ j =>
      have := ih (j := j) (by simpa using h)
      rw [List.take_succ_cons, leval, this, List.take_succ_cons, leval, Nat.pow_succ]
      simp only [List.getD_cons_succ]
      rw [Nat.mul_add, Nat.add_assoc]
      congr 2
      rw [← Nat.mul_assoc, Nat.mul_comm 256]

abbrev rwC : Ctx := ⟨F.cuneiformref03_Word, 50, [.cell 4 (some 3), .tmp 5], none⟩

theorem rword_loop (K : List AItem) (H : AHeap) (Q : AVal → AHeap → Prop) {ys : List Nat} {a s : Nat} (hb : ∀ b ∈ ys, b < 256) (hlen : ys.length ≤ 1000000) (hs : s ≤ 4) (ha : a + s ≤ ys.length)
    (hK : ∀ r', rget r' 1 = .int .i64 (s : Nat) → rget r' 2 = .ptr H.length 0 → rget r' 4 = .ptr (H.length + 1) 0 → rget r' 6 = .int .u32 (leval ((ys.drop a).take s) : Nat) → Run Try.prog rwC K r' (H ++ [.cells (mL ys a 0) T.cuneiformref03_L, .cells [.nils, .int .i64 0, .int .i64 0] T.cuneiformref03_L]) Q) :
    ∀ (m i : Nat), s - i = m → i ≤ s →
    Rounds Try.prog rwC cuneiformref03_Word.b0 [.inBlock 0] K [(1, .int .i64 (s : Nat)), (2, .ptr H.length 0), (4, .ptr (H.length + 1) 0), (6, .int .u32 (leval ((ys.drop a).take i) : Nat)), (7, .int .u32 ((256 ^ i % 4294967296 : Nat) : Int)), (8, .int .i64 (i : Nat))] (H ++ [.cells (mL ys a 0) T.cuneiformref03_L, .cells [.nils, .int .i64 0, .int .i64 0] T.cuneiformref03_L]) Q
  | m, i, h1, h2 => by
    refine loop_V 100 cuneiformref03_Word.b0.eq_1 ?_
    by_cases hi : i < s
    · have hg : (ys.drop a).getD i 0 = ys.getD (a + i) 0 := by simp [List.getD_eq_getElem?_getD, List.getElem?_drop]
      have ht := leval_take (xs := ys.drop a) (j := i) (by rw [List.length_drop]; omega)
      have hlt := leval_lt ((ys.drop a).take (i + 1)) fun b hb' => hb b (List.mem_of_mem_drop (List.mem_of_mem_take hb'))
      have hll : ((ys.drop a).take (i + 1)).length = i + 1 := by rw [List.length_take, List.length_drop]; omega
      rw [hll] at hlt
      rw [hg] at ht
      have hcb : ys.getD (a + i) 0 < 256 := by
        rw [List.getD_eq_getElem?_getD]; simp [show a + i < ys.length by omega]; exact hb _ (List.getElem_mem _)
      have hp : 256 ^ i < 4294967296 := by
        have : 256 ^ i ≤ 256 ^ 3 := Nat.pow_le_pow_right (by omega) (by omega)
        omega
      have hp4 : 256 ^ (i + 1) ≤ 4294967296 := by
        have : 256 ^ (i + 1) ≤ 256 ^ 4 := Nat.pow_le_pow_right (by omega) (by omega)
        omega
      have eai : (a : Int) + (i : Int) = ((a + i : Nat) : Int) := by omega
      have hld : ∀ H, loadA H none (.sptr (nums .u8 false ys) (a + i)) = some (True, .int .u8 ((ys.getD (a + i) 0 : Nat) : Int)) := fun H => load_nums (by omega)
      have hps : 256 ^ (i + 1) = 256 ^ i * 256 := Nat.pow_succ ..
      rw [Nat.mod_eq_of_lt hp]
      have hrec := rword_loop K H Q hb hlen hs ha hK (s - (i + 1)) (i + 1) rfl (by omega)
      generalize leval ((ys.drop a).take (i + 1)) = n' at *
      generalize leval ((ys.drop a).take i) = n at *
      generalize ys.getD (a + i) 0 = c at *
      generalize 256 ^ (i + 1) = p1 at *
      generalize 256 ^ i = p0 at *
      have e1 : IntKind.u32.wrap (((p0 : Nat) : Int) * (c : Nat)) = ((p0 * c : Nat) : Int) := by
        rw [show ((p0 : Nat) : Int) * (c : Nat) = ((p0 * c : Nat) : Int) by simp]
        exact wrap_u32 (by omega)
      have e2 : IntKind.u32.wrap ((n : Int) + ((p0 * c : Nat) : Int)) = ((n' : Nat) : Int) := by
        rw [ht, wrap_u32 (by omega)]; omega
      have e3 : IntKind.u32.wrap (((p0 : Nat) : Int) * 256) = ((p1 % 4294967296 : Nat) : Int) := by
        rw [wrap_u32', hps]; omega
      rw [show ((i + 1 : Nat) : Int) = (i : Int) + 1 by omega] at hrec
      simp (disch := first | omega | (simp only [List.length_append, List.length_cons, List.length_nil, List.length_set, List.length_map, List.length_take, List.length_drop]; omega)) only [stdh, goK_s2b, dgoK_s2b, isEff_s2b, isPure_s2b, goK_b2s, dgoK_b2s, isEff_b2s, isPure_b2s, evalOp_s2b, s2bR, goK_mark, dgoK_mark, isEff_mark, isPure_mark, evalOp_mark, markA_slc, markB, ↓reduceIte, Nat.reduceEqDiff, Int.reduceToNat, Int.reducePow, Nat.reduceAdd, Nat.reduceLeDiff, Nat.reduceMul, Nat.reduceBEq, reduceCtorEq, mL, eai, hld, e1, e2, e3]
      simpa only [mL] using hrec
    · have : i = s := by omega
      subst this
      simp (disch := first | omega | (simp only [List.length_append, List.length_cons, List.length_nil, List.length_set, List.length_map, List.length_take, List.length_drop]; omega)) only [stdh, goK_s2b, dgoK_s2b, isEff_s2b, isPure_s2b, goK_b2s, dgoK_b2s, isEff_b2s, isPure_b2s, evalOp_s2b, s2bR, goK_mark, dgoK_mark, isEff_mark, isPure_mark, evalOp_mark, markA_slc, markB, ↓reduceIte, Nat.reduceEqDiff, Int.reduceToNat, Int.reducePow, Nat.reduceAdd, Nat.reduceLeDiff, Nat.reduceMul, Nat.reduceBEq, reduceCtorEq]
      exact hK _ rfl rfl rfl rfl
  termination_by m => m

theorem rword_ok (H : AHeap) {ys : List Nat} {a e s : Nat} (hb : ∀ b ∈ ys, b < 256) (hlen : ys.length ≤ 1000000) (hs : s ≤ 4) (ha : a ≤ ys.length) (he : e < 1000) (Q : AVal → AHeap → Prop)
    (h : Q (.tup [.agg (mL ys (lensR 0 ys a e (wordSpec s)).2.1 (lensR 0 ys a e (wordSpec s)).2.2), .int .u32 ((lensR 0 ys a e (wordSpec s)).1 : Nat)]) H) : FunOK Try.prog F.cuneiformref03_Word [.agg (mL ys a e), .int .i64 (s : Nat)] H Q := by
  refine fun_iced cuneiformref03_Word_code fun _ => ?_
  refine fun_V 100 cuneiformref03_Word_code rfl ?_
  by_cases h0 : e = 0
  · subst h0
    have hl0 : ((ys.length : Nat) : Int) - (a : Nat) = ((ys.length - a : Nat) : Int) := by omega
    by_cases hz : ys.length - a < s
    · rw [lensR_bad (sp := wordSpec s) (k := 0) (v := 0) (x := 4) (by unfold wordSpec; rw [List.length_drop, if_pos hz]) (by decide)] at h
      simp (disch := first | omega | (simp only [List.length_append, List.length_cons, List.length_nil, List.length_set, List.length_map, List.length_take, List.length_drop]; omega)) only [stdh, goK_s2b, dgoK_s2b, isEff_s2b, isPure_s2b, goK_b2s, dgoK_b2s, isEff_b2s, isPure_b2s, evalOp_s2b, s2bR, goK_mark, dgoK_mark, isEff_mark, isPure_mark, evalOp_mark, markA_slc, markB, ↓reduceIte, Nat.reduceEqDiff, Int.reduceToNat, Int.reducePow, Nat.reduceAdd, Nat.reduceLeDiff, Nat.reduceMul, Nat.reduceBEq, reduceCtorEq, cuneiformref03_Word, cuneiformref03_Word.body, mL, hl0]
      refine callK_fn (rfail_ok (x := 4) _ _ ?_)
      refine runL_V 60 ?_
      simp (disch := first | omega | (simp only [List.length_append, List.length_cons, List.length_nil, List.length_set, List.length_map, List.length_take, List.length_drop]; omega)) only [stdh, goK_s2b, dgoK_s2b, isEff_s2b, isPure_s2b, goK_b2s, dgoK_b2s, isEff_b2s, isPure_b2s, evalOp_s2b, s2bR, goK_mark, dgoK_mark, isEff_mark, isPure_mark, evalOp_mark, markA_slc, markB, ↓reduceIte, Nat.reduceEqDiff, Int.reduceToNat, Int.reducePow, Nat.reduceAdd, Nat.reduceLeDiff, Nat.reduceMul, Nat.reduceBEq, reduceCtorEq, mL]
      exact ice_none ⟨mL_closed _ _ _, trivial, trivial⟩ h
    · rw [lensR_ok (sp := wordSpec s) (k := s) (v := leval ((ys.drop a).take s)) (by unfold wordSpec; rw [List.length_drop, if_neg hz])] at h
      simp (disch := first | omega | (simp only [List.length_append, List.length_cons, List.length_nil, List.length_set, List.length_map, List.length_take, List.length_drop]; omega)) only [stdh, goK_s2b, dgoK_s2b, isEff_s2b, isPure_s2b, goK_b2s, dgoK_b2s, isEff_b2s, isPure_b2s, evalOp_s2b, s2bR, goK_mark, dgoK_mark, isEff_mark, isPure_mark, evalOp_mark, markA_slc, markB, ↓reduceIte, Nat.reduceEqDiff, Int.reduceToNat, Int.reducePow, Nat.reduceAdd, Nat.reduceLeDiff, Nat.reduceMul, Nat.reduceBEq, reduceCtorEq, cuneiformref03_Word, cuneiformref03_Word.body, mL, hl0]
      have hl := rword_loop (K := [AItem.code
        ((ACode.region
              [{ dst := some 43, op := AOp.field 1 (AOpd.tmp 2), guard := none },
                { dst := some 44, op := AOp.load none (AOpd.tmp 43), guard := none },
                { dst := some 45, op := AOp.mov (AOpd.tmp 1), guard := none },
                { dst := some 46, op := AOp.bin BinOp.add (AOpd.tmp 44) (AOpd.tmp 45), guard := none },
                { dst := some 47, op := AOp.field 1 (AOpd.tmp 2), guard := none },
                { dst := none, op := AOp.store 1 (AOpd.tmp 47) (AOpd.tmp 46), guard := none }]
              [2, 4, 6]).seq
          ((ACode.region
                [{ dst := some 48, op := AOp.load (some 3) (AOpd.tmp 2), guard := none },
                  { dst := some 49, op := AOp.mov (AOpd.tmp 6), guard := none },
                  { dst := none, op := AOp.store 3 (AOpd.tmp 4) (AOpd.tmp 48), guard := none },
                  { dst := some 5, op := AOp.mov (AOpd.tmp 49), guard := none }]
                [4, 5]).seq
            ACode.ret))]) H (IceQ H Q) hb hlen hs (show a + s ≤ ys.length by omega) ?_ s 0 (by omega) (by omega)
      · exact hl
      · intro r' g1 g2 g4 g6
        refine run_V0 60 ?_
        simp (disch := first | omega | (simp only [List.length_append, List.length_cons, List.length_nil, List.length_set, List.length_map, List.length_take, List.length_drop]; omega)) only [stdh, goK_s2b, dgoK_s2b, isEff_s2b, isPure_s2b, goK_b2s, dgoK_b2s, isEff_b2s, isPure_b2s, evalOp_s2b, s2bR, goK_mark, dgoK_mark, isEff_mark, isPure_mark, evalOp_mark, markA_slc, markB, ↓reduceIte, Nat.reduceEqDiff, Int.reduceToNat, Int.reducePow, Nat.reduceAdd, Nat.reduceLeDiff, Nat.reduceMul, Nat.reduceBEq, reduceCtorEq, g1, g2, g4, g6, mL]
        exact ice_none ⟨mL_closed _ _ _, trivial, trivial⟩ h
  · rw [lensR_err h0] at h
    have h0' : ¬ ((e : Nat) : Int) = 0 := by omega
    simp (disch := first | omega | (simp only [List.length_append, List.length_cons, List.length_nil, List.length_set, List.length_map, List.length_take, List.length_drop]; omega)) only [stdh, goK_s2b, dgoK_s2b, isEff_s2b, isPure_s2b, goK_b2s, dgoK_b2s, isEff_b2s, isPure_b2s, evalOp_s2b, s2bR, goK_mark, dgoK_mark, isEff_mark, isPure_mark, evalOp_mark, markA_slc, markB, ↓reduceIte, Nat.reduceEqDiff, Int.reduceToNat, Int.reducePow, Nat.reduceAdd, Nat.reduceLeDiff, Nat.reduceMul, Nat.reduceBEq, reduceCtorEq, cuneiformref03_Word, cuneiformref03_Word.body, mL, h0']
    exact ice_none ⟨mL_closed _ _ _, trivial, trivial⟩ h
end Go.Proofs.Ytebhlclfiiffbaa

namespace Go.Proofs.Ytebhlclfiiffbaa
open Go Go.Am
set_option linter.unusedSimpArgs false
set_option linter.unusedVariables false

theorem rnum_ok (H : AHeap) {ys : List Nat} {a e most : Nat} (hb : ∀ b ∈ ys, b < 256) (hlen : ys.length ≤ 1000000) (ha : a ≤ ys.length) (he : e < 1000) (Q : AVal → AHeap → Prop)
    (h : Q (.tup [.agg (mL ys (lensR 0 ys a e (numSpec most)).2.1 (lensR 0 ys a e (numSpec most)).2.2), .int .u64 ((lensR 0 ys a e (numSpec most)).1 : Nat)]) H) : FunOK Try.prog F.cuneiformref03_Number [.agg (mL ys a e), .int .u64 (most : Nat)] H Q := by
  refine fun_iced cuneiformref03_Number_code fun _ => ?_
  refine fun_V 100 cuneiformref03_Number_code rfl ?_
  by_cases h0 : e = 0
  · subst h0
    simp (disch := first | omega | (simp only [List.length_append, List.length_cons, List.length_nil, List.length_set, List.length_map, List.length_take, List.length_drop]; omega)) only [stdh, goK_s2b, dgoK_s2b, isEff_s2b, isPure_s2b, goK_b2s, dgoK_b2s, isEff_b2s, isPure_b2s, evalOp_s2b, s2bR, goK_mark, dgoK_mark, isEff_mark, isPure_mark, evalOp_mark, markA_slc, markB, ↓reduceIte, Nat.reduceEqDiff, Int.reduceToNat, Int.reducePow, Nat.reduceAdd, Nat.reduceLeDiff, Nat.reduceMul, Nat.reduceBEq, reduceCtorEq, cuneiformref03_Number, cuneiformref03_Number.body, mL]
    refine callK_fn (rget_ok _ (nums_nats _ _ _ _) hb (by omega) ha _ ?_)
    refine runL_V 100 ?_
    have hf := getSpec_facts (bs := ys.drop a)
    have hz := getSpec_zero (bs := ys.drop a)
    by_cases c0 : (getSpec (ys.drop a)).2.2 = 0
    · obtain ⟨f1, f2, f3⟩ := hf c0
      by_cases c1 : most < (getSpec (ys.drop a)).1
      · rw [lensR_bad2 (sp := numSpec most) (x := 5) (by unfold numSpec; rw [if_neg (by omega), if_pos c1]) (by decide)] at h
        generalize getSpec (ys.drop a) = G at *
        obtain ⟨num, k, x⟩ := G
        dsimp only at c0 c1 f1 f2 f3
        subst c0
        simp (disch := first | omega | (simp only [List.length_append, List.length_cons, List.length_nil, List.length_set, List.length_map, List.length_take, List.length_drop]; omega)) only [stdh, goK_s2b, dgoK_s2b, isEff_s2b, isPure_s2b, goK_b2s, dgoK_b2s, isEff_b2s, isPure_b2s, evalOp_s2b, s2bR, goK_mark, dgoK_mark, isEff_mark, isPure_mark, evalOp_mark, markA_slc, markB, ↓reduceIte, Nat.reduceEqDiff, Int.reduceToNat, Int.reducePow, Nat.reduceAdd, Nat.reduceLeDiff, Nat.reduceMul, Nat.reduceBEq, reduceCtorEq]
        refine callK_fn (rfail_ok (x := 5) _ _ ?_)
        refine runL_V 60 ?_
        simp (disch := first | omega | (simp only [List.length_append, List.length_cons, List.length_nil, List.length_set, List.length_map, List.length_take, List.length_drop]; omega)) only [stdh, goK_s2b, dgoK_s2b, isEff_s2b, isPure_s2b, goK_b2s, dgoK_b2s, isEff_b2s, isPure_b2s, evalOp_s2b, s2bR, goK_mark, dgoK_mark, isEff_mark, isPure_mark, evalOp_mark, markA_slc, markB, ↓reduceIte, Nat.reduceEqDiff, Int.reduceToNat, Int.reducePow, Nat.reduceAdd, Nat.reduceLeDiff, Nat.reduceMul, Nat.reduceBEq, reduceCtorEq, mL]
        exact ice_none ⟨mL_closed _ _ _, trivial, trivial⟩ h
      · rw [lensR_ok (sp := numSpec most) (k := (getSpec (ys.drop a)).2.1) (v := (getSpec (ys.drop a)).1) (by unfold numSpec; rw [if_neg (by omega), if_neg c1])] at h
        generalize getSpec (ys.drop a) = G at *
        obtain ⟨num, k, x⟩ := G
        dsimp only at c0 c1 f1 f2 f3
        subst c0
        simp (disch := first | omega | (simp only [List.length_append, List.length_cons, List.length_nil, List.length_set, List.length_map, List.length_take, List.length_drop]; omega)) only [stdh, goK_s2b, dgoK_s2b, isEff_s2b, isPure_s2b, goK_b2s, dgoK_b2s, isEff_b2s, isPure_b2s, evalOp_s2b, s2bR, goK_mark, dgoK_mark, isEff_mark, isPure_mark, evalOp_mark, markA_slc, markB, ↓reduceIte, Nat.reduceEqDiff, Int.reduceToNat, Int.reducePow, Nat.reduceAdd, Nat.reduceLeDiff, Nat.reduceMul, Nat.reduceBEq, reduceCtorEq, mL]
        exact ice_none ⟨mL_closed _ _ _, trivial, trivial⟩ h
    · rw [lensR_bad2 (sp := numSpec most) (x := (getSpec (ys.drop a)).2.2) (by unfold numSpec; rw [if_pos c0]) c0] at h
      generalize getSpec (ys.drop a) = G at *
      obtain ⟨num, k, x⟩ := G
      dsimp only at c0 hz
      have c0' : ¬ ((x : Nat) : Int) = 0 := by omega
      simp (disch := first | omega | (simp only [List.length_append, List.length_cons, List.length_nil, List.length_set, List.length_map, List.length_take, List.length_drop]; omega)) only [stdh, goK_s2b, dgoK_s2b, isEff_s2b, isPure_s2b, goK_b2s, dgoK_b2s, isEff_b2s, isPure_b2s, evalOp_s2b, s2bR, goK_mark, dgoK_mark, isEff_mark, isPure_mark, evalOp_mark, markA_slc, markB, ↓reduceIte, Nat.reduceEqDiff, Int.reduceToNat, Int.reducePow, Nat.reduceAdd, Nat.reduceLeDiff, Nat.reduceMul, Nat.reduceBEq, reduceCtorEq, c0']
      refine callK_fn (rfail_ok (x := x) _ _ ?_)
      refine runL_V 60 ?_
      simp (disch := first | omega | (simp only [List.length_append, List.length_cons, List.length_nil, List.length_set, List.length_map, List.length_take, List.length_drop]; omega)) only [stdh, goK_s2b, dgoK_s2b, isEff_s2b, isPure_s2b, goK_b2s, dgoK_b2s, isEff_b2s, isPure_b2s, evalOp_s2b, s2bR, goK_mark, dgoK_mark, isEff_mark, isPure_mark, evalOp_mark, markA_slc, markB, ↓reduceIte, Nat.reduceEqDiff, Int.reduceToNat, Int.reducePow, Nat.reduceAdd, Nat.reduceLeDiff, Nat.reduceMul, Nat.reduceBEq, reduceCtorEq, mL]
      exact ice_none ⟨mL_closed _ _ _, trivial, trivial⟩ h
  · rw [lensR_err h0] at h
    have h0' : ¬ ((e : Nat) : Int) = 0 := by omega
    simp (disch := first | omega | (simp only [List.length_append, List.length_cons, List.length_nil, List.length_set, List.length_map, List.length_take, List.length_drop]; omega)) only [stdh, goK_s2b, dgoK_s2b, isEff_s2b, isPure_s2b, goK_b2s, dgoK_b2s, isEff_b2s, isPure_b2s, evalOp_s2b, s2bR, goK_mark, dgoK_mark, isEff_mark, isPure_mark, evalOp_mark, markA_slc, markB, ↓reduceIte, Nat.reduceEqDiff, Int.reduceToNat, Int.reducePow, Nat.reduceAdd, Nat.reduceLeDiff, Nat.reduceMul, Nat.reduceBEq, reduceCtorEq, cuneiformref03_Number, cuneiformref03_Number.body, mL, h0']
    exact ice_none ⟨mL_closed _ _ _, trivial, trivial⟩ h

theorem rsgn_ok (H : AHeap) {ys : List Nat} {a e : Nat} {least high : Int} (hb : ∀ b ∈ ys, b < 256) (hlen : ys.length ≤ 1000000) (ha : a ≤ ys.length) (he : e < 1000) (Q : AVal → AHeap → Prop)
    (h : Q (.tup [.agg (mL ys (lensR 0 ys a e (sgnSpec least high)).2.1 (lensR 0 ys a e (sgnSpec least high)).2.2), .int .i64 (lensR 0 ys a e (sgnSpec least high)).1]) H) : FunOK Try.prog F.cuneiformref03_Signed [.agg (mL ys a e), .int .i64 least, .int .i64 high] H Q := by
  refine fun_iced cuneiformref03_Signed_code fun _ => ?_
  refine fun_V 100 cuneiformref03_Signed_code rfl ?_
  by_cases h0 : e = 0
  · subst h0
    simp (disch := first | omega | (simp only [List.length_append, List.length_cons, List.length_nil, List.length_set, List.length_map, List.length_take, List.length_drop]; omega)) only [stdh, goK_s2b, dgoK_s2b, isEff_s2b, isPure_s2b, goK_b2s, dgoK_b2s, isEff_b2s, isPure_b2s, evalOp_s2b, s2bR, goK_mark, dgoK_mark, isEff_mark, isPure_mark, evalOp_mark, markA_slc, markB, ↓reduceIte, Nat.reduceEqDiff, Int.reduceToNat, Int.reducePow, Nat.reduceAdd, Nat.reduceLeDiff, Nat.reduceMul, Nat.reduceBEq, reduceCtorEq, cuneiformref03_Signed, cuneiformref03_Signed.body, mL]
    refine callK_fn (rget_ok _ (nums_nats _ _ _ _) hb (by omega) ha _ ?_)
    refine runL_V 100 ?_
    have hf := getSpec_facts (bs := ys.drop a)
    have hz := getSpec_zero (bs := ys.drop a)
    have hn : (getSpec (ys.drop a)).1 < 18446744073709551616 := by
      by_cases c0 : (getSpec (ys.drop a)).2.2 = 0
      · exact (hf c0).2.2
      · rw [(hz c0).1]; omega
    simp (disch := first | omega | (simp only [List.length_append, List.length_cons, List.length_nil, List.length_set, List.length_map, List.length_take, List.length_drop]; omega)) only [stdh, goK_s2b, dgoK_s2b, isEff_s2b, isPure_s2b, goK_b2s, dgoK_b2s, isEff_b2s, isPure_b2s, evalOp_s2b, s2bR, goK_mark, dgoK_mark, isEff_mark, isPure_mark, evalOp_mark, markA_slc, markB, ↓reduceIte, Nat.reduceEqDiff, Int.reduceToNat, Int.reducePow, Nat.reduceAdd, Nat.reduceLeDiff, Nat.reduceMul, Nat.reduceBEq, reduceCtorEq]
    refine callK_fn (rzag_ok _ _ hn _ ?_)
    refine runL_V 100 ?_
    by_cases c0 : (getSpec (ys.drop a)).2.2 = 0
    · obtain ⟨f1, f2, f3⟩ := hf c0
      by_cases c1 : zag (getSpec (ys.drop a)).1 < least ∨ high < zag (getSpec (ys.drop a)).1
      · rw [lensR_bad2 (sp := sgnSpec least high) (x := 5) (by unfold sgnSpec; rw [if_neg (by omega), if_pos c1]) (by decide)] at h
        generalize getSpec (ys.drop a) = G at *
        obtain ⟨num, k, x⟩ := G
        dsimp only at c0 c1 f1 f2 f3
        subst c0
        generalize zag num = s at *
        by_cases c2 : s < least
        · simp (disch := first | omega | (simp only [List.length_append, List.length_cons, List.length_nil, List.length_set, List.length_map, List.length_take, List.length_drop]; omega)) only [stdh, goK_s2b, dgoK_s2b, isEff_s2b, isPure_s2b, goK_b2s, dgoK_b2s, isEff_b2s, isPure_b2s, evalOp_s2b, s2bR, goK_mark, dgoK_mark, isEff_mark, isPure_mark, evalOp_mark, markA_slc, markB, ↓reduceIte, Nat.reduceEqDiff, Int.reduceToNat, Int.reducePow, Nat.reduceAdd, Nat.reduceLeDiff, Nat.reduceMul, Nat.reduceBEq, reduceCtorEq]
          refine callK_fn (rfail_ok (x := 5) _ _ ?_)
          refine runL_V 60 ?_
          simp (disch := first | omega | (simp only [List.length_append, List.length_cons, List.length_nil, List.length_set, List.length_map, List.length_take, List.length_drop]; omega)) only [stdh, goK_s2b, dgoK_s2b, isEff_s2b, isPure_s2b, goK_b2s, dgoK_b2s, isEff_b2s, isPure_b2s, evalOp_s2b, s2bR, goK_mark, dgoK_mark, isEff_mark, isPure_mark, evalOp_mark, markA_slc, markB, ↓reduceIte, Nat.reduceEqDiff, Int.reduceToNat, Int.reducePow, Nat.reduceAdd, Nat.reduceLeDiff, Nat.reduceMul, Nat.reduceBEq, reduceCtorEq, mL]
          exact ice_none ⟨mL_closed _ _ _, trivial, trivial⟩ h
        · have c3 : high < s := by omega
          simp (disch := first | omega | (simp only [List.length_append, List.length_cons, List.length_nil, List.length_set, List.length_map, List.length_take, List.length_drop]; omega)) only [stdh, goK_s2b, dgoK_s2b, isEff_s2b, isPure_s2b, goK_b2s, dgoK_b2s, isEff_b2s, isPure_b2s, evalOp_s2b, s2bR, goK_mark, dgoK_mark, isEff_mark, isPure_mark, evalOp_mark, markA_slc, markB, ↓reduceIte, Nat.reduceEqDiff, Int.reduceToNat, Int.reducePow, Nat.reduceAdd, Nat.reduceLeDiff, Nat.reduceMul, Nat.reduceBEq, reduceCtorEq]
          refine callK_fn (rfail_ok (x := 5) _ _ ?_)
          refine runL_V 60 ?_
          simp (disch := first | omega | (simp only [List.length_append, List.length_cons, List.length_nil, List.length_set, List.length_map, List.length_take, List.length_drop]; omega)) only [stdh, goK_s2b, dgoK_s2b, isEff_s2b, isPure_s2b, goK_b2s, dgoK_b2s, isEff_b2s, isPure_b2s, evalOp_s2b, s2bR, goK_mark, dgoK_mark, isEff_mark, isPure_mark, evalOp_mark, markA_slc, markB, ↓reduceIte, Nat.reduceEqDiff, Int.reduceToNat, Int.reducePow, Nat.reduceAdd, Nat.reduceLeDiff, Nat.reduceMul, Nat.reduceBEq, reduceCtorEq, mL]
          exact ice_none ⟨mL_closed _ _ _, trivial, trivial⟩ h
      · rw [lensR_ok (sp := sgnSpec least high) (k := (getSpec (ys.drop a)).2.1) (v := zag (getSpec (ys.drop a)).1) (by unfold sgnSpec; rw [if_neg (by omega), if_neg c1])] at h
        generalize getSpec (ys.drop a) = G at *
        obtain ⟨num, k, x⟩ := G
        dsimp only at c0 c1 f1 f2 f3
        subst c0
        generalize zag num = s at *
        simp (disch := first | omega | (simp only [List.length_append, List.length_cons, List.length_nil, List.length_set, List.length_map, List.length_take, List.length_drop]; omega)) only [stdh, goK_s2b, dgoK_s2b, isEff_s2b, isPure_s2b, goK_b2s, dgoK_b2s, isEff_b2s, isPure_b2s, evalOp_s2b, s2bR, goK_mark, dgoK_mark, isEff_mark, isPure_mark, evalOp_mark, markA_slc, markB, ↓reduceIte, Nat.reduceEqDiff, Int.reduceToNat, Int.reducePow, Nat.reduceAdd, Nat.reduceLeDiff, Nat.reduceMul, Nat.reduceBEq, reduceCtorEq, mL]
        exact ice_none ⟨mL_closed _ _ _, trivial, trivial⟩ h
    · rw [lensR_bad2 (sp := sgnSpec least high) (x := (getSpec (ys.drop a)).2.2) (by unfold sgnSpec; rw [if_pos c0]) c0] at h
      generalize getSpec (ys.drop a) = G at *
      obtain ⟨num, k, x⟩ := G
      dsimp only at c0 hz
      have c0' : ¬ ((x : Nat) : Int) = 0 := by omega
      simp (disch := first | omega | (simp only [List.length_append, List.length_cons, List.length_nil, List.length_set, List.length_map, List.length_take, List.length_drop]; omega)) only [stdh, goK_s2b, dgoK_s2b, isEff_s2b, isPure_s2b, goK_b2s, dgoK_b2s, isEff_b2s, isPure_b2s, evalOp_s2b, s2bR, goK_mark, dgoK_mark, isEff_mark, isPure_mark, evalOp_mark, markA_slc, markB, ↓reduceIte, Nat.reduceEqDiff, Int.reduceToNat, Int.reducePow, Nat.reduceAdd, Nat.reduceLeDiff, Nat.reduceMul, Nat.reduceBEq, reduceCtorEq, c0']
      refine callK_fn (rfail_ok (x := x) _ _ ?_)
      refine runL_V 60 ?_
      simp (disch := first | omega | (simp only [List.length_append, List.length_cons, List.length_nil, List.length_set, List.length_map, List.length_take, List.length_drop]; omega)) only [stdh, goK_s2b, dgoK_s2b, isEff_s2b, isPure_s2b, goK_b2s, dgoK_b2s, isEff_b2s, isPure_b2s, evalOp_s2b, s2bR, goK_mark, dgoK_mark, isEff_mark, isPure_mark, evalOp_mark, markA_slc, markB, ↓reduceIte, Nat.reduceEqDiff, Int.reduceToNat, Int.reducePow, Nat.reduceAdd, Nat.reduceLeDiff, Nat.reduceMul, Nat.reduceBEq, reduceCtorEq, mL]
      exact ice_none ⟨mL_closed _ _ _, trivial, trivial⟩ h
  · rw [lensR_err h0] at h
    have h0' : ¬ ((e : Nat) : Int) = 0 := by omega
    simp (disch := first | omega | (simp only [List.length_append, List.length_cons, List.length_nil, List.length_set, List.length_map, List.length_take, List.length_drop]; omega)) only [stdh, goK_s2b, dgoK_s2b, isEff_s2b, isPure_s2b, goK_b2s, dgoK_b2s, isEff_b2s, isPure_b2s, evalOp_s2b, s2bR, goK_mark, dgoK_mark, isEff_mark, isPure_mark, evalOp_mark, markA_slc, markB, ↓reduceIte, Nat.reduceEqDiff, Int.reduceToNat, Int.reducePow, Nat.reduceAdd, Nat.reduceLeDiff, Nat.reduceMul, Nat.reduceBEq, reduceCtorEq, cuneiformref03_Signed, cuneiformref03_Signed.body, mL, h0']
    exact ice_none ⟨mL_closed _ _ _, trivial, trivial⟩ h

/-- The end of a read of bytes: they are a new list. -/
theorem ice_read {H H' : AHeap} {Q : AVal → AHeap → Prop} {ys out : List Nat} {a e : Nat} {v : AVal} (hk : Keeps H H') (ho : Own 1 T.uint8 H.length H' v out.length (u8s out)) (h : Q (.tup [.agg (mL ys a e), nums .u8 false out]) H) : IceQ H Q (.tup [.agg (mL ys a e), v]) H' := by
  refine ice_tup [(.agg (mL ys a e), .agg (mL ys a e)), (v, .imm (u8s out) out.length false)] hk ?_ ?_
  · intro p hp
    simp only [List.mem_cons, List.not_mem_nil, or_false] at hp
    rcases hp with rfl | rfl
    · exact Fin.same (mL_closed _ _ _)
    · exact Fin.own ho (closeds_ints _ _)
  · exact h

theorem rraw_ok (H : AHeap) {ys : List Nat} {a e : Nat} {n : Int} (hn : -9223372036854775808 ≤ n ∧ n < 9223372036854775808) (hlen : ys.length ≤ 1000000) (ha : a ≤ ys.length) (he : e < 1000) (Q : AVal → AHeap → Prop)
    (h : Q (.tup [.agg (mL ys (lensR [] ys a e (rawSpec n)).2.1 (lensR [] ys a e (rawSpec n)).2.2), nums .u8 false (lensR [] ys a e (rawSpec n)).1]) H) : FunOK Try.prog F.cuneiformref03_Raw [.agg (mL ys a e), .int .i64 n] H Q := by
  refine fun_iced cuneiformref03_Raw_code fun _ => ?_
  refine fun_V 100 cuneiformref03_Raw_code rfl ?_
  by_cases h0 : e = 0
  · subst h0
    have hl0 : ((ys.length : Nat) : Int) - (a : Nat) = ((ys.length - a : Nat) : Int) := by omega
    by_cases c0 : n < 0
    · rw [lensR_bad2 (sp := rawSpec n) (x := 5) (by unfold rawSpec; rw [if_pos c0]) (by decide)] at h
      simp (disch := first | omega | (simp only [List.length_append, List.length_cons, List.length_nil, List.length_set, List.length_map, List.length_take, List.length_drop]; omega)) only [stdh, goK_s2b, dgoK_s2b, isEff_s2b, isPure_s2b, goK_b2s, dgoK_b2s, isEff_b2s, isPure_b2s, evalOp_s2b, s2bR, goK_mark, dgoK_mark, isEff_mark, isPure_mark, evalOp_mark, markA_slc, markB, ↓reduceIte, Nat.reduceEqDiff, Int.reduceToNat, Int.reducePow, Nat.reduceAdd, Nat.reduceLeDiff, Nat.reduceMul, Nat.reduceBEq, reduceCtorEq, cuneiformref03_Raw, cuneiformref03_Raw.body, mL]
      refine callK_fn (rfail_ok (x := 5) _ _ ?_)
      refine runL_V 60 ?_
      simp (disch := first | omega | (simp only [List.length_append, List.length_cons, List.length_nil, List.length_set, List.length_map, List.length_take, List.length_drop]; omega)) only [stdh, goK_s2b, dgoK_s2b, isEff_s2b, isPure_s2b, goK_b2s, dgoK_b2s, isEff_b2s, isPure_b2s, evalOp_s2b, s2bR, goK_mark, dgoK_mark, isEff_mark, isPure_mark, evalOp_mark, markA_slc, markB, ↓reduceIte, Nat.reduceEqDiff, Int.reduceToNat, Int.reducePow, Nat.reduceAdd, Nat.reduceLeDiff, Nat.reduceMul, Nat.reduceBEq, reduceCtorEq, mL]
      exact ice_read (out := []) (keeps_append _ _) Own.nil h
    · obtain ⟨m, rfl⟩ := Int.eq_ofNat_of_zero_le (show 0 ≤ n by omega)
      by_cases c1 : ys.length - a < m
      · rw [lensR_bad2 (sp := rawSpec (m : Nat)) (x := 4) (by unfold rawSpec; rw [if_neg c0, List.length_drop, Int.toNat_natCast, if_pos c1]) (by decide)] at h
        simp (disch := first | omega | (simp only [List.length_append, List.length_cons, List.length_nil, List.length_set, List.length_map, List.length_take, List.length_drop]; omega)) only [stdh, goK_s2b, dgoK_s2b, isEff_s2b, isPure_s2b, goK_b2s, dgoK_b2s, isEff_b2s, isPure_b2s, evalOp_s2b, s2bR, goK_mark, dgoK_mark, isEff_mark, isPure_mark, evalOp_mark, markA_slc, markB, ↓reduceIte, Nat.reduceEqDiff, Int.reduceToNat, Int.reducePow, Nat.reduceAdd, Nat.reduceLeDiff, Nat.reduceMul, Nat.reduceBEq, reduceCtorEq, cuneiformref03_Raw, cuneiformref03_Raw.body, mL, hl0]
        refine callK_fn (rfail_ok (x := 4) _ _ ?_)
        refine runL_V 60 ?_
        simp (disch := first | omega | (simp only [List.length_append, List.length_cons, List.length_nil, List.length_set, List.length_map, List.length_take, List.length_drop]; omega)) only [stdh, goK_s2b, dgoK_s2b, isEff_s2b, isPure_s2b, goK_b2s, dgoK_b2s, isEff_b2s, isPure_b2s, evalOp_s2b, s2bR, goK_mark, dgoK_mark, isEff_mark, isPure_mark, evalOp_mark, markA_slc, markB, ↓reduceIte, Nat.reduceEqDiff, Int.reduceToNat, Int.reducePow, Nat.reduceAdd, Nat.reduceLeDiff, Nat.reduceMul, Nat.reduceBEq, reduceCtorEq, mL]
        exact ice_read (out := []) (keeps_append _ _) Own.nil h
      · rw [lensR_ok (sp := rawSpec (m : Nat)) (k := m) (v := (ys.drop a).take m) (by unfold rawSpec; rw [if_neg c0, List.length_drop, Int.toNat_natCast, if_neg c1])] at h
        have eam : (a : Int) + (m : Int) = ((a + m : Nat) : Int) := by omega
        have e4 : a + m - a = m := by omega
        have hol : ((ys.drop a).take m).length = m := by rw [List.length_take, List.length_drop]; omega
        obtain ⟨p, a1, hp⟩ := Own.append3 (H := H ++ [.cells (mL ys a 0) T.cuneiformref03_L, .cells [.nils, .int .i64 0, .int .i64 0] T.cuneiformref03_L, .vec [] T.uint8 1]) (w := 1) (el := T.uint8) (B := H.length) (a := .slc (H.length + 2) 0 0 1) (n := 0) (cs := []) ⟨rfl, .inr ⟨H.length + 2, by omega, rfl, at_k⟩⟩ (x := nums .u8 false ((ys.drop a).take m)) (k := m) (ys := u8s ((ys.drop a).take m)) 1 (by rw [srcLen_nums, hol]) rfl (by simp only [u8s_len, hol]; omega) (by omega) (by omega) (by omega) (u8s_cellish _)
        simp only [killA, List.nil_append, Nat.zero_add, set_k, mL, List.set_cons_succ, List.set_cons_zero, List.append_assoc, List.cons_append, List.length_append, List.length_cons, List.length_nil, Nat.reduceAdd] at a1
        simp (disch := first | omega | (simp only [List.length_append, List.length_cons, List.length_nil, List.length_set, List.length_map, List.length_take, List.length_drop]; omega)) only [stdh, goK_s2b, dgoK_s2b, isEff_s2b, isPure_s2b, goK_b2s, dgoK_b2s, isEff_b2s, isPure_b2s, evalOp_s2b, s2bR, goK_mark, dgoK_mark, isEff_mark, isPure_mark, evalOp_mark, markA_slc, markB, ↓reduceIte, Nat.reduceEqDiff, Int.reduceToNat, Int.reducePow, Nat.reduceAdd, Nat.reduceLeDiff, Nat.reduceMul, Nat.reduceBEq, reduceCtorEq, cuneiformref03_Raw, cuneiformref03_Raw.body, mL, hl0, eam, e4, a1, hp]
        exact ice_read (out := (ys.drop a).take m) (keeps_append _ _) ⟨by rw [u8s_len, Nat.mul_one], .inr ⟨H.length + 3, by omega, by rw [hol], by rw [at_k]; rfl⟩⟩ h
  · rw [lensR_err h0] at h
    have h0' : ¬ ((e : Nat) : Int) = 0 := by omega
    simp (disch := first | omega | (simp only [List.length_append, List.length_cons, List.length_nil, List.length_set, List.length_map, List.length_take, List.length_drop]; omega)) only [stdh, goK_s2b, dgoK_s2b, isEff_s2b, isPure_s2b, goK_b2s, dgoK_b2s, isEff_b2s, isPure_b2s, evalOp_s2b, s2bR, goK_mark, dgoK_mark, isEff_mark, isPure_mark, evalOp_mark, markA_slc, markB, ↓reduceIte, Nat.reduceEqDiff, Int.reduceToNat, Int.reducePow, Nat.reduceAdd, Nat.reduceLeDiff, Nat.reduceMul, Nat.reduceBEq, reduceCtorEq, cuneiformref03_Raw, cuneiformref03_Raw.body, mL, h0']
    exact ice_read (out := []) (keeps_append _ _) Own.nil h

theorem rfield_ok (H : AHeap) {ys : List Nat} {a e : Nat} {most : Int} (hmost : -9223372036854775808 ≤ most ∧ most < 9223372036854775808) (hb : ∀ b ∈ ys, b < 256) (hlen : ys.length ≤ 1000000) (ha : a ≤ ys.length) (he : e < 1000) (Q : AVal → AHeap → Prop)
    (h : Q (.tup [.agg (mL ys (lensR [] ys a e (fieldSpec most)).2.1 (lensR [] ys a e (fieldSpec most)).2.2), nums .u8 false (lensR [] ys a e (fieldSpec most)).1]) H) : FunOK Try.prog F.cuneiformref03_Field [.agg (mL ys a e), .int .i64 most] H Q := by
  refine fun_iced cuneiformref03_Field_code fun _ => ?_
  refine fun_V 100 cuneiformref03_Field_code rfl ?_
  by_cases h0 : e = 0
  · subst h0
    have hf := getSpec_facts (bs := ys.drop a)
    have hz := getSpec_zero (bs := ys.drop a)
    by_cases hneg : most < 0
    · simp (disch := first | omega | (simp only [List.length_append, List.length_cons, List.length_nil, List.length_set, List.length_map, List.length_take, List.length_drop]; omega)) only [stdh, goK_s2b, dgoK_s2b, isEff_s2b, isPure_s2b, goK_b2s, dgoK_b2s, isEff_b2s, isPure_b2s, evalOp_s2b, s2bR, goK_mark, dgoK_mark, isEff_mark, isPure_mark, evalOp_mark, markA_slc, markB, ↓reduceIte, Nat.reduceEqDiff, Int.reduceToNat, Int.reducePow, Nat.reduceAdd, Nat.reduceLeDiff, Nat.reduceMul, Nat.reduceBEq, reduceCtorEq, cuneiformref03_Field, cuneiformref03_Field.body, mL]
      refine callK_fn (rget_ok _ (nums_nats _ _ _ _) hb (by omega) ha _ ?_)
      refine runL_V 100 ?_
      by_cases c0 : (getSpec (ys.drop a)).2.2 = 0
      · obtain ⟨f1, f2, f3⟩ := hf c0
        rw [List.length_drop] at f2
        by_cases c1 : most.toNat < (getSpec (ys.drop a)).1
        · rw [lensR_bad2 (sp := fieldSpec most) (x := 6) (by unfold fieldSpec; rw [if_neg (by omega), if_pos c1]) (by decide)] at h
          generalize getSpec (ys.drop a) = G at *
          obtain ⟨num, k, x⟩ := G
          dsimp only at c0 c1 f1 f2 f3
          subst c0
          simp (disch := first | omega | (simp only [List.length_append, List.length_cons, List.length_nil, List.length_set, List.length_map, List.length_take, List.length_drop]; omega)) only [stdh, goK_s2b, dgoK_s2b, isEff_s2b, isPure_s2b, goK_b2s, dgoK_b2s, isEff_b2s, isPure_b2s, evalOp_s2b, s2bR, goK_mark, dgoK_mark, isEff_mark, isPure_mark, evalOp_mark, markA_slc, markB, ↓reduceIte, Nat.reduceEqDiff, Int.reduceToNat, Int.reducePow, Nat.reduceAdd, Nat.reduceLeDiff, Nat.reduceMul, Nat.reduceBEq, reduceCtorEq]
          refine callK_fn (rfail_ok (x := 6) _ _ ?_)
          refine runL_V 60 ?_
          simp (disch := first | omega | (simp only [List.length_append, List.length_cons, List.length_nil, List.length_set, List.length_map, List.length_take, List.length_drop]; omega)) only [stdh, goK_s2b, dgoK_s2b, isEff_s2b, isPure_s2b, goK_b2s, dgoK_b2s, isEff_b2s, isPure_b2s, evalOp_s2b, s2bR, goK_mark, dgoK_mark, isEff_mark, isPure_mark, evalOp_mark, markA_slc, markB, ↓reduceIte, Nat.reduceEqDiff, Int.reduceToNat, Int.reducePow, Nat.reduceAdd, Nat.reduceLeDiff, Nat.reduceMul, Nat.reduceBEq, reduceCtorEq, mL]
          exact ice_read (out := []) (keeps_append _ _) Own.nil h
        · have c2 : ¬ ys.length - a - (getSpec (ys.drop a)).2.1 < (getSpec (ys.drop a)).1 := by omega
          rw [lensR_ok (sp := fieldSpec most) (k := (getSpec (ys.drop a)).2.1 + (getSpec (ys.drop a)).1) (v := ((ys.drop a).drop (getSpec (ys.drop a)).2.1).take (getSpec (ys.drop a)).1) (by unfold fieldSpec; rw [if_neg (by omega), if_neg c1, List.length_drop, if_neg c2])] at h
          generalize getSpec (ys.drop a) = G at *
          obtain ⟨num, k, x⟩ := G
          dsimp only at c0 c1 c2 f1 f2 f3 h
          subst c0
          rw [List.drop_drop] at h
          have eak : ((ys.length : Nat) : Int) - ((a + k : Nat) : Int) = ((ys.length - a - k : Nat) : Int) := by omega
          have e2 : IntKind.i64.wrap (num : Int) = (num : Int) := wrap_i64 (by omega)
          have e3 : ((a + k : Nat) : Int) + (num : Int) = ((a + (k + num) : Nat) : Int) := by omega
          have e4 : a + (k + num) - (a + k) = num := by omega
          have hol : ((ys.drop (a + k)).take num).length = num := by rw [List.length_take, List.length_drop]; omega
          obtain ⟨p, a1, hp⟩ := Own.append3 (H := H ++ [.cells (mL ys a 0) T.cuneiformref03_L, .cells [.nils, .int .i64 0, .int .i64 0] T.cuneiformref03_L, .vec [] T.uint8 1]) (w := 1) (el := T.uint8) (B := H.length) (a := .slc (H.length + 2) 0 0 1) (n := 0) (cs := []) ⟨rfl, .inr ⟨H.length + 2, by omega, rfl, at_k⟩⟩ (x := nums .u8 false ((ys.drop (a + k)).take num)) (k := num) (ys := u8s ((ys.drop (a + k)).take num)) 1 (by rw [srcLen_nums, hol]) rfl (by simp only [u8s_len, hol]; omega) (by omega) (by omega) (by omega) (u8s_cellish _)
          simp only [killA, List.nil_append, Nat.zero_add, set_k, mL, List.set_cons_succ, List.set_cons_zero, List.append_assoc, List.cons_append, List.length_append, List.length_cons, List.length_nil, Nat.reduceAdd] at a1
          simp (disch := first | omega | (simp only [List.length_append, List.length_cons, List.length_nil, List.length_set, List.length_map, List.length_take, List.length_drop]; omega)) only [stdh, goK_s2b, dgoK_s2b, isEff_s2b, isPure_s2b, goK_b2s, dgoK_b2s, isEff_b2s, isPure_b2s, evalOp_s2b, s2bR, goK_mark, dgoK_mark, isEff_mark, isPure_mark, evalOp_mark, markA_slc, markB, ↓reduceIte, Nat.reduceEqDiff, Int.reduceToNat, Int.reducePow, Nat.reduceAdd, Nat.reduceLeDiff, Nat.reduceMul, Nat.reduceBEq, reduceCtorEq, eak, e2, e3, e4, a1, hp]
          exact ice_read (out := (ys.drop (a + k)).take num) (keeps_append _ _) ⟨by rw [u8s_len, Nat.mul_one], .inr ⟨H.length + 3, by omega, by rw [hol], by rw [at_k]; rfl⟩⟩ h
      · rw [lensR_bad2 (sp := fieldSpec most) (x := (getSpec (ys.drop a)).2.2) (by unfold fieldSpec; rw [if_pos c0]) c0] at h
        generalize getSpec (ys.drop a) = G at *
        obtain ⟨num, k, x⟩ := G
        dsimp only at c0 hz
        have c0' : ¬ ((x : Nat) : Int) = 0 := by omega
        simp (disch := first | omega | (simp only [List.length_append, List.length_cons, List.length_nil, List.length_set, List.length_map, List.length_take, List.length_drop]; omega)) only [stdh, goK_s2b, dgoK_s2b, isEff_s2b, isPure_s2b, goK_b2s, dgoK_b2s, isEff_b2s, isPure_b2s, evalOp_s2b, s2bR, goK_mark, dgoK_mark, isEff_mark, isPure_mark, evalOp_mark, markA_slc, markB, ↓reduceIte, Nat.reduceEqDiff, Int.reduceToNat, Int.reducePow, Nat.reduceAdd, Nat.reduceLeDiff, Nat.reduceMul, Nat.reduceBEq, reduceCtorEq, c0']
        refine callK_fn (rfail_ok (x := x) _ _ ?_)
        refine runL_V 60 ?_
        simp (disch := first | omega | (simp only [List.length_append, List.length_cons, List.length_nil, List.length_set, List.length_map, List.length_take, List.length_drop]; omega)) only [stdh, goK_s2b, dgoK_s2b, isEff_s2b, isPure_s2b, goK_b2s, dgoK_b2s, isEff_b2s, isPure_b2s, evalOp_s2b, s2bR, goK_mark, dgoK_mark, isEff_mark, isPure_mark, evalOp_mark, markA_slc, markB, ↓reduceIte, Nat.reduceEqDiff, Int.reduceToNat, Int.reducePow, Nat.reduceAdd, Nat.reduceLeDiff, Nat.reduceMul, Nat.reduceBEq, reduceCtorEq, mL]
        exact ice_read (out := []) (keeps_append _ _) Own.nil h
    · simp (disch := first | omega | (simp only [List.length_append, List.length_cons, List.length_nil, List.length_set, List.length_map, List.length_take, List.length_drop]; omega)) only [stdh, goK_s2b, dgoK_s2b, isEff_s2b, isPure_s2b, goK_b2s, dgoK_b2s, isEff_b2s, isPure_b2s, evalOp_s2b, s2bR, goK_mark, dgoK_mark, isEff_mark, isPure_mark, evalOp_mark, markA_slc, markB, ↓reduceIte, Nat.reduceEqDiff, Int.reduceToNat, Int.reducePow, Nat.reduceAdd, Nat.reduceLeDiff, Nat.reduceMul, Nat.reduceBEq, reduceCtorEq, cuneiformref03_Field, cuneiformref03_Field.body, mL]
      refine callK_fn (rget_ok _ (nums_nats _ _ _ _) hb (by omega) ha _ ?_)
      refine runL_V 100 ?_
      by_cases c0 : (getSpec (ys.drop a)).2.2 = 0
      · obtain ⟨f1, f2, f3⟩ := hf c0
        rw [List.length_drop] at f2
        by_cases c1 : most.toNat < (getSpec (ys.drop a)).1
        · rw [lensR_bad2 (sp := fieldSpec most) (x := 6) (by unfold fieldSpec; rw [if_neg (by omega), if_pos c1]) (by decide)] at h
          generalize getSpec (ys.drop a) = G at *
          obtain ⟨num, k, x⟩ := G
          dsimp only at c0 c1 f1 f2 f3
          subst c0
          simp (disch := first | omega | (simp only [List.length_append, List.length_cons, List.length_nil, List.length_set, List.length_map, List.length_take, List.length_drop]; omega)) only [stdh, goK_s2b, dgoK_s2b, isEff_s2b, isPure_s2b, goK_b2s, dgoK_b2s, isEff_b2s, isPure_b2s, evalOp_s2b, s2bR, goK_mark, dgoK_mark, isEff_mark, isPure_mark, evalOp_mark, markA_slc, markB, ↓reduceIte, Nat.reduceEqDiff, Int.reduceToNat, Int.reducePow, Nat.reduceAdd, Nat.reduceLeDiff, Nat.reduceMul, Nat.reduceBEq, reduceCtorEq]
          refine callK_fn (rfail_ok (x := 6) _ _ ?_)
          refine runL_V 60 ?_
          simp (disch := first | omega | (simp only [List.length_append, List.length_cons, List.length_nil, List.length_set, List.length_map, List.length_take, List.length_drop]; omega)) only [stdh, goK_s2b, dgoK_s2b, isEff_s2b, isPure_s2b, goK_b2s, dgoK_b2s, isEff_b2s, isPure_b2s, evalOp_s2b, s2bR, goK_mark, dgoK_mark, isEff_mark, isPure_mark, evalOp_mark, markA_slc, markB, ↓reduceIte, Nat.reduceEqDiff, Int.reduceToNat, Int.reducePow, Nat.reduceAdd, Nat.reduceLeDiff, Nat.reduceMul, Nat.reduceBEq, reduceCtorEq, mL]
          exact ice_read (out := []) (keeps_append _ _) Own.nil h
        · by_cases c2 : ys.length - a - (getSpec (ys.drop a)).2.1 < (getSpec (ys.drop a)).1
          · rw [lensR_bad2 (sp := fieldSpec most) (x := 4) (by unfold fieldSpec; rw [if_neg (by omega), if_neg c1, List.length_drop, if_pos c2]) (by decide)] at h
            generalize getSpec (ys.drop a) = G at *
            obtain ⟨num, k, x⟩ := G
            dsimp only at c0 c1 c2 f1 f2 f3
            subst c0
            have eak : ((ys.length : Nat) : Int) - ((a + k : Nat) : Int) = ((ys.length - a - k : Nat) : Int) := by omega
            simp (disch := first | omega | (simp only [List.length_append, List.length_cons, List.length_nil, List.length_set, List.length_map, List.length_take, List.length_drop]; omega)) only [stdh, goK_s2b, dgoK_s2b, isEff_s2b, isPure_s2b, goK_b2s, dgoK_b2s, isEff_b2s, isPure_b2s, evalOp_s2b, s2bR, goK_mark, dgoK_mark, isEff_mark, isPure_mark, evalOp_mark, markA_slc, markB, ↓reduceIte, Nat.reduceEqDiff, Int.reduceToNat, Int.reducePow, Nat.reduceAdd, Nat.reduceLeDiff, Nat.reduceMul, Nat.reduceBEq, reduceCtorEq, eak]
            refine callK_fn (rfail_ok (x := 4) _ _ ?_)
            refine runL_V 60 ?_
            simp (disch := first | omega | (simp only [List.length_append, List.length_cons, List.length_nil, List.length_set, List.length_map, List.length_take, List.length_drop]; omega)) only [stdh, goK_s2b, dgoK_s2b, isEff_s2b, isPure_s2b, goK_b2s, dgoK_b2s, isEff_b2s, isPure_b2s, evalOp_s2b, s2bR, goK_mark, dgoK_mark, isEff_mark, isPure_mark, evalOp_mark, markA_slc, markB, ↓reduceIte, Nat.reduceEqDiff, Int.reduceToNat, Int.reducePow, Nat.reduceAdd, Nat.reduceLeDiff, Nat.reduceMul, Nat.reduceBEq, reduceCtorEq, mL]
            exact ice_read (out := []) (keeps_append _ _) Own.nil h
          · rw [lensR_ok (sp := fieldSpec most) (k := (getSpec (ys.drop a)).2.1 + (getSpec (ys.drop a)).1) (v := ((ys.drop a).drop (getSpec (ys.drop a)).2.1).take (getSpec (ys.drop a)).1) (by unfold fieldSpec; rw [if_neg (by omega), if_neg c1, List.length_drop, if_neg c2])] at h
            generalize getSpec (ys.drop a) = G at *
            obtain ⟨num, k, x⟩ := G
            dsimp only at c0 c1 c2 f1 f2 f3 h
            subst c0
            rw [List.drop_drop] at h
            have eak : ((ys.length : Nat) : Int) - ((a + k : Nat) : Int) = ((ys.length - a - k : Nat) : Int) := by omega
            have e2 : IntKind.i64.wrap (num : Int) = (num : Int) := wrap_i64 (by omega)
            have e3 : ((a + k : Nat) : Int) + (num : Int) = ((a + (k + num) : Nat) : Int) := by omega
            have e4 : a + (k + num) - (a + k) = num := by omega
            have hol : ((ys.drop (a + k)).take num).length = num := by rw [List.length_take, List.length_drop]; omega
            obtain ⟨p, a1, hp⟩ := Own.append3 (H := H ++ [.cells (mL ys a 0) T.cuneiformref03_L, .cells [.nils, .int .i64 0, .int .i64 0] T.cuneiformref03_L, .vec [] T.uint8 1]) (w := 1) (el := T.uint8) (B := H.length) (a := .slc (H.length + 2) 0 0 1) (n := 0) (cs := []) ⟨rfl, .inr ⟨H.length + 2, by omega, rfl, at_k⟩⟩ (x := nums .u8 false ((ys.drop (a + k)).take num)) (k := num) (ys := u8s ((ys.drop (a + k)).take num)) 1 (by rw [srcLen_nums, hol]) rfl (by simp only [u8s_len, hol]; omega) (by omega) (by omega) (by omega) (u8s_cellish _)
            simp only [killA, List.nil_append, Nat.zero_add, set_k, mL, List.set_cons_succ, List.set_cons_zero, List.append_assoc, List.cons_append, List.length_append, List.length_cons, List.length_nil, Nat.reduceAdd] at a1
            simp (disch := first | omega | (simp only [List.length_append, List.length_cons, List.length_nil, List.length_set, List.length_map, List.length_take, List.length_drop]; omega)) only [stdh, goK_s2b, dgoK_s2b, isEff_s2b, isPure_s2b, goK_b2s, dgoK_b2s, isEff_b2s, isPure_b2s, evalOp_s2b, s2bR, goK_mark, dgoK_mark, isEff_mark, isPure_mark, evalOp_mark, markA_slc, markB, ↓reduceIte, Nat.reduceEqDiff, Int.reduceToNat, Int.reducePow, Nat.reduceAdd, Nat.reduceLeDiff, Nat.reduceMul, Nat.reduceBEq, reduceCtorEq, eak, e2, e3, e4, a1, hp]
            exact ice_read (out := (ys.drop (a + k)).take num) (keeps_append _ _) ⟨by rw [u8s_len, Nat.mul_one], .inr ⟨H.length + 3, by omega, by rw [hol], by rw [at_k]; rfl⟩⟩ h
      · rw [lensR_bad2 (sp := fieldSpec most) (x := (getSpec (ys.drop a)).2.2) (by unfold fieldSpec; rw [if_pos c0]) c0] at h
        generalize getSpec (ys.drop a) = G at *
        obtain ⟨num, k, x⟩ := G
        dsimp only at c0 hz
        have c0' : ¬ ((x : Nat) : Int) = 0 := by omega
        simp (disch := first | omega | (simp only [List.length_append, List.length_cons, List.length_nil, List.length_set, List.length_map, List.length_take, List.length_drop]; omega)) only [stdh, goK_s2b, dgoK_s2b, isEff_s2b, isPure_s2b, goK_b2s, dgoK_b2s, isEff_b2s, isPure_b2s, evalOp_s2b, s2bR, goK_mark, dgoK_mark, isEff_mark, isPure_mark, evalOp_mark, markA_slc, markB, ↓reduceIte, Nat.reduceEqDiff, Int.reduceToNat, Int.reducePow, Nat.reduceAdd, Nat.reduceLeDiff, Nat.reduceMul, Nat.reduceBEq, reduceCtorEq, c0']
        refine callK_fn (rfail_ok (x := x) _ _ ?_)
        refine runL_V 60 ?_
        simp (disch := first | omega | (simp only [List.length_append, List.length_cons, List.length_nil, List.length_set, List.length_map, List.length_take, List.length_drop]; omega)) only [stdh, goK_s2b, dgoK_s2b, isEff_s2b, isPure_s2b, goK_b2s, dgoK_b2s, isEff_b2s, isPure_b2s, evalOp_s2b, s2bR, goK_mark, dgoK_mark, isEff_mark, isPure_mark, evalOp_mark, markA_slc, markB, ↓reduceIte, Nat.reduceEqDiff, Int.reduceToNat, Int.reducePow, Nat.reduceAdd, Nat.reduceLeDiff, Nat.reduceMul, Nat.reduceBEq, reduceCtorEq, mL]
        exact ice_read (out := []) (keeps_append _ _) Own.nil h
  · rw [lensR_err h0] at h
    have h0' : ¬ ((e : Nat) : Int) = 0 := by omega
    simp (disch := first | omega | (simp only [List.length_append, List.length_cons, List.length_nil, List.length_set, List.length_map, List.length_take, List.length_drop]; omega)) only [stdh, goK_s2b, dgoK_s2b, isEff_s2b, isPure_s2b, goK_b2s, dgoK_b2s, isEff_b2s, isPure_b2s, evalOp_s2b, s2bR, goK_mark, dgoK_mark, isEff_mark, isPure_mark, evalOp_mark, markA_slc, markB, ↓reduceIte, Nat.reduceEqDiff, Int.reduceToNat, Int.reducePow, Nat.reduceAdd, Nat.reduceLeDiff, Nat.reduceMul, Nat.reduceBEq, reduceCtorEq, cuneiformref03_Field, cuneiformref03_Field.body, mL, h0']
    exact ice_read (out := []) (keeps_append _ _) Own.nil h
end Go.Proofs.Ytebhlclfiiffbaa
