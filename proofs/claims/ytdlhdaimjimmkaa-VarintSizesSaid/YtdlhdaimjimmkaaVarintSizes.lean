/-
  VarintSizesSaid: whatever the two numbers, the law VarintSizes returns true, and the input reads as it did. No condition. By an AI agent. No person has read it.
-/
import Derived.Test.YtdlhdaimjimmkaaVarint
import Derived.Test.YtdlhdaimjimmkaaAm4
import Derived.OpenShut
import Derived.Test.YtdlhdaimjimmkaaRows

namespace Go.Proofs.Ytdlhdaimjimmkaa
open Go Go.Am
set_option linter.unusedSimpArgs false
set_option linter.unusedVariables false

theorem sizeOf_mono (m : Nat) : ∀ n, m ≤ n → sizeOf m ≤ sizeOf n := by
  induction m using Nat.strongRecOn with
  | _ m ih =>
    intro n h
    by_cases hm : m < 128
    · rw [sizeOf_lt hm]; exact sizeOf_pos n
    · rw [sizeOf_ge hm, sizeOf_ge (by omega : ¬ n < 128)]
      have := ih (m / 128) (by omega) (n / 128) (by omega)
      omega

theorem sizeOf_bound (n : Nat) : n < 2 ^ (7 * sizeOf n) ∧ (sizeOf n ≠ 1 → 2 ^ (7 * (sizeOf n - 1)) ≤ n) := by
  induction n using Nat.strongRecOn with
  | _ n ih =>
    by_cases hn : n < 128
    · rw [sizeOf_lt hn]; exact ⟨by omega, by simp⟩
    · obtain ⟨h1, h2⟩ := ih (n / 128) (by omega)
      have hp := sizeOf_pos (n / 128)
      rw [sizeOf_ge hn]
      refine ⟨?_, fun _ => ?_⟩
      · rw [show 7 * (1 + sizeOf (n / 128)) = 7 * sizeOf (n / 128) + 7 by omega, Nat.pow_add]
        omega
      · by_cases h3 : sizeOf (n / 128) = 1
        · rw [h3]; omega
        · have h2 := h2 h3
          rw [show 7 * (1 + sizeOf (n / 128) - 1) = 7 * (sizeOf (n / 128) - 1) + 7 by omega, Nat.pow_add]
          omega

theorem sizes_ok (a b : Nat) (ha : a < 18446744073709551616) (hb : b < 18446744073709551616) : FunOK Try.prog F.cuneiformlaw01_VarintSizes [.int .u64 a, .int .u64 b] [] fun av _ => av = .bool true := by
  refine fun_V 100 cuneiformlaw01_VarintSizes_code rfl ?_
  have hmin : (if (b : Int) < (a : Int) then (b : Int) else (a : Int)) = ((min a b : Nat) : Int) := by split <;> omega
  have hmax : (if (b : Int) > (a : Int) then (b : Int) else (a : Int)) = ((max a b : Nat) : Int) := by split <;> omega
  have hm : max a b < 18446744073709551616 := by omega
  simp (disch := omega) only [V, GoK, ResK, BranchK, LeaveK, JumpK, DResK, DGoK, DAtK, Sem', argRegs, evalOp, wants, geto, rget, rput, prune, List.map, ↓reduceIte, Nat.reduceEqDiff, binA, unA, aexitTo, true_and, and_true, and_self, decide_eq_true, decide_eq_false, and_left, IntKind.bits, Int.reduceToNat, Nat.min_eq_left, Nat.min_eq_right, fdiv_pow, Int.reducePow, Int.toNat_natCast, Nat.mul_one, Bool.not_eq_eq_eq_not, decide_true, decide_false, Nat.zero_lt_one, logAdd, List.any_nil, recheck, isPure, List.nil_append, beq_true, beq_false, resOne, Int.fdiv_eq_ediv_of_nonneg, beq_self_eq_true, Bool.not_true, Bool.not_false, wrap_i64, wrap_u64, wrap_u32, wrap_u16, wrap_i32, wrap_u8, slen_nils, slen_slc, slen_imm, resA, pack, reduceCtorEq, Bool.false_eq_true, isEff, List.getElem?_cons_zero, List.getElem?_cons_succ, fillParts, AVal.cells, fillAt, List.all, AVal.cellish, List.length_cons, List.length_nil, Bool.and_self, Bool.and_true, Bool.true_and, List.set_cons_zero, List.set_cons_succ, Nat.zero_add, Nat.le_refl, Nat.reduceAdd, Nat.reduceLeDiff, Nat.reduceMul, List.getD_cons_zero, List.getD_cons_succ, cuneiformlaw01_VarintSizes, cuneiformlaw01_VarintSizes.body, hmin, hmax, Bool.false_eq_true, if_false, if_true]
  refine callK_fn (size_ok _ _ hm _ ?_)
  refine runL_V 100 ?_
  simp (disch := omega) only [V, GoK, ResK, BranchK, LeaveK, JumpK, DResK, DGoK, DAtK, Sem', argRegs, evalOp, wants, geto, rget, rput, prune, List.map, ↓reduceIte, Nat.reduceEqDiff, binA, unA, aexitTo, true_and, and_true, and_self, decide_eq_true, decide_eq_false, and_left, IntKind.bits, Int.reduceToNat, Nat.min_eq_left, Nat.min_eq_right, fdiv_pow, Int.reducePow, Int.toNat_natCast, Nat.mul_one, Bool.not_eq_eq_eq_not, decide_true, decide_false, Nat.zero_lt_one, logAdd, List.any_nil, recheck, isPure, List.nil_append, beq_true, beq_false, resOne, Int.fdiv_eq_ediv_of_nonneg, beq_self_eq_true, Bool.not_true, Bool.not_false, wrap_i64, wrap_u64, wrap_u32, wrap_u16, wrap_i32, wrap_u8, slen_nils, slen_slc, slen_imm, resA, pack, reduceCtorEq, Bool.false_eq_true, isEff, List.getElem?_cons_zero, List.getElem?_cons_succ, fillParts, AVal.cells, fillAt, List.all, AVal.cellish, List.length_cons, List.length_nil, Bool.and_self, Bool.and_true, Bool.true_and, List.set_cons_zero, List.set_cons_succ, Nat.zero_add, Nat.le_refl, Nat.reduceAdd, Nat.reduceLeDiff, Nat.reduceMul, List.getD_cons_zero, List.getD_cons_succ]
  refine callK_fn (known_ok _ _ ?_)
  intro H1 k1
  refine runL_V 100 ?_
  simp (disch := omega) only [V, GoK, ResK, BranchK, LeaveK, JumpK, DResK, DGoK, DAtK, Sem', argRegs, evalOp, wants, geto, rget, rput, prune, List.map, ↓reduceIte, Nat.reduceEqDiff, binA, unA, aexitTo, true_and, and_true, and_self, decide_eq_true, decide_eq_false, and_left, IntKind.bits, Int.reduceToNat, Nat.min_eq_left, Nat.min_eq_right, fdiv_pow, Int.reducePow, Int.toNat_natCast, Nat.mul_one, Bool.not_eq_eq_eq_not, decide_true, decide_false, Nat.zero_lt_one, logAdd, List.any_nil, recheck, isPure, List.nil_append, beq_true, beq_false, resOne, Int.fdiv_eq_ediv_of_nonneg, beq_self_eq_true, Bool.not_true, Bool.not_false, wrap_i64, wrap_u64, wrap_u32, wrap_u16, wrap_i32, wrap_u8, slen_nils, slen_slc, slen_imm, resA, pack, reduceCtorEq, Bool.false_eq_true, isEff, List.getElem?_cons_zero, List.getElem?_cons_succ, fillParts, AVal.cells, fillAt, List.all, AVal.cellish, List.length_cons, List.length_nil, Bool.and_self, Bool.and_true, Bool.true_and, List.set_cons_zero, List.set_cons_succ, Nat.zero_add, Nat.le_refl, Nat.reduceAdd, Nat.reduceLeDiff, Nat.reduceMul, List.getD_cons_zero, List.getD_cons_succ]
  refine callK_fn (size_ok _ _ (by omega) _ ?_)
  have s1 := sizeOf_mono (min a b) (max a b) (by omega)
  have s2 := sizeOf_pos (max a b)
  have s3 := sizeOf_le10 hm
  obtain ⟨s4, s5⟩ := sizeOf_bound (max a b)
  generalize max a b = c at *
  generalize sizeOf c = k at *
  generalize min a b = d at *
  generalize sizeOf d = e at *
  have hk : k = 1 ∨ k = 2 ∨ k = 3 ∨ k = 4 ∨ k = 5 ∨ k = 6 ∨ k = 7 ∨ k = 8 ∨ k = 9 ∨ k = 10 := by omega
  have hki : ∃ x : Int, (k : Int) = x := ⟨_, rfl⟩
  obtain ⟨x, hx⟩ := hki
  rw [hx]
  rcases hk with rfl | rfl | rfl | rfl | rfl | rfl | rfl | rfl | rfl | rfl
  all_goals
    simp at s4 s5 hx
    subst hx
    repeat (first | refine runL_V 15 ?_; simp (disch := omega) only [V, GoK, ResK, BranchK, LeaveK, JumpK, DResK, DGoK, DAtK, Sem', argRegs, evalOp, wants, geto, rget, rput, prune, List.map, ↓reduceIte, Nat.reduceEqDiff, binA, unA, aexitTo, true_and, and_true, and_self, decide_eq_true, decide_eq_false, and_left, IntKind.bits, Int.reduceToNat, Nat.min_eq_left, Nat.min_eq_right, fdiv_pow, Int.reducePow, Int.toNat_natCast, Nat.mul_one, Bool.not_eq_eq_eq_not, decide_true, decide_false, Nat.zero_lt_one, logAdd, List.any_nil, recheck, isPure, List.nil_append, beq_true, beq_false, resOne, Int.fdiv_eq_ediv_of_nonneg, beq_self_eq_true, Bool.not_true, Bool.not_false, wrap_i64, wrap_u64, wrap_u32, wrap_u16, wrap_i32, wrap_u8, slen_nils, slen_slc, slen_imm, resA, pack, reduceCtorEq, Bool.false_eq_true, isEff, List.getElem?_cons_zero, List.getElem?_cons_succ, fillParts, AVal.cells, fillAt, List.all, AVal.cellish, List.length_cons, List.length_nil, Bool.and_self, Bool.and_true, Bool.true_and, List.set_cons_zero, List.set_cons_succ, Nat.zero_add, Nat.le_refl, Nat.reduceAdd, Nat.reduceLeDiff, Nat.reduceMul, List.getD_cons_zero, List.getD_cons_succ, Int.reduceMul, Int.reduceSub, Int.reduceEq, Int.one_mul] | refine run_V 15 ?_; simp (disch := omega) only [V, GoK, ResK, BranchK, LeaveK, JumpK, DResK, DGoK, DAtK, Sem', argRegs, evalOp, wants, geto, rget, rput, prune, List.map, ↓reduceIte, Nat.reduceEqDiff, binA, unA, aexitTo, true_and, and_true, and_self, decide_eq_true, decide_eq_false, and_left, IntKind.bits, Int.reduceToNat, Nat.min_eq_left, Nat.min_eq_right, fdiv_pow, Int.reducePow, Int.toNat_natCast, Nat.mul_one, Bool.not_eq_eq_eq_not, decide_true, decide_false, Nat.zero_lt_one, logAdd, List.any_nil, recheck, isPure, List.nil_append, beq_true, beq_false, resOne, Int.fdiv_eq_ediv_of_nonneg, beq_self_eq_true, Bool.not_true, Bool.not_false, wrap_i64, wrap_u64, wrap_u32, wrap_u16, wrap_i32, wrap_u8, slen_nils, slen_slc, slen_imm, resA, pack, reduceCtorEq, Bool.false_eq_true, isEff, List.getElem?_cons_zero, List.getElem?_cons_succ, fillParts, AVal.cells, fillAt, List.all, AVal.cellish, List.length_cons, List.length_nil, Bool.and_self, Bool.and_true, Bool.true_and, List.set_cons_zero, List.set_cons_succ, Nat.zero_add, Nat.le_refl, Nat.reduceAdd, Nat.reduceLeDiff, Nat.reduceMul, List.getD_cons_zero, List.getD_cons_succ, Int.reduceMul, Int.reduceSub, Int.reduceEq, Int.one_mul])
end Go.Proofs.Ytdlhdaimjimmkaa

namespace Go.Proofs.Ytdlhdaimjimmkaa.varintSizes
open Go Go.Am Go.ChangeShapes Go.WideShapes Go.ChangeAt Go.RowKit

theorem own : ownKnob Try.prog.godebug = none := by kernel_rfl
theorem laidOut : laidOutB Try.prog = true := by kernel_rfl

set_option maxRecDepth 100000 in
theorem lifted (os : Os) (started : os.Started) (H : Type) (enc : TypeId × Value → H) :
    ReturnsInHanded {} Try.checked os F.cuneiformlaw01_VarintSizes .any (Rows.varintSizesSpec.pre6 enc Try.prog Try.f4 Rows.varintSizesRow.domain false) (Rows.varintSizesSpec.post enc Try.prog Try.f4 false true false false) := by
  refine returnsInHanded_of_change (C := Try.checked) own started (by kernel_rfl) Try.func4
    (ChangeSpec.witness6 (enc := enc) (C := Try.checked) false ⟨#[], #[.int .u64 0, .int .u64 0], []⟩ 8 (by kernel_rfl) (by kernel_rfl) (by kernel_rfl) (by kernel_rfl)) ?_
  intro W base args ds gs before hval hW hcnd _
  refine law_calls (shs := [.int .u64, .int .u64]) (tb := 4) laidOut (by kernel_rfl) ?_ (by kernel_rfl) Try.underlying4 rfl ?_ ?_ hval hW
  · intro t ht
    have : ∀ t ∈ Try.f4.params.toList, (Try.prog.readableRec t && decide (t < Try.prog.types.size)) = true := List.all_eq_true.1 (by kernel_rfl)
    simpa using this t ht
  · intro H ds hd
    match ds, hd with
    | [d1, d2], _ => exact ⟨rfl, rfl, rfl⟩
  · rintro xs ⟨a, r, rfl, ⟨n, ha, hn⟩, b, r', rfl, ⟨m, hb, hm⟩, rfl⟩
    cases ha; cases hb
    have hn := Go.bounds_u64 hn
    have hm := Go.bounds_u64 hm
    obtain ⟨n, rfl⟩ : ∃ k : Nat, n = k := ⟨n.toNat, by omega⟩
    obtain ⟨m, rfl⟩ : ∃ k : Nat, m = k := ⟨m.toNat, by omega⟩
    exact sizes_ok n m (by omega) (by omega)

theorem proved : Rows.VarintSizesSaid :=
  OpenClaim.holds_of_wide F.cuneiformlaw01_VarintSizes Try.f4 rfl rfl rfl rfl rfl rfl rfl ⟨rfl, rfl, rfl, rfl, rfl⟩ rfl rfl rfl rfl rfl (by kernel_rfl) Try.func4 (by kernel_rfl)
    (of_decide_eq_true (by kernel_rfl)) (by unfold Func.isWrapper; first | (rw [if_pos (by decide +kernel)]; kernel_rfl) | (rw [if_neg (by decide +kernel)]; exact ⟨rfl, rfl⟩))
    (fun os started H enc _ => lifted os started H enc)
end Go.Proofs.Ytdlhdaimjimmkaa.varintSizes
