/-
  VarintGetsSaid: whatever the bytes, the law VarintGets returns true, and the input reads as it did. No condition. By an AI agent. No person has read it.
-/
import Derived.Test.YtdlhdaimjimmkaaVarint
import Derived.Test.YtdlhdaimjimmkaaAm4
import Derived.OpenShut
import Derived.Test.YtdlhdaimjimmkaaRows

namespace Go.Proofs.Ytdlhdaimjimmkaa
open Go Go.Am
set_option linter.unusedSimpArgs false
set_option linter.unusedVariables false

def Canon : List Nat → Prop
  | [] => False
  | [b] => b < 128
  | b :: c :: rest => 128 ≤ b ∧ b < 256 ∧ val (c :: rest) ≠ 0 ∧ Canon (c :: rest)

theorem putOne_val : ∀ (d : List Nat), Canon d → putOne (val d) = d
  | [], h => h.elim
  | [b], h => by
    simp only [Canon] at h
    have : val [b] = b := by simp only [val]; omega
    rw [this, putOne_lt h]
  | b :: c :: rest, h => by
    obtain ⟨h1, h2, h3, h4⟩ := h
    have hv : val (b :: c :: rest) = b % 128 + 128 * val (c :: rest) := rfl
    rw [hv, putOne_ge (by omega), show (b % 128 + 128 * val (c :: rest)) % 128 + 128 = b by omega, show (b % 128 + 128 * val (c :: rest)) / 128 = val (c :: rest) by omega, putOne_val _ h4]

theorem val_pos {d : List Nat} {j : Nat} (hj : j < d.length) (h : d.getD j 0 % 128 ≠ 0) : val d ≠ 0 := by
  have h1 := val_ge d j
  have h2 := val_drop d j hj
  omega

theorem canon_lead : ∀ (f : Nat) (bs : List Nat), (∀ b ∈ bs, b < 256) → lead f bs ≠ f → lead f bs < bs.length → (0 < lead f bs → bs.getD (lead f bs) 0 ≠ 0) → Canon (bs.take (lead f bs + 1))
  | 0, bs, _, h, _, _ => by simp [lead] at h
  | f + 1, [], _, _, h, _ => by simp [lead] at h
  | f + 1, b :: bs, hb, h1, h2, h3 => by
    by_cases hc : 128 ≤ b
    · simp only [lead, if_pos hc] at h1 h2 h3 ⊢
      simp only [List.length_cons] at h2
      have hlt : lead f bs < bs.length := by omega
      have h3' := h3 (by omega)
      rw [Nat.add_comm 1, List.getD_cons_succ] at h3'
      have ih := canon_lead f bs (fun x hx => hb x (by simp [hx])) (by omega) hlt (fun _ => h3')
      rw [show 1 + lead f bs + 1 = (lead f bs + 1) + 1 by omega, List.take_succ_cons]
      have hlen : (bs.take (lead f bs + 1)).length = lead f bs + 1 := by simp; omega
      have hlast := lead_last f bs (by omega) hlt
      have hval : val (bs.take (lead f bs + 1)) ≠ 0 := by
        refine val_pos (j := lead f bs) (by omega) ?_
        have : (bs.take (lead f bs + 1)).getD (lead f bs) 0 = bs.getD (lead f bs) 0 := by
          simp [List.getD_eq_getElem?_getD, List.getElem?_take]
        rw [this]; omega
      cases htk : bs.take (lead f bs + 1) with
      | nil => rw [htk] at hlen; simp at hlen
      | cons c rest =>
        rw [htk] at ih hval
        exact ⟨hc, hb b (by simp), hval, ih⟩
    · simp only [lead, if_neg hc]
      simp only [Nat.zero_add, List.take_succ_cons, List.take_zero, Canon]
      omega

theorem get_facts {bs : List Nat} (hb : ∀ b ∈ bs, b < 256) (h : (getSpec bs).2.2 = 0) : (getSpec bs).2.1 ≤ bs.length ∧ (getSpec bs).1 < 18446744073709551616 ∧ putOne (getSpec bs).1 = bs.take (getSpec bs).2.1 := by
  rw [← rgetSpec_eq] at h ⊢
  unfold rgetSpec at h ⊢
  by_cases h1 : lead 10 bs = 10
  · rw [if_pos h1] at h; simp at h
  · rw [if_neg h1] at h ⊢
    by_cases h2 : bs.length ≤ lead 10 bs
    · rw [if_pos h2] at h; simp at h
    · rw [if_neg h2] at h ⊢
      by_cases h3 : 18446744073709551616 ≤ val (bs.take (lead 10 bs + 1))
      · rw [if_pos h3] at h; simp at h
      · rw [if_neg h3] at h ⊢
        by_cases h4 : 0 < lead 10 bs ∧ bs.getD (lead 10 bs) 0 = 0
        · rw [if_pos h4] at h; simp at h
        · rw [if_neg h4]
          refine ⟨by simp; omega, by simp; omega, ?_⟩
          exact putOne_val _ (canon_lead 10 bs hb h1 (by omega) (fun hp hz => h4 ⟨hp, hz⟩))

theorem gets_ok {a : AVal} {bs : List Nat} (ha : Nats .u8 [] a bs) (hb : ∀ b ∈ bs, b < 256) (hlen : bs.length ≤ 9223372036854775807) : FunOK Try.prog F.cuneiformlaw01_VarintGets [a] [] fun av _ => av = .bool true := by
  refine fun_V 30 cuneiformlaw01_VarintGets_code rfl ?_
  have hmin : (if (20 : Int) < (bs.length : Int) then (20 : Int) else (bs.length : Int)) = ((min bs.length 20 : Nat) : Int) := by split <;> omega
  obtain ⟨p, v, e1, hp, hv⟩ := ha.slice none (some ((min bs.length 20 : Nat) : Int)) (l := 0) (r := min bs.length 20) rfl rfl (by omega) (by omega)
  simp (disch := omega) only [V, GoK, ResK, BranchK, LeaveK, JumpK, DResK, DGoK, DAtK, Sem', argRegs, evalOp, wants, geto, rget, rput, prune, List.map, ↓reduceIte, Nat.reduceEqDiff, binA, unA, aexitTo, true_and, and_true, and_self, decide_eq_true, decide_eq_false, and_left, IntKind.bits, Int.reduceToNat, Nat.min_eq_left, Nat.min_eq_right, fdiv_pow, Int.reducePow, Int.toNat_natCast, Nat.mul_one, Bool.not_eq_eq_eq_not, decide_true, decide_false, Nat.zero_lt_one, logAdd, List.any_nil, recheck, isPure, List.nil_append, beq_true, beq_false, resOne, Int.fdiv_eq_ediv_of_nonneg, beq_self_eq_true, Bool.not_true, Bool.not_false, wrap_i64, wrap_u64, wrap_u32, wrap_u16, wrap_i32, wrap_u8, slen_nils, slen_slc, slen_imm, resA, pack, reduceCtorEq, Bool.false_eq_true, isEff, List.getElem?_cons_zero, List.getElem?_cons_succ, fillParts, AVal.cells, fillAt, List.all, AVal.cellish, List.length_cons, List.length_nil, Bool.and_self, Bool.and_true, Bool.true_and, List.set_cons_zero, List.set_cons_succ, Nat.zero_add, Nat.le_refl, Nat.reduceAdd, Nat.reduceLeDiff, Nat.reduceMul, List.getD_cons_zero, List.getD_cons_succ, opdInt, cuneiformlaw01_VarintGets, cuneiformlaw01_VarintGets.body, ha.len, hmin, e1, hp, Bool.false_eq_true, if_false]
  simp only [List.drop_zero, Nat.sub_zero] at hv
  have hb' : ∀ b ∈ bs.take (min bs.length 20), b < 256 := fun b h => hb b (List.mem_of_mem_take h)
  have hl' : (bs.take (min bs.length 20)).length ≤ 20 := by simp; omega
  generalize bs.take (min bs.length 20) = cs at *
  refine callK_fn (get_ok _ hv hb' (by omega) _ ?_)
  refine runL_V 30 ?_
  simp (disch := omega) only [V, GoK, ResK, BranchK, LeaveK, JumpK, DResK, DGoK, DAtK, Sem', argRegs, evalOp, wants, geto, rget, rput, prune, List.map, ↓reduceIte, Nat.reduceEqDiff, binA, unA, aexitTo, true_and, and_true, and_self, decide_eq_true, decide_eq_false, and_left, IntKind.bits, Int.reduceToNat, Nat.min_eq_left, Nat.min_eq_right, fdiv_pow, Int.reducePow, Int.toNat_natCast, Nat.mul_one, Bool.not_eq_eq_eq_not, decide_true, decide_false, Nat.zero_lt_one, logAdd, List.any_nil, recheck, isPure, List.nil_append, beq_true, beq_false, resOne, Int.fdiv_eq_ediv_of_nonneg, beq_self_eq_true, Bool.not_true, Bool.not_false, wrap_i64, wrap_u64, wrap_u32, wrap_u16, wrap_i32, wrap_u8, slen_nils, slen_slc, slen_imm, resA, pack, reduceCtorEq, Bool.false_eq_true, isEff, List.getElem?_cons_zero, List.getElem?_cons_succ, fillParts, AVal.cells, fillAt, List.all, AVal.cellish, List.length_cons, List.length_nil, Bool.and_self, Bool.and_true, Bool.true_and, List.set_cons_zero, List.set_cons_succ, Nat.zero_add, Nat.le_refl, Nat.reduceAdd, Nat.reduceLeDiff, Nat.reduceMul, List.getD_cons_zero, List.getD_cons_succ, opdInt, got]
  refine callK_fn (rget_ok _ (at_ := 0) hv hb' (by omega) (by omega) _ ?_)
  rw [List.drop_zero, Nat.zero_add]
  refine runL_V 30 ?_
  simp (disch := omega) only [V, GoK, ResK, BranchK, LeaveK, JumpK, DResK, DGoK, DAtK, Sem', argRegs, evalOp, wants, geto, rget, rput, prune, List.map, ↓reduceIte, Nat.reduceEqDiff, binA, unA, aexitTo, true_and, and_true, and_self, decide_eq_true, decide_eq_false, and_left, IntKind.bits, Int.reduceToNat, Nat.min_eq_left, Nat.min_eq_right, fdiv_pow, Int.reducePow, Int.toNat_natCast, Nat.mul_one, Bool.not_eq_eq_eq_not, decide_true, decide_false, Nat.zero_lt_one, logAdd, List.any_nil, recheck, isPure, List.nil_append, beq_true, beq_false, resOne, Int.fdiv_eq_ediv_of_nonneg, beq_self_eq_true, Bool.not_true, Bool.not_false, wrap_i64, wrap_u64, wrap_u32, wrap_u16, wrap_i32, wrap_u8, slen_nils, slen_slc, slen_imm, resA, pack, reduceCtorEq, Bool.false_eq_true, isEff, List.getElem?_cons_zero, List.getElem?_cons_succ, fillParts, AVal.cells, fillAt, List.all, AVal.cellish, List.length_cons, List.length_nil, Bool.and_self, Bool.and_true, Bool.true_and, List.set_cons_zero, List.set_cons_succ, Nat.zero_add, Nat.le_refl, Nat.reduceAdd, Nat.reduceLeDiff, Nat.reduceMul, List.getD_cons_zero, List.getD_cons_succ, opdInt, cuneiformlaw01_VarintGets.d0]
  refine callD_fn (known_ok _ _ ?_)
  intro H1 k1
  refine ⟨by simp only [recheck], ?_⟩
  have hv := hv.keep k1
  by_cases he : (getSpec cs).2.2 = 0
  · have he' : (((getSpec cs).2.2 : Nat) : Int) = 0 := by omega
    obtain ⟨f1, f2, f3⟩ := get_facts hb' he
    obtain ⟨p2, v2, e2, hp2, hv2⟩ := hv.slice none (some (((getSpec cs).2.1 : Nat) : Int)) (l := 0) (r := (getSpec cs).2.1) rfl rfl (by omega) f1
    simp only [List.drop_zero, Nat.sub_zero] at hv2
    rw [← f3] at hv2
    generalize (getSpec cs).1 = n at *
    generalize (getSpec cs).2.1 = k at *
    refine runD_V 30 ?_
    simp (disch := omega) only [V, GoK, ResK, BranchK, LeaveK, JumpK, DResK, DGoK, DAtK, Sem', argRegs, evalOp, wants, geto, rget, rput, prune, List.map, ↓reduceIte, Nat.reduceEqDiff, binA, unA, aexitTo, true_and, and_true, and_self, decide_eq_true, decide_eq_false, and_left, IntKind.bits, Int.reduceToNat, Nat.min_eq_left, Nat.min_eq_right, fdiv_pow, Int.reducePow, Int.toNat_natCast, Nat.mul_one, Bool.not_eq_eq_eq_not, decide_true, decide_false, Nat.zero_lt_one, logAdd, List.any_nil, recheck, isPure, List.nil_append, beq_true, beq_false, resOne, Int.fdiv_eq_ediv_of_nonneg, beq_self_eq_true, Bool.not_true, Bool.not_false, wrap_i64, wrap_u64, wrap_u32, wrap_u16, wrap_i32, wrap_u8, slen_nils, slen_slc, slen_imm, resA, pack, reduceCtorEq, Bool.false_eq_true, isEff, List.getElem?_cons_zero, List.getElem?_cons_succ, fillParts, AVal.cells, fillAt, List.all, AVal.cellish, List.length_cons, List.length_nil, Bool.and_self, Bool.and_true, Bool.true_and, List.set_cons_zero, List.set_cons_succ, Nat.zero_add, Nat.le_refl, Nat.reduceAdd, Nat.reduceLeDiff, Nat.reduceMul, List.getD_cons_zero, List.getD_cons_succ, opdInt, cuneiformlaw01_VarintGets.d0, he', e2, hp2]
    refine callD_fn (put_ok _ (nats_one (k := .u64) (n := n)) (by simp; omega) (by simp) _ ?_)
    intro a2 H2 m2 k2
    refine ⟨by simp only [recheck], ?_⟩
    refine runD_V 30 ?_
    simp (disch := omega) only [V, GoK, ResK, BranchK, LeaveK, JumpK, DResK, DGoK, DAtK, Sem', argRegs, evalOp, wants, geto, rget, rput, prune, List.map, ↓reduceIte, Nat.reduceEqDiff, binA, unA, aexitTo, true_and, and_true, and_self, decide_eq_true, decide_eq_false, and_left, IntKind.bits, Int.reduceToNat, Nat.min_eq_left, Nat.min_eq_right, fdiv_pow, Int.reducePow, Int.toNat_natCast, Nat.mul_one, Bool.not_eq_eq_eq_not, decide_true, decide_false, Nat.zero_lt_one, logAdd, List.any_nil, recheck, isPure, List.nil_append, beq_true, beq_false, resOne, Int.fdiv_eq_ediv_of_nonneg, beq_self_eq_true, Bool.not_true, Bool.not_false, wrap_i64, wrap_u64, wrap_u32, wrap_u16, wrap_i32, wrap_u8, slen_nils, slen_slc, slen_imm, resA, pack, reduceCtorEq, Bool.false_eq_true, isEff, List.getElem?_cons_zero, List.getElem?_cons_succ, fillParts, AVal.cells, fillAt, List.all, AVal.cellish, List.length_cons, List.length_nil, Bool.and_self, Bool.and_true, Bool.true_and, List.set_cons_zero, List.set_cons_succ, Nat.zero_add, Nat.le_refl, Nat.reduceAdd, Nat.reduceLeDiff, Nat.reduceMul, List.getD_cons_zero, List.getD_cons_succ, opdInt]
    refine callD_fn (same_ok _ m2.nats (hv2.keep (((Keeps.refl _).push _).trans k2)) ?_ _ ?_)
    · rw [putAll]; simp [putOne_length]; have := sizeOf_le10 f2; omega
    refine ⟨by simp only [recheck], ?_⟩
    refine runD_V 30 ?_
    have hpp : (putAll [n] = putOne n) = True := by simp [putAll]
    simp (disch := omega) only [V, GoK, ResK, BranchK, LeaveK, JumpK, DResK, DGoK, DAtK, Sem', argRegs, evalOp, wants, geto, rget, rput, prune, List.map, ↓reduceIte, Nat.reduceEqDiff, binA, unA, aexitTo, true_and, and_true, and_self, decide_eq_true, decide_eq_false, and_left, IntKind.bits, Int.reduceToNat, Nat.min_eq_left, Nat.min_eq_right, fdiv_pow, Int.reducePow, Int.toNat_natCast, Nat.mul_one, Bool.not_eq_eq_eq_not, decide_true, decide_false, Nat.zero_lt_one, logAdd, List.any_nil, recheck, isPure, List.nil_append, beq_true, beq_false, resOne, Int.fdiv_eq_ediv_of_nonneg, beq_self_eq_true, Bool.not_true, Bool.not_false, wrap_i64, wrap_u64, wrap_u32, wrap_u16, wrap_i32, wrap_u8, slen_nils, slen_slc, slen_imm, resA, pack, reduceCtorEq, Bool.false_eq_true, isEff, List.getElem?_cons_zero, List.getElem?_cons_succ, fillParts, AVal.cells, fillAt, List.all, AVal.cellish, List.length_cons, List.length_nil, Bool.and_self, Bool.and_true, Bool.true_and, List.set_cons_zero, List.set_cons_succ, Nat.zero_add, Nat.le_refl, Nat.reduceAdd, Nat.reduceLeDiff, Nat.reduceMul, List.getD_cons_zero, List.getD_cons_succ, opdInt, hpp]
  · have he' : (((getSpec cs).2.2 : Nat) : Int) ≠ 0 := by omega
    refine runD_V 40 ?_
    simp (disch := omega) only [V, GoK, ResK, BranchK, LeaveK, JumpK, DResK, DGoK, DAtK, Sem', argRegs, evalOp, wants, geto, rget, rput, prune, List.map, ↓reduceIte, Nat.reduceEqDiff, binA, unA, aexitTo, true_and, and_true, and_self, decide_eq_true, decide_eq_false, and_left, IntKind.bits, Int.reduceToNat, Nat.min_eq_left, Nat.min_eq_right, fdiv_pow, Int.reducePow, Int.toNat_natCast, Nat.mul_one, Bool.not_eq_eq_eq_not, decide_true, decide_false, Nat.zero_lt_one, logAdd, List.any_nil, recheck, isPure, List.nil_append, beq_true, beq_false, resOne, Int.fdiv_eq_ediv_of_nonneg, beq_self_eq_true, Bool.not_true, Bool.not_false, wrap_i64, wrap_u64, wrap_u32, wrap_u16, wrap_i32, wrap_u8, slen_nils, slen_slc, slen_imm, resA, pack, reduceCtorEq, Bool.false_eq_true, isEff, List.getElem?_cons_zero, List.getElem?_cons_succ, fillParts, AVal.cells, fillAt, List.all, AVal.cellish, List.length_cons, List.length_nil, Bool.and_self, Bool.and_true, Bool.true_and, List.set_cons_zero, List.set_cons_succ, Nat.zero_add, Nat.le_refl, Nat.reduceAdd, Nat.reduceLeDiff, Nat.reduceMul, List.getD_cons_zero, List.getD_cons_succ, opdInt, cuneiformlaw01_VarintGets.d0, he', if_false]
end Go.Proofs.Ytdlhdaimjimmkaa

namespace Go.Proofs.Ytdlhdaimjimmkaa.varintGets
open Go Go.Am Go.ChangeShapes Go.WideShapes Go.ChangeAt Go.RowKit
set_option linter.unusedVariables false

theorem own : ownKnob Try.prog.godebug = none := by kernel_rfl
theorem laidOut : laidOutB Try.prog = true := by kernel_rfl

set_option maxRecDepth 100000 in
theorem lifted (os : Os) (started : os.Started) (H : Type) (enc : TypeId × Value → H) :
    ReturnsInHanded {} Try.checked os F.cuneiformlaw01_VarintGets .any (Rows.varintGetsSpec.pre6 enc Try.prog Try.f3 Rows.varintGetsRow.domain false) (Rows.varintGetsSpec.post enc Try.prog Try.f3 false true false false) := by
  refine returnsInHanded_of_change (C := Try.checked) own started (by kernel_rfl) Try.func3
    (ChangeSpec.witness6 (enc := enc) (C := Try.checked) false ⟨#[], #[.slice none 0 0], []⟩ 8 (by kernel_rfl) (by kernel_rfl) (by kernel_rfl) (by kernel_rfl)) ?_
  intro W base args ds gs before hval hW hcnd _
  refine law_calls (shs := [.slice (.int .u8)]) (tb := 4) laidOut (by kernel_rfl) ?_ (by kernel_rfl) Try.underlying4 rfl ?_ ?_ hval hW
  · intro t ht
    have : ∀ t ∈ Try.f3.params.toList, (Try.prog.readableRec t && decide (t < Try.prog.types.size)) = true := List.all_eq_true.1 (by kernel_rfl)
    simpa using this t ht
  · intro H ds hd
    match ds, hd with
    | [d0], _ => exact ⟨rfl, rfl, rfl⟩
  · rintro xs ⟨a, r, rfl, ha, rfl⟩
    obtain ⟨bs, h1, h2, h3⟩ := nats_of_fits rfl ha
    exact gets_ok h1 (fun b hb => by have := bounds_u8 (h2 b hb); omega) h3

theorem proved : Rows.VarintGetsSaid :=
  OpenClaim.holds_of_wide F.cuneiformlaw01_VarintGets Try.f3 rfl rfl rfl rfl rfl rfl rfl ⟨rfl, rfl, rfl, rfl, rfl⟩ rfl rfl rfl rfl rfl (by kernel_rfl) Try.func3 (by kernel_rfl)
    (of_decide_eq_true (by kernel_rfl)) (by unfold Func.isWrapper; first | (rw [if_pos (by decide +kernel)]; kernel_rfl) | (rw [if_neg (by decide +kernel)]; exact ⟨rfl, rfl⟩))
    (fun os started H enc _ => lifted os started H enc)
end Go.Proofs.Ytdlhdaimjimmkaa.varintGets
