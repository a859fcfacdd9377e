/-
  CutRoomsSaid: whatever the head, the bytes and the two rooms, the law CutRooms returns true, and the input reads as it did. No condition. By an AI agent. No person has read it.
-/
import Derived.Test.YtncipoapdpenfaaREF
import Derived.Test.YtncipoapdpenfaaAm6
import Derived.OpenShut
import Derived.Test.YtncipoapdpenfaaRows

namespace Go.Proofs.Ytncipoapdpenfaa
open Go Go.Am
set_option linter.unusedSimpArgs false
set_option linter.unusedVariables false

theorem room_of (x : Int) (hx : -9223372036854775808 ≤ x ∧ x < 9223372036854775808) : ∃ r : Nat, IntKind.i64.wrap (1 + IntKind.i64.wrap ((IntKind.u64.wrap x).tmod 242)) = (r : Int) ∧ 1 ≤ r ∧ r ≤ 242 := by
  have h0 : 0 ≤ IntKind.u64.wrap x := by rw [wrap_u64']; omega
  rw [Int.tmod_eq_emod_of_nonneg h0]
  generalize IntKind.u64.wrap x = u at *
  refine ⟨(1 + u % 242).toNat, ?_, by omega, by omega⟩
  rw [wrap_i64 (x := u % 242) (by omega), wrap_i64 (by omega)]; omega

theorem if_min (a b : Nat) : (if (b : Int) < (a : Int) then (b : Int) else (a : Int)) = ((min a b : Nat) : Int) := by split <;> omega
theorem if_max (a b : Nat) : (if (a : Int) < (b : Int) then (b : Int) else (a : Int)) = ((max a b : Nat) : Int) := by split <;> omega

theorem frameErr_rooms {h : Hd} {ys : List Nat} {a b : Nat} (ha : 1 ≤ a ∧ a ≤ 242) (hb : 1 ≤ b ∧ b ≤ 242) (hl : ys.length ≤ 192) : frameErr h ys (a : Int) = frameErr h ys (b : Int) := by
  unfold frameErr
  by_cases h0 : ys.length = 0
  · rw [if_pos h0, if_pos h0]
  · rw [if_neg h0, if_neg h0, if_neg (by omega), if_neg (by omega), if_neg (by omega), if_neg (by omega), Int.toNat_natCast, Int.toNat_natCast]
    have key : ∀ c : Nat, 1 ≤ c → c ≤ 255 → checkOf (hdAt h 0 (c : Nat)) = checkOf (hdAt h 0 1) := fun c h1 h2 => by
      have b0 : bads (hdAt h 0 (c : Nat)) 0 = bads (hdAt h 0 1) 0 := rfl
      have b1 : bads (hdAt h 0 (c : Nat)) 1 = bads (hdAt h 0 1) 1 := rfl
      have b2 : bads (hdAt h 0 (c : Nat)) 2 = bads (hdAt h 0 1) 2 := by
        show decide ((c : Int) < 1 ∨ 255 < (c : Int) ∨ (0 : Int) < 0 ∨ (c : Int) ≤ (0 : Int)) = decide ((1 : Int) < 1 ∨ 255 < (1 : Int) ∨ (0 : Int) < 0 ∨ (1 : Int) ≤ 0)
        exact decide_eq_decide.2 (by omega)
      unfold checkOf
      rw [b0, b1, b2]
    have c1 := cntP_pos (n := ys.length) (r := a) (by omega)
    have c2 := cntP_le (n := ys.length) (r := a) (by omega)
    have c3 := cntP_pos (n := ys.length) (r := b) (by omega)
    have c4 := cntP_le (n := ys.length) (r := b) (by omega)
    rw [key _ c1 (by omega), key _ c3 (by omega)]

theorem cutrooms_ok {h : Hd} {bs : List Nat} {x y : Int} (hx : -9223372036854775808 ≤ x ∧ x < 9223372036854775808) (hy : -9223372036854775808 ≤ y ∧ y < 9223372036854775808) :
    FunOK Try.prog F.cuneiformlaw12_CutRooms [.agg (encHd h), nums .u8 false bs, .int .i64 x, .int .i64 y] [] fun av _ => av = .bool true := by
  refine fun_V 100 cuneiformlaw12_CutRooms_code rfl ?_
  have min192 : ∀ n : Nat, (if 192 < (n : Int) then 192 else (n : Int)) = ((min n 192 : Nat) : Int) := fun n => by split <;> omega
  have hce : (encHd h).all AVal.cellish = true := rfl
  have hel : (encHd h).length = 5 := rfl
  have het : (encHd h).take 5 = encHd h := rfl
  obtain ⟨a, ea, ha⟩ := room_of x hx
  obtain ⟨b, eb, hb⟩ := room_of y hy
  have q1 : 0 ≤ IntKind.u64.wrap x ∧ IntKind.u64.wrap x < 18446744073709551616 := by rw [wrap_u64']; omega
  have q2 : 0 ≤ IntKind.u64.wrap y ∧ IntKind.u64.wrap y < 18446744073709551616 := by rw [wrap_u64']; omega
  have ea' : (1 + (IntKind.u64.wrap x).tmod 242) = (a : Int) := by
    rw [← ea, Int.tmod_eq_emod_of_nonneg q1.1, wrap_i64 (x := IntKind.u64.wrap x % 242) (by omega), wrap_i64 (by omega)]
  have eb' : (1 + (IntKind.u64.wrap y).tmod 242) = (b : Int) := by
    rw [← eb, Int.tmod_eq_emod_of_nonneg q2.1, wrap_i64 (x := IntKind.u64.wrap y % 242) (by omega), wrap_i64 (by omega)]
  simp (disch := first | omega | (simp only [List.length_append, List.length_cons, List.length_nil, List.length_set, List.length_map, List.length_take, List.length_drop]; omega)) only [stdh, goK_s2b, dgoK_s2b, isEff_s2b, isPure_s2b, goK_b2s, dgoK_b2s, isEff_b2s, isPure_b2s, evalOp_s2b, s2bR, goK_mark, dgoK_mark, isEff_mark, isPure_mark, evalOp_mark, markA_slc, markB, ↓reduceIte, Nat.reduceEqDiff, Int.reduceToNat, Int.reducePow, Nat.reduceAdd, Nat.reduceLeDiff, Nat.reduceMul, Nat.reduceBEq, reduceCtorEq, cuneiformlaw12_CutRooms, cuneiformlaw12_CutRooms.body, min192, hce, hel, het, ea, eb, ea', eb', if_min]
  have hzl : (bs.take (min bs.length 192)).length ≤ 192 := by rw [List.length_take]; omega
  generalize bs.take (min bs.length 192) = zs at *
  refine callK_fn (frames_ok _ h (by omega) (room := ((min a b : Nat) : Int)) (by omega) _ ?_)
  refine runL_V 60 ?_
  simp (disch := first | omega | (simp only [List.length_append, List.length_cons, List.length_nil, List.length_set, List.length_map, List.length_take, List.length_drop]; omega)) only [stdh, goK_s2b, dgoK_s2b, isEff_s2b, isPure_s2b, goK_b2s, dgoK_b2s, isEff_b2s, isPure_b2s, evalOp_s2b, s2bR, goK_mark, dgoK_mark, isEff_mark, isPure_mark, evalOp_mark, markA_slc, markB, ↓reduceIte, Nat.reduceEqDiff, Int.reduceToNat, Int.reducePow, Nat.reduceAdd, Nat.reduceLeDiff, Nat.reduceMul, Nat.reduceBEq, reduceCtorEq, hel, het, if_max]
  refine callK_fn (frames_ok _ h (by omega) (room := ((max a b : Nat) : Int)) (by omega) _ ?_)
  refine runL_V 60 ?_
  have hee : frameErr h zs ((max a b : Nat) : Int) = frameErr h zs ((min a b : Nat) : Int) := frameErr_rooms (by omega) (by omega) hzl
  rw [hee]
  by_cases he : frameErr h zs ((min a b : Nat) : Int) = 0
  · obtain ⟨hy, r, e1, hr, hr2, hfo⟩ := frameErr_zero he
    have er : min a b = r := by omega
    obtain ⟨_, r2, e2, hs, hs2, hfo2⟩ := frameErr_zero (hee.trans he)
    have er2 : max a b = r2 := by omega
    have hrs : r ≤ r2 := by omega
    rw [he, hfo, hfo2]
    have hfl : (framesN h zs r (cntP zs.length r)).flatMap Fr.b = zs := by rw [framesN_flat, partsP_whole hr]
    have hfl2 : (framesN h zs r2 (cntP zs.length r2)).flatMap Fr.b = zs := by rw [framesN_flat, partsP_whole hs]
    have hcl := cntP_le (n := zs.length) hr
    have hcl2 := cntP_le (n := zs.length) hs
    have hanti := cntP_anti (n := zs.length) hr hrs
    have hpos := cntP_pos (n := zs.length) (r := r2) hy
    simp (disch := first | omega | (simp only [List.length_append, List.length_cons, List.length_nil, List.length_set, List.length_map, List.length_take, List.length_drop]; omega)) only [stdh, goK_s2b, dgoK_s2b, isEff_s2b, isPure_s2b, goK_b2s, dgoK_b2s, isEff_b2s, isPure_b2s, evalOp_s2b, s2bR, goK_mark, dgoK_mark, isEff_mark, isPure_mark, evalOp_mark, markA_slc, markB, ↓reduceIte, Nat.reduceEqDiff, Int.reduceToNat, Int.reducePow, Nat.reduceAdd, Nat.reduceLeDiff, Nat.reduceMul, Nat.reduceBEq, reduceCtorEq]
    refine callK_fn (whole_ok _ frs_recs (by rw [hfl]; omega) (by rw [framesN_len]; omega) _ ?_)
    rw [whole_frames hr hy]
    refine runL_V 60 ?_
    simp (disch := first | omega | (simp only [List.length_append, List.length_cons, List.length_nil, List.length_set, List.length_map, List.length_take, List.length_drop]; omega)) only [stdh, goK_s2b, dgoK_s2b, isEff_s2b, isPure_s2b, goK_b2s, dgoK_b2s, isEff_b2s, isPure_b2s, evalOp_s2b, s2bR, goK_mark, dgoK_mark, isEff_mark, isPure_mark, evalOp_mark, markA_slc, markB, ↓reduceIte, Nat.reduceEqDiff, Int.reduceToNat, Int.reducePow, Nat.reduceAdd, Nat.reduceLeDiff, Nat.reduceMul, Nat.reduceBEq, reduceCtorEq]
    refine callK_fn (whole_ok _ frs_recs (by rw [hfl2]; omega) (by rw [framesN_len]; omega) _ ?_)
    rw [whole_frames hs hy]
    refine runL_V 60 ?_
    simp (disch := first | omega | (simp only [List.length_append, List.length_cons, List.length_nil, List.length_set, List.length_map, List.length_take, List.length_drop]; omega)) only [stdh, goK_s2b, dgoK_s2b, isEff_s2b, isPure_s2b, goK_b2s, dgoK_b2s, isEff_b2s, isPure_b2s, evalOp_s2b, s2bR, goK_mark, dgoK_mark, isEff_mark, isPure_mark, evalOp_mark, markA_slc, markB, ↓reduceIte, Nat.reduceEqDiff, Int.reduceToNat, Int.reducePow, Nat.reduceAdd, Nat.reduceLeDiff, Nat.reduceMul, Nat.reduceBEq, reduceCtorEq]
    refine callK_fn (known12_ok _ _ ?_)
    refine runL_V 60 ?_
    simp (disch := first | omega | (simp only [List.length_append, List.length_cons, List.length_nil, List.length_set, List.length_map, List.length_take, List.length_drop]; omega)) only [stdh, goK_s2b, dgoK_s2b, isEff_s2b, isPure_s2b, goK_b2s, dgoK_b2s, isEff_b2s, isPure_b2s, evalOp_s2b, s2bR, goK_mark, dgoK_mark, isEff_mark, isPure_mark, evalOp_mark, markA_slc, markB, ↓reduceIte, Nat.reduceEqDiff, Int.reduceToNat, Int.reducePow, Nat.reduceAdd, Nat.reduceLeDiff, Nat.reduceMul, Nat.reduceBEq, reduceCtorEq]
    refine callK_fn (same_ok _ (nums_nats _ _ _ _) (nums_nats _ _ _ _) (by omega) _ ?_)
    rw [show decide (zs = zs) = true by simp]
    refine runL_V 60 ?_
    simp (disch := first | omega | (simp only [List.length_append, List.length_cons, List.length_nil, List.length_set, List.length_map, List.length_take, List.length_drop]; omega)) only [stdh, goK_s2b, dgoK_s2b, isEff_s2b, isPure_s2b, goK_b2s, dgoK_b2s, isEff_b2s, isPure_b2s, evalOp_s2b, s2bR, goK_mark, dgoK_mark, isEff_mark, isPure_mark, evalOp_mark, markA_slc, markB, ↓reduceIte, Nat.reduceEqDiff, Int.reduceToNat, Int.reducePow, Nat.reduceAdd, Nat.reduceLeDiff, Nat.reduceMul, Nat.reduceBEq, reduceCtorEq]
    refine callK_fn (same_ok _ (nums_nats _ _ _ _) (nums_nats _ _ _ _) (by omega) _ ?_)
    rw [show decide (zs = zs) = true by simp]
    refine runL_V 60 ?_
    simp (disch := first | omega | (simp only [List.length_append, List.length_cons, List.length_nil, List.length_set, List.length_map, List.length_take, List.length_drop]; omega)) only [stdh, goK_s2b, dgoK_s2b, isEff_s2b, isPure_s2b, goK_b2s, dgoK_b2s, isEff_b2s, isPure_b2s, evalOp_s2b, s2bR, goK_mark, dgoK_mark, isEff_mark, isPure_mark, evalOp_mark, markA_slc, markB, ↓reduceIte, Nat.reduceEqDiff, Int.reduceToNat, Int.reducePow, Nat.reduceAdd, Nat.reduceLeDiff, Nat.reduceMul, Nat.reduceBEq, reduceCtorEq, framesN_len]
  · simp (disch := first | omega | (simp only [List.length_append, List.length_cons, List.length_nil, List.length_set, List.length_map, List.length_take, List.length_drop]; omega)) only [stdh, goK_s2b, dgoK_s2b, isEff_s2b, isPure_s2b, goK_b2s, dgoK_b2s, isEff_b2s, isPure_b2s, evalOp_s2b, s2bR, goK_mark, dgoK_mark, isEff_mark, isPure_mark, evalOp_mark, markA_slc, markB, ↓reduceIte, Nat.reduceEqDiff, Int.reduceToNat, Int.reducePow, Nat.reduceAdd, Nat.reduceLeDiff, Nat.reduceMul, Nat.reduceBEq, reduceCtorEq]
    refine callK_fn (known12_ok _ _ ?_)
    refine runL_V 60 ?_
    simp (disch := first | omega | (simp only [List.length_append, List.length_cons, List.length_nil, List.length_set, List.length_map, List.length_take, List.length_drop]; omega)) only [stdh, goK_s2b, dgoK_s2b, isEff_s2b, isPure_s2b, goK_b2s, dgoK_b2s, isEff_b2s, isPure_b2s, evalOp_s2b, s2bR, goK_mark, dgoK_mark, isEff_mark, isPure_mark, evalOp_mark, markA_slc, markB, ↓reduceIte, Nat.reduceEqDiff, Int.reduceToNat, Int.reducePow, Nat.reduceAdd, Nat.reduceLeDiff, Nat.reduceMul, Nat.reduceBEq, reduceCtorEq]
end Go.Proofs.Ytncipoapdpenfaa

namespace Go.Proofs.Ytncipoapdpenfaa.cutRooms
open Go Go.Am Go.ChangeShapes Go.WideShapes Go.ChangeAt Go.RowKit
set_option linter.unusedVariables false

theorem own : ownKnob Try.prog.godebug = none := by kernel_rfl
theorem laidOut : laidOutB Try.prog = true := by kernel_rfl

set_option maxRecDepth 100000 in
theorem lifted (os : Os) (started : os.Started) (H : Type) (enc : TypeId × Value → H) :
    ReturnsInHanded {} Try.checked os F.cuneiformlaw12_CutRooms .any (Rows.cutRoomsSpec.pre6 enc Try.prog Try.f5 Rows.cutRoomsRow.domain false) (Rows.cutRoomsSpec.post enc Try.prog Try.f5 false true false false) := by
  refine returnsInHanded_of_change (C := Try.checked) own started (by kernel_rfl) Try.func5
    (ChangeSpec.witness6 (enc := enc) (C := Try.checked) false ⟨#[], #[.agg #[.int .i64 0, .int .i64 0, .int .u32 0, .int .i64 0, .int .i64 0], .slice none 0 0, .int .i64 0, .int .i64 0], []⟩ 8 (by kernel_rfl) (by kernel_rfl) (by kernel_rfl) (by kernel_rfl)) ?_
  intro W base args ds gs before hval hW hcnd _
  refine law_calls (shs := [shHead, .slice (.int .u8), .int .i64, .int .i64]) (tb := 4) laidOut (by kernel_rfl) ?_ (by kernel_rfl) Try.underlying4 rfl ?_ ?_ hval hW
  · intro t ht
    have : ∀ t ∈ Try.f5.params.toList, (Try.prog.readableRec t && decide (t < Try.prog.types.size)) = true := List.all_eq_true.1 (by kernel_rfl)
    simpa using this t ht
  · intro H ds hd
    match ds, hd with
    | [d0, d1, d2, d3], _ => exact ⟨rfl, rfl, rfl⟩
  · rintro xs ⟨a, r, rfl, ⟨l, rfl, h1⟩, b, r', rfl, hb, c, r'', rfl, ⟨z, hz, wz⟩, d, r3, rfl, ⟨z2, hz2, wz2⟩, rfl⟩
    cases hz
    cases hz2
    obtain ⟨_, _, rfl, ⟨v, rfl, b1⟩, h1⟩ := h1
    obtain ⟨_, _, rfl, ⟨k, rfl, b2⟩, h1⟩ := h1
    obtain ⟨_, _, rfl, ⟨s, rfl, b3⟩, h1⟩ := h1
    obtain ⟨_, _, rfl, ⟨i, rfl, b4⟩, h1⟩ := h1
    obtain ⟨_, _, rfl, ⟨n, rfl, b5⟩, h1⟩ := h1
    have h1' : _ = ([] : List AVal) := h1
    subst h1'
    obtain ⟨bs, q1, q2, q3⟩ := nums_fits (k := .u8) rfl hb
    have bnd : ∀ z : Int, (Lit.int .i64 z).wf = true → -9223372036854775808 ≤ z ∧ z < 9223372036854775808 := fun z wz => by
      simp only [Lit.wf, Bool.and_eq_true, decide_eq_true_eq, IntKind.min, IntKind.max, IntKind.signed, IntKind.bits] at wz
      simp at wz
      omega
    exact fun_sees (.cons (.refl _) (.cons q1 (.cons (.refl _) (.cons (.refl _) .nil)))) (cutrooms_ok (h := ⟨v, k, s, i, n⟩) (bnd z wz) (bnd z2 wz2))

theorem proved : Rows.CutRoomsSaid :=
  OpenClaim.holds_of_wide F.cuneiformlaw12_CutRooms Try.f5 rfl rfl rfl rfl rfl rfl rfl ⟨rfl, rfl, rfl, rfl, rfl⟩ rfl rfl rfl rfl rfl (by kernel_rfl) Try.func5 (by kernel_rfl)
    (of_decide_eq_true (by kernel_rfl)) (by unfold Func.isWrapper; first | (rw [if_pos (by decide +kernel)]; kernel_rfl) | (rw [if_neg (by decide +kernel)]; exact ⟨rfl, rfl⟩))
    (fun os started H enc _ => lifted os started H enc)
end Go.Proofs.Ytncipoapdpenfaa.cutRooms
