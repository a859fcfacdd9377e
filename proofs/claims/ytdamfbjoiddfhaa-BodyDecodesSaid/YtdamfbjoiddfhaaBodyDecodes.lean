/-
  What is decoded of any bytes, or what is wrong with them, is what the document says, for every kind and version (the first 250 bytes are looked at); what is decoded is right and encodes to just these bytes. By an AI agent. No person has read it.
-/
import Derived.Test.YtdamfbjoiddfhaaBODYD
import Derived.Test.YtdamfbjoiddfhaaBODYC
import Derived.Test.YtdamfbjoiddfhaaBODYB
import Derived.Test.YtdamfbjoiddfhaaAm6
import Derived.OpenShut
import Derived.Test.YtdamfbjoiddfhaaRows

namespace Go.Proofs.Ytdamfbjoiddfhaa
open Go Go.Am
set_option linter.unusedSimpArgs false
set_option linter.unusedVariables false
set_option maxRecDepth 10000 in
set_option maxHeartbeats 4000000 in
theorem bodydecodes_ok {k v : Int} {bs : List Nat} (hb : ∀ b ∈ bs, b < 256) (hlen : bs.length ≤ 9223372036854775807) : FunOK Try.prog F.cuneiformlaw18_BodyDecodes [.int .i64 k, .int .i64 v, nums .u8 false bs] [] fun av _ => av = .bool true := by
  refine fun_V 60 cuneiformlaw18_BodyDecodes_code rfl ?_
  simp (disch := first | omega | (simp only [lnx]; omega)) only [stdh, stdx, ↓reduceIte, seval, cuneiformlaw18_BodyDecodes, cuneiformlaw18_BodyDecodes.body]
  obtain ⟨ys, hys⟩ : ∃ ys, ys = bs.take (if (250 : Int) < (bs.length : Int) then 250 else (bs.length : Int)).toNat := ⟨_, rfl⟩
  have hyb : ∀ b ∈ ys, b < 256 := fun b h => hb b (List.mem_of_mem_take (by rw [hys] at h; exact h))
  have hyl : ys.length ≤ 250 := by
    rw [hys, List.length_take]
    split <;> omega
  rw [← hys]
  clear hys
  refine callK_fn (decode_ok _ hyb (by omega) _ ?_)
  refine runL_V 60 ?_
  obtain ⟨f2, fs⟩ := dec_fine2 (k := k) (v := v) (ys := ys) (by omega)
  have hright := dec_right (k := k) (v := v) hyb
  have hR := fun H Q h => rdecode_ok H (k := k) (v := v) (t := true) hyb (by omega) Q h
  simp (disch := first | omega | (simp only [lnx]; omega)) only [stdh, stdx, ↓reduceIte, seval, encM]
  refine callK_fn (rdecode_ok _ hyb (by omega) _ ?_)
  refine runL_V 60 ?_
  generalize decM k v ys = d at *
  obtain ⟨m, e⟩ := d
  simp (disch := first | omega | (simp only [lnx]; omega)) only [stdh, stdx, ↓reduceIte, seval, encM, cuneiformlaw18_BodyDecodes.d0]
  refine callD_fn (of17_ok _ m fs _ ?_)
  refine ⟨by simp (disch := first | omega | (simp only [lnx]; omega)) only [stdh, stdx, ↓reduceIte, seval, encM], ?_⟩
  refine runD_V 60 ?_
  simp (disch := first | omega | (simp only [lnx]; omega)) only [stdh, stdx, ↓reduceIte, seval, encM]
  refine callD_fn (rsame_ok _ m m fs.fit2 _ ?_)
  rw [decide_eq_true rfl]
  refine ⟨by simp (disch := first | omega | (simp only [lnx]; omega)) only [stdh, stdx, ↓reduceIte, seval, encM], ?_⟩
  refine runD_V 60 ?_
  by_cases he : e = 0
  · subst he
    obtain ⟨a1, a2, a3, a4, a5⟩ := hright rfl
    simp (disch := first | omega | (simp only [lnx]; omega)) only [stdh, stdx, ↓reduceIte, seval, encM]
    refine callK_fn (encode_ok _ m v f2.fine _ ?_)
    rw [a4, bcheckE, if_neg (by omega), a3]
    refine runL_V 60 ?_
    simp (disch := first | omega | (simp only [lnx]; omega)) only [stdh, stdx, ↓reduceIte, seval]
    refine callK_fn (known18_ok _ _ ?_)
    refine runL_V 60 ?_
    simp (disch := first | omega | (simp only [lnx]; omega)) only [stdh, stdx, ↓reduceIte, seval]
    refine callK_fn (bsame_ok _ (nums_nats .u8 _ _ _) (nums_nats .u8 _ _ _) (by omega) _ ?_)
    rw [decide_eq_true rfl]
    refine runL_V 60 ?_
    simp (disch := first | omega | (simp only [lnx]; omega)) only [stdh, stdx, ↓reduceIte, seval, encM]
    refine callK_fn (check_ok _ m f2.fine _ ?_)
    rw [a3]
    refine runL_V 60 ?_
    simp (disch := first | omega | (simp only [lnx]; omega)) only [stdh, stdx, ↓reduceIte, seval]
  · have hd : decide ((e : Int) = 0) = false := decide_eq_false (by omega)
    simp (disch := first | omega | (simp only [lnx]; omega)) only [stdh, stdx, ↓reduceIte, seval, hd]
    refine callK_fn (known18_ok _ _ ?_)
    refine runL_V 60 ?_
    simp (disch := first | omega | (simp only [lnx]; omega)) only [stdh, stdx, ↓reduceIte, seval]
end Go.Proofs.Ytdamfbjoiddfhaa

namespace Go.Proofs.Ytdamfbjoiddfhaa.bodyDecodes
open Go Go.Am Go.ChangeShapes Go.WideShapes Go.ChangeAt Go.RowKit
set_option linter.unusedVariables false

theorem own : ownKnob Try.prog.godebug = none := by kernel_rfl
theorem laidOut : laidOutB Try.prog = true := by kernel_rfl

set_option maxRecDepth 100000 in
theorem lifted (os : Os) (started : os.Started) (H : Type) (enc : TypeId × Value → H) :
    ReturnsInHanded {} Try.checked os F.cuneiformlaw18_BodyDecodes .any (Rows.bodyDecodesSpec.pre6 enc Try.prog Try.f3 Rows.bodyDecodesRow.domain false) (Rows.bodyDecodesSpec.post enc Try.prog Try.f3 false true false false) := by
  refine returnsInHanded_of_change (C := Try.checked) own started (by kernel_rfl) Try.func3
    (ChangeSpec.witness6 (enc := enc) (C := Try.checked) false ⟨#[], #[.int .i64 1, .int .i64 1, .slice none 0 0], []⟩ 8 (by kernel_rfl) (by kernel_rfl) (by kernel_rfl) (by kernel_rfl)) ?_
  intro W base args ds gs before hval hW hcnd _
  refine law_calls (shs := [.int .i64, .int .i64, .slice (.int .u8)]) (tb := 4) laidOut (by kernel_rfl) ?_ (by kernel_rfl) Try.underlying4 rfl ?_ ?_ hval hW
  · intro t ht
    have : ∀ t ∈ Try.f3.params.toList, (Try.prog.readableRec t && decide (t < Try.prog.types.size)) = true := List.all_eq_true.1 (by kernel_rfl)
    simpa using this t ht
  · intro H ds hd
    match ds, hd with
    | [d0, d1, d2], _ => exact ⟨rfl, rfl, rfl⟩
  · rintro xs ⟨a, r, rfl, ⟨k, hk, _⟩, a2, r2, rfl, ⟨v, hv, _⟩, b, r3, rfl, hb, rfl⟩
    cases hk
    cases hv
    obtain ⟨bs, q1, q2, q3⟩ := nums_fits (k := .u8) rfl hb
    have hb : ∀ b ∈ bs, b < 256 := fun b hb => by
      have := q2 b hb
      simp only [Lit.wf, Bool.and_eq_true, decide_eq_true_eq, IntKind.min, IntKind.max, IntKind.signed, IntKind.bits] at this
      simp at this
      omega
    exact fun_sees (.cons (.refl _) (.cons (.refl _) (.cons q1 .nil))) (bodydecodes_ok hb q3)

theorem proved : Rows.BodyDecodesSaid :=
  OpenClaim.holds_of_wide F.cuneiformlaw18_BodyDecodes Try.f3 rfl rfl rfl rfl rfl rfl rfl ⟨rfl, rfl, rfl, rfl, rfl⟩ rfl rfl rfl rfl rfl (by kernel_rfl) Try.func3 (by kernel_rfl)
    (of_decide_eq_true (by kernel_rfl)) (by unfold Func.isWrapper; first | (rw [if_pos (by decide +kernel)]; kernel_rfl) | (rw [if_neg (by decide +kernel)]; exact ⟨rfl, rfl⟩))
    (fun os started H enc _ => lifted os started H enc)
end Go.Proofs.Ytdamfbjoiddfhaa.bodyDecodes
