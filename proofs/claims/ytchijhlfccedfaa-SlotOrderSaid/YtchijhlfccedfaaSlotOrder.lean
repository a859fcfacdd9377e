/-
  In whatever order the frames of a body come to a slot, once each or more often, the slot is full behind the last new one, and has the body (the first 192 bytes; the first 300 places of the order). By an AI agent. No person has read it.
-/
import Derived.Test.YtchijhlfccedfaaSLOTB
import Derived.Test.YtchijhlfccedfaaAm6
import Derived.OpenShut
import Derived.Test.YtchijhlfccedfaaRows
set_option linter.unusedSimpArgs false
set_option linter.unusedVariables false

namespace Go.Proofs.Ytchijhlfccedfaa
open Go Go.Am
set_option linter.unusedSimpArgs false
set_option linter.unusedVariables false

theorem intl_fits {a : AVal} (h : Fits (.slice (.int .i64)) [a]) : ∃ zs : List Int, Sees a (ints false zs) ∧ zs.length ≤ 9223372036854775807 := by
  rcases h with h | ⟨gs, t, hg, h, hl⟩
  · cases h
    exact ⟨[], Sees.nils false, by simp⟩
  · cases h
    have : ∃ zs : List Int, gs = zs.map (fun z => [AVal.int .i64 z]) := by
      clear hl
      induction gs with
      | nil => exact ⟨[], rfl⟩
      | cons g gs ih =>
        obtain ⟨zs, rfl⟩ := ih fun x hx => hg x (by simp [hx])
        obtain ⟨z, rfl, hw⟩ := hg g (by simp)
        exact ⟨z :: zs, rfl⟩
    obtain ⟨zs, rfl⟩ := this
    refine ⟨zs, ?_, by simpa using hl⟩
    have e : (zs.map fun z => [AVal.int .i64 z]).flatten = zs.map fun z : Int => AVal.int .i64 z := by
      clear hl hg
      induction zs with
      | nil => rfl
      | cons z zs ih => simp only [List.map_cons, List.flatten_cons, ih]; rfl
    rw [e]
    have : ints false zs = .imm (zs.map fun z : Int => AVal.int .i64 z) (zs.map fun z => [AVal.int .i64 z]).length false := by simp [ints]
    rw [this]
    exact Sees.loose _ _ _
end Go.Proofs.Ytchijhlfccedfaa

namespace Go.Proofs.Ytchijhlfccedfaa.slotOrder
open Go Go.Am Go.ChangeShapes Go.WideShapes Go.ChangeAt Go.RowKit
set_option linter.unusedVariables false

theorem own : ownKnob Try.prog.godebug = none := by kernel_rfl
theorem laidOut : laidOutB Try.prog = true := by kernel_rfl

set_option maxRecDepth 100000 in
theorem lifted (os : Os) (started : os.Started) (H : Type) (enc : TypeId × Value → H) :
    ReturnsInHanded {} Try.checked os F.cuneiformlaw13_SlotOrder .any (Rows.slotOrderSpec.pre6 enc Try.prog Try.f5 Rows.slotOrderRow.domain false) (Rows.slotOrderSpec.post enc Try.prog Try.f5 false true false false) := by
  refine returnsInHanded_of_change (C := Try.checked) own started (by kernel_rfl) Try.func5
    (ChangeSpec.witness6 (enc := enc) (C := Try.checked) false ⟨#[], #[.agg #[.int .i64 0, .int .i64 0, .int .u32 0, .int .i64 0, .int .i64 0], .slice none 0 0, .int .i64 0, .slice none 0 0], []⟩ 8 (by kernel_rfl) (by kernel_rfl) (by kernel_rfl) (by kernel_rfl)) ?_
  intro W base args ds gs before hval hW hcnd _
  refine law_calls (shs := [shHead, .slice (.int .u8), .int .i64, .slice (.int .i64)]) (tb := 4) laidOut (by kernel_rfl) ?_ (by kernel_rfl) Try.underlying4 rfl ?_ ?_ hval hW
  · intro t ht
    have : ∀ t ∈ Try.f5.params.toList, (Try.prog.readableRec t && decide (t < Try.prog.types.size)) = true := List.all_eq_true.1 (by kernel_rfl)
    simpa using this t ht
  · intro H ds hd
    match ds, hd with
    | [d0, d1, d2, d3], _ => exact ⟨rfl, rfl, rfl⟩
  · rintro xs ⟨a, r, rfl, ha, b, r2, rfl, hb, c, r3, rfl, ⟨room, hroom, _⟩, d, r4, rfl, hd, rfl⟩
    cases hroom
    obtain ⟨l, rfl, h⟩ := ha
    obtain ⟨_, _, rfl, ⟨v, rfl, _⟩, h⟩ := h
    obtain ⟨_, _, rfl, ⟨k, rfl, _⟩, h⟩ := h
    obtain ⟨_, _, rfl, ⟨s, rfl, _⟩, h⟩ := h
    obtain ⟨_, _, rfl, ⟨i, rfl, _⟩, h⟩ := h
    obtain ⟨_, _, rfl, ⟨n, rfl, _⟩, h⟩ := h
    have h' : _ = ([] : List AVal) := h
    subst h'
    obtain ⟨bs, q1, q2, q3⟩ := nums_fits (k := .u8) rfl hb
    have hb : ∀ b ∈ bs, b < 256 := fun b hb => by
      have := q2 b hb
      simp only [Lit.wf, Bool.and_eq_true, decide_eq_true_eq, IntKind.min, IntKind.max, IntKind.signed, IntKind.bits] at this
      simp at this
      omega
    obtain ⟨zs, z1, z2⟩ := intl_fits (show Fits (.slice (.int .i64)) [d] from hd)
    exact fun_sees (.cons (.refl _) (.cons q1 (.cons (.refl _) (.cons z1 .nil)))) (slotorder_ok (h := ⟨v, k, s, i, n⟩) hb q3 z2)

theorem proved : Rows.SlotOrderSaid :=
  OpenClaim.holds_of_wide F.cuneiformlaw13_SlotOrder Try.f5 rfl rfl rfl rfl rfl rfl rfl ⟨rfl, rfl, rfl, rfl, rfl⟩ rfl rfl rfl rfl rfl (by kernel_rfl) Try.func5 (by kernel_rfl)
    (of_decide_eq_true (by kernel_rfl)) (by unfold Func.isWrapper; first | (rw [if_pos (by decide +kernel)]; kernel_rfl) | (rw [if_neg (by decide +kernel)]; exact ⟨rfl, rfl⟩))
    (fun os started H enc _ => lifted os started H enc)
end Go.Proofs.Ytchijhlfccedfaa.slotOrder
