/-
  FieldPlacesSaid: whatever the number, the law FieldPlaces returns true, and the input reads as it did. No condition. By an AI agent. No person has read it.
-/
import Derived.Test.YtoingggmiplggaaCode
import Derived.Test.YtoingggmiplggaaAm5
import Derived.OpenShut
import Derived.Test.YtoingggmiplggaaRows

namespace Go.Proofs.Ytoingggmiplggaa
open Go Go.Am
set_option linter.unusedSimpArgs false
set_option linter.unusedVariables false

/-- A number's rest by five, as the law reckons it. -/
theorem mod5 (kind : Int) : ∃ m : Nat, m < 5 ∧ IntKind.i64.wrap (Int.tmod (IntKind.u64.wrap kind) 5) = (m : Nat) := by
  refine ⟨((IntKind.u64.wrap kind) % 5).toNat, by omega, ?_⟩
  have h0 : 0 ≤ IntKind.u64.wrap kind := by rw [wrap_u64']; omega
  rw [Int.tmod_eq_emod_of_nonneg h0, wrap_i64 (by omega)]
  omega

theorem places_ok (kind : Int) : FunOK Try.prog F.cuneiformlaw16_FieldPlaces [.int .i64 kind] [] fun av _ => av = .bool true := by
  refine fun_V 40 cuneiformlaw16_FieldPlaces_code rfl ?_
  obtain ⟨m, hm, he⟩ := mod5 kind
  simp (disch := first | omega | (simp only [List.length_append, List.length_cons, List.length_nil, List.length_set, List.length_map, List.length_take, List.length_drop]; omega)) only [stdh, ↓reduceIte, Nat.reduceEqDiff, Int.reduceToNat, Int.reducePow, Nat.reduceAdd, Nat.reduceLeDiff, Nat.reduceMul, Nat.reduceBEq, reduceCtorEq, cuneiformlaw16_FieldPlaces, cuneiformlaw16_FieldPlaces.body, he]
  have h : m = 0 ∨ m = 1 ∨ m = 2 ∨ m = 3 ∨ m = 4 := by omega
  rcases h with rfl | rfl | rfl | rfl | rfl
  all_goals exact callK_reck codes_ok 1000000 (.bool true) (by kernel_rfl) fun _ => rfl
end Go.Proofs.Ytoingggmiplggaa

namespace Go.Proofs.Ytoingggmiplggaa.fieldPlaces
open Go Go.Am Go.ChangeShapes Go.WideShapes Go.ChangeAt Go.RowKit
set_option linter.unusedVariables false

theorem own : ownKnob Try.prog.godebug = none := by kernel_rfl
theorem laidOut : laidOutB Try.prog = true := by kernel_rfl

set_option maxRecDepth 100000 in
theorem lifted (os : Os) (started : os.Started) (H : Type) (enc : TypeId × Value → H) :
    ReturnsInHanded {} Try.checked os F.cuneiformlaw16_FieldPlaces .any (Rows.fieldPlacesSpec.pre6 enc Try.prog Try.f3 Rows.fieldPlacesRow.domain false) (Rows.fieldPlacesSpec.post enc Try.prog Try.f3 false true false false) := by
  refine returnsInHanded_of_change (C := Try.checked) own started (by kernel_rfl) Try.func3
    (ChangeSpec.witness6 (enc := enc) (C := Try.checked) false ⟨#[], #[.int .i64 0], []⟩ 8 (by kernel_rfl) (by kernel_rfl) (by kernel_rfl) (by kernel_rfl)) ?_
  intro W base args ds gs before hval hW hcnd _
  refine law_calls (shs := [.int .i64]) (tb := 4) laidOut (by kernel_rfl) ?_ (by kernel_rfl) Try.underlying4 rfl ?_ ?_ hval hW
  · intro t ht
    have : ∀ t ∈ Try.f3.params.toList, (Try.prog.readableRec t && decide (t < Try.prog.types.size)) = true := List.all_eq_true.1 (by kernel_rfl)
    simpa using this t ht
  · intro H ds hd
    match ds, hd with
    | [d0], _ => exact ⟨rfl, rfl, rfl⟩
  · rintro xs ⟨a, r, rfl, ⟨s, hs, ws⟩, rfl⟩
    cases hs
    exact places_ok s

theorem proved : Rows.FieldPlacesSaid :=
  OpenClaim.holds_of_wide F.cuneiformlaw16_FieldPlaces Try.f3 rfl rfl rfl rfl rfl rfl rfl ⟨rfl, rfl, rfl, rfl, rfl⟩ rfl rfl rfl rfl rfl (by kernel_rfl) Try.func3 (by kernel_rfl)
    (of_decide_eq_true (by kernel_rfl)) (by unfold Func.isWrapper; first | (rw [if_pos (by decide +kernel)]; kernel_rfl) | (rw [if_neg (by decide +kernel)]; exact ⟨rfl, rfl⟩))
    (fun os started H enc _ => lifted os started H enc)
end Go.Proofs.Ytoingggmiplggaa.fieldPlaces
