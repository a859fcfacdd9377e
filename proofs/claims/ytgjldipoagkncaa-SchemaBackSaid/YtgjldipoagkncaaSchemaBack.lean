/-
  whatever the kind and the bytes, the law SchemaBack returns true. No condition. By an AI agent. No person has read it.
-/
import Derived.Test.YtgjldipoagkncaaSCHC
import Derived.Test.YtgjldipoagkncaaAm6
import Derived.OpenShut
import Derived.Test.YtgjldipoagkncaaRows

namespace Go.Proofs.Ytgjldipoagkncaa
open Go Go.Am
set_option linter.unusedSimpArgs false
set_option linter.unusedVariables false

theorem known19_ok (H : AHeap) (Q : AVal → AHeap → Prop) (h : Q (.bool true) H) : FunOK Try.prog F.cuneiformlaw19_known [] H Q := fun_reck codes_ok 100000 (.bool true) (by kernel_rfl) rfl rfl H Q h
theorem is1_ok (H : AHeap) (Q : AVal → AHeap → Prop) (h : Q (.bool true) H) : FunOK Try.prog F.schema_is [.int .i64 1] H Q := fun_reck codes_ok 10000 (.bool true) (by kernel_rfl) rfl rfl H Q h
theorem is2_ok (H : AHeap) (Q : AVal → AHeap → Prop) (h : Q (.bool true) H) : FunOK Try.prog F.schema_is [.int .i64 2] H Q := fun_reck codes_ok 10000 (.bool true) (by kernel_rfl) rfl rfl H Q h
theorem is_ok (H : AHeap) {v : Int} (hv : v = 1 ∨ v = 2) (Q : AVal → AHeap → Prop) (h : Q (.bool true) H) : FunOK Try.prog F.schema_is [.int .i64 v] H Q := by
  rcases hv with rfl | rfl
  · exact is1_ok H Q h
  · exact is2_ok H Q h

theorem fld_len {ys : List Nat} {s : RD} {most : Int} : (s.fld ys most).1.length ≤ ys.length := by
  unfold RD.fld lensR
  by_cases h1 : s.e ≠ 0
  · rw [if_pos h1]; simp
  rw [if_neg h1]
  by_cases h2 : (fieldSpec most (ys.drop s.a)).2.2 ≠ 0
  · rw [if_pos h2]; simp
  rw [if_neg h2]
  have := (fieldSpec_le (most := most) (zs := ys.drop s.a)).2
  rw [List.length_drop] at this
  show (fieldSpec most (ys.drop s.a)).2.1.length ≤ _
  omega
theorem textOf_size (xs : List Nat) : (textOf xs).size = xs.length := by simp [textOf, ByteArray.size]
/-- Texts are no longer than the bytes. -/
theorem field_tg {ys : List Nat} {s : RD} {m : Mg} {f : Fld} (h : m.t.size ≤ ys.length ∧ m.g.size ≤ ys.length) : (s.field ys m f).1.t.size ≤ ys.length ∧ (s.field ys m f).1.g.size ≤ ys.length := by
  have hp : ∀ j v, (m.put j v).t = m.t ∧ (m.put j v).g = m.g := fun j v => by
    unfold Mg.put
    repeat' split
    all_goals exact ⟨rfl, rfl⟩
  unfold RD.field
  repeat' split
  · exact ⟨by rw [(hp _ _).1]; exact h.1, by rw [(hp _ _).2]; exact h.2⟩
  · exact ⟨by rw [(hp _ _).1]; exact h.1, by rw [(hp _ _).2]; exact h.2⟩
  · exact h
  · exact h
  · exact ⟨by rw [textOf_size]; exact fld_len, h.2⟩
  · exact ⟨h.1, by rw [textOf_size]; exact fld_len⟩
theorem stS_tg {ys : List Nat} {L : List Fld} {m0 : Mg} (h : m0.t.size ≤ ys.length ∧ m0.g.size ≤ ys.length) : ∀ j, (stS ys L m0 j).1.t.size ≤ ys.length ∧ (stS ys L m0 j).1.g.size ≤ ys.length
  | 0 => h
  | j + 1 => field_tg (stS_tg h j)

theorem dec_fine2 {k v : Int} {ys : List Nat} (hl : ys.length ≤ 1000000) : (decM k v ys).1.fine2 ∧ (decM k v ys).1.small := by
  have h0 : mg0.fine2 ∧ mg0.small := ⟨⟨by decide, by decide, by decide, by decide⟩, by decide, by decide⟩
  unfold decM
  split
  · exact h0
  split
  · exact h0
  split
  · exact h0
  split
  · exact h0
  · have h1 : (lastS ys (versionFields k v) { mg0 with k := k }).1.small := stS_small ⟨Nat.zero_le _, Nat.zero_le _⟩ _
    have h2 := stS_tg (ys := ys) (L := versionFields k v) (m0 := { mg0 with k := k }) ⟨Nat.zero_le _, Nat.zero_le _⟩ (endS ys (versionFields k v) { mg0 with k := k } (versionFields k v).length 0)
    have hf : (lastS ys (versionFields k v) { mg0 with k := k }).1.fine2 := by
      have a := h1.p
      have b := h1.c
      have c := h2.1
      have d := h2.2
      exact ⟨by omega, by omega, Nat.lt_of_le_of_lt c (by omega), Nat.lt_of_le_of_lt d (by omega)⟩
    exact ⟨projectM_fine2 hf v, projectM_small h1 v⟩
end Go.Proofs.Ytgjldipoagkncaa

namespace Go.Proofs.Ytgjldipoagkncaa
open Go Go.Am
set_option linter.unusedSimpArgs false
set_option linter.unusedVariables false

def turnM (k f t : Int) (ys : List Nat) : List Nat × Bool × Int :=
  if (decM k f ys).2 ≠ 0 then ([], false, ((decM k f ys).2 : Nat)) else (encB (decM k f ys).1 t, decide (projectM (decM k f ys).1 t = (decM k f ys).1), bcheckE (decM k f ys).1 t)

set_option maxRecDepth 10000 in
set_option maxHeartbeats 4000000 in
theorem turn_ok (H : AHeap) {k f t : Int} (hf : f = 1 ∨ f = 2) (ht : t = 1 ∨ t = 2) {ys : List Nat} {tt : Bool} (hb : ∀ b ∈ ys, b < 256) (hlen : ys.length ≤ 1000000) (Q : AVal → AHeap → Prop) (h : Q (.tup [nums .u8 false (turnM k f t ys).1, .bool (turnM k f t ys).2.1, .int .i64 (turnM k f t ys).2.2]) H) : FunOK Try.prog F.schema_Turn [.int .i64 k, .int .i64 f, .int .i64 t, nums .u8 tt ys] H Q := by
  refine fun_iced schema_Turn_code fun _ => ?_
  refine fun_V 60 schema_Turn_code rfl ?_
  simp (disch := first | omega | (simp only [lnx]; omega)) only [stdh, stdx, ↓reduceIte, Nat.reduceEqDiff, Int.reduceToNat, Int.reducePow, Nat.reduceAdd, Nat.reduceLeDiff, Nat.reduceMul, Nat.reduceBEq, reduceCtorEq, schema_Turn, schema_Turn.body]
  refine callK_fn (is_ok _ hf _ ?_)
  refine runL_V 60 ?_
  simp (disch := first | omega | (simp only [lnx]; omega)) only [stdh, stdx, ↓reduceIte, Nat.reduceEqDiff, Int.reduceToNat, Int.reducePow, Nat.reduceAdd, Nat.reduceLeDiff, Nat.reduceMul, Nat.reduceBEq, reduceCtorEq]
  refine callK_fn (is_ok _ ht _ ?_)
  refine runL_V 60 ?_
  simp (disch := first | omega | (simp only [lnx]; omega)) only [stdh, stdx, ↓reduceIte, Nat.reduceEqDiff, Int.reduceToNat, Int.reducePow, Nat.reduceAdd, Nat.reduceLeDiff, Nat.reduceMul, Nat.reduceBEq, reduceCtorEq]
  refine callK_fn (decode_ok _ hb hlen _ ?_)
  obtain ⟨f2, fs⟩ := dec_fine2 (k := k) (v := f) hlen
  unfold turnM at h
  generalize decM k f ys = d at *
  obtain ⟨m, e⟩ := d
  refine runL_V 60 ?_
  by_cases he : e = 0
  · subst he
    rw [if_neg (by simp)] at h
    simp (disch := first | omega | (simp only [lnx]; omega)) only [stdh, stdx, ↓reduceIte, Nat.reduceEqDiff, Int.reduceToNat, Int.reducePow, Nat.reduceAdd, Nat.reduceLeDiff, Nat.reduceMul, Nat.reduceBEq, reduceCtorEq, encM]
    refine callK_fn (encode_ok _ m t f2.fine _ ?_)
    refine runL_V 60 ?_
    simp (disch := first | omega | (simp only [lnx]; omega)) only [stdh, stdx, ↓reduceIte, Nat.reduceEqDiff, Int.reduceToNat, Int.reducePow, Nat.reduceAdd, Nat.reduceLeDiff, Nat.reduceMul, Nat.reduceBEq, reduceCtorEq, encM, schema_Turn.d0]
    refine callD_fn (project_ok _ m t fs _ ?_)
    refine ⟨by simp (disch := first | omega | (simp only [lnx]; omega)) only [stdh, stdx, ↓reduceIte, Nat.reduceEqDiff, Int.reduceToNat, Int.reducePow, Nat.reduceAdd, Nat.reduceLeDiff, Nat.reduceMul, Nat.reduceBEq, reduceCtorEq, encM], ?_⟩
    refine runD_V 60 ?_
    simp (disch := first | omega | (simp only [lnx]; omega)) only [stdh, stdx, ↓reduceIte, Nat.reduceEqDiff, Int.reduceToNat, Int.reducePow, Nat.reduceAdd, Nat.reduceLeDiff, Nat.reduceMul, Nat.reduceBEq, reduceCtorEq, encM]
    refine callD_fn (same_ok _ (projectM m t) m (projectM_small fs t).fits _ ?_)
    refine ⟨by simp (disch := first | omega | (simp only [lnx]; omega)) only [stdh, stdx, ↓reduceIte, Nat.reduceEqDiff, Int.reduceToNat, Int.reducePow, Nat.reduceAdd, Nat.reduceLeDiff, Nat.reduceMul, Nat.reduceBEq, reduceCtorEq, encM], ?_⟩
    refine runD_V 60 ?_
    simp (disch := first | omega | (simp only [lnx]; omega)) only [stdh, stdx, ↓reduceIte, Nat.reduceEqDiff, Int.reduceToNat, Int.reducePow, Nat.reduceAdd, Nat.reduceLeDiff, Nat.reduceMul, Nat.reduceBEq, reduceCtorEq, encM]
    exact ice_none ⟨closed_nums _ _ _, trivial, trivial, trivial⟩ h
  · have hd : decide ((e : Int) = 0) = false := decide_eq_false (by omega)
    rw [if_pos he] at h
    simp (disch := first | omega | (simp only [lnx]; omega)) only [stdh, stdx, ↓reduceIte, Nat.reduceEqDiff, Int.reduceToNat, Int.reducePow, Nat.reduceAdd, Nat.reduceLeDiff, Nat.reduceMul, Nat.reduceBEq, reduceCtorEq, encM, hd]
    exact ice_sees ⟨trivial, trivial, trivial, trivial⟩ (Sees.tup (.cons (Sees.nils false) (.cons (.refl _) (.cons (.refl _) .nil)))) h

theorem turn_back {k : Int} {ys : List Nat} (hb : ∀ b ∈ ys, b < 256) (hl : ys.length ≤ 1000000) (h : (turnM k 1 2 ys).2.2 = 0) : (turnM k 1 2 ys).2.1 = true ∧ turnM k 2 1 (turnM k 1 2 ys).1 = (ys, true, 0) ∧ (∀ b ∈ (turnM k 1 2 ys).1, b < 256) ∧ (turnM k 1 2 ys).1.length ≤ 1152 := by
  obtain ⟨f2, fs⟩ := dec_fine2 (k := k) (v := 1) hl
  unfold turnM at h
  have he : (decM k 1 ys).2 = 0 := Classical.byContradiction fun hh => by
    rw [if_pos hh] at h
    have h' : (((decM k 1 ys).2 : Nat) : Int) = 0 := h
    omega
  obtain ⟨a1, a2, a3, a4, a5⟩ := dec_right hb he
  have hT : turnM k 1 2 ys = (encB (decM k 1 ys).1 2, true, 0) := by
    rw [turnM, if_neg (by omega), projectM_ne (by omega), decide_eq_true rfl, bcheckE, if_neg (by omega), a3]
  rw [hT]
  generalize decM k 1 ys = d at *
  obtain ⟨m, e⟩ := d
  simp only at a1 a2 a3 a4 a5 f2 fs ⊢
  have hd := dec_enc (rest := []) a3 f2.fine (.inr rfl)
  rw [List.append_nil, if_pos rfl, projectM_ne (by omega), a1] at hd
  refine ⟨trivial, ?_, encB_byte m 2, encB_len f2.fine 2⟩
  rw [turnM, hd, if_neg (by simp)]
  simp only [a4, a5, bcheckE, a3]
  simp
end Go.Proofs.Ytgjldipoagkncaa

namespace Go.Proofs.Ytgjldipoagkncaa
open Go Go.Am
set_option linter.unusedSimpArgs false
set_option linter.unusedVariables false

theorem turn_bad {k : Int} {ys : List Nat} (hb : ∀ b ∈ ys, b < 256) (h : (turnM k 1 2 ys).2.2 ≠ 0) : (turnM k 1 2 ys).1 = [] ∧ (turnM k 1 2 ys).2.1 = false := by
  by_cases he : (decM k 1 ys).2 = 0
  · obtain ⟨a1, a2, a3, a4, a5⟩ := dec_right hb he
    exact absurd (by rw [turnM, if_neg (by omega), bcheckE, if_neg (by omega), a3]) h
  · rw [turnM, if_pos he]; exact ⟨rfl, rfl⟩

set_option maxRecDepth 10000 in
set_option maxHeartbeats 4000000 in
theorem schemaback_ok {k : Int} {bs : List Nat} (hb : ∀ b ∈ bs, b < 256) (hlen : bs.length ≤ 9223372036854775807) : FunOK Try.prog F.cuneiformlaw19_SchemaBack [.int .i64 k, nums .u8 false bs] [] fun av _ => av = .bool true := by
  refine fun_V 60 cuneiformlaw19_SchemaBack_code rfl ?_
  simp (disch := first | omega | (simp only [lnx]; omega)) only [stdh, stdx, ↓reduceIte, Nat.reduceEqDiff, Int.reduceToNat, Int.reducePow, Nat.reduceAdd, Nat.reduceLeDiff, Nat.reduceMul, Nat.reduceBEq, reduceCtorEq, cuneiformlaw19_SchemaBack, cuneiformlaw19_SchemaBack.body]
  obtain ⟨ys, hys⟩ : ∃ ys, ys = bs.take (if (250 : Int) < (bs.length : Int) then 250 else (bs.length : Int)).toNat := ⟨_, rfl⟩
  have hyb : ∀ b ∈ ys, b < 256 := fun b h => hb b (List.mem_of_mem_take (by rw [hys] at h; exact h))
  have hyl : ys.length ≤ 250 := by
    rw [hys, List.length_take]
    split <;> omega
  rw [← hys]
  clear hys
  refine callK_fn (turn_ok _ (.inl rfl) (.inr rfl) hyb (by omega) _ ?_)
  refine runL_V 60 ?_
  have hback := turn_back (k := k) hyb (by omega)
  have hbad := turn_bad (k := k) hyb
  generalize turnM k 1 2 ys = X at *
  obtain ⟨xs, w, e⟩ := X
  by_cases he : e = 0
  · subst he
    obtain ⟨b1, b2, b3, b4⟩ := hback rfl
    have b1 : w = true := b1
    subst b1
    have b4 : xs.length ≤ 1152 := b4
    have b2 : turnM k 2 1 xs = (ys, true, 0) := b2
    simp (disch := first | omega | (simp only [lnx]; omega)) only [stdh, stdx, ↓reduceIte, Nat.reduceEqDiff, Int.reduceToNat, Int.reducePow, Nat.reduceAdd, Nat.reduceLeDiff, Nat.reduceMul, Nat.reduceBEq, reduceCtorEq]
    refine callK_fn (turn_ok _ (.inr rfl) (.inl rfl) b3 (by omega) _ ?_)
    rw [b2]
    refine runL_V 60 ?_
    simp (disch := first | omega | (simp only [lnx]; omega)) only [stdh, stdx, ↓reduceIte, Nat.reduceEqDiff, Int.reduceToNat, Int.reducePow, Nat.reduceAdd, Nat.reduceLeDiff, Nat.reduceMul, Nat.reduceBEq, reduceCtorEq]
    refine callK_fn (known19_ok _ _ ?_)
    refine runL_V 60 ?_
    simp (disch := first | omega | (simp only [lnx]; omega)) only [stdh, stdx, ↓reduceIte, Nat.reduceEqDiff, Int.reduceToNat, Int.reducePow, Nat.reduceAdd, Nat.reduceLeDiff, Nat.reduceMul, Nat.reduceBEq, reduceCtorEq]
    refine callK_fn (bsame_ok _ (nums_nats .u8 _ _ _) (nums_nats .u8 _ _ _) (by omega) _ ?_)
    rw [decide_eq_true rfl]
    refine runL_V 60 ?_
    simp (disch := first | omega | (simp only [lnx]; omega)) only [stdh, stdx, ↓reduceIte, Nat.reduceEqDiff, Int.reduceToNat, Int.reducePow, Nat.reduceAdd, Nat.reduceLeDiff, Nat.reduceMul, Nat.reduceBEq, reduceCtorEq]
  · obtain ⟨b1, b2⟩ := hbad he
    have b1 : xs = [] := b1
    have b2 : w = false := b2
    subst b1
    subst b2
    have hd : decide (e = 0) = false := decide_eq_false he
    simp (disch := first | omega | (simp only [lnx]; omega)) only [stdh, stdx, ↓reduceIte, Nat.reduceEqDiff, Int.reduceToNat, Int.reducePow, Nat.reduceAdd, Nat.reduceLeDiff, Nat.reduceMul, Nat.reduceBEq, reduceCtorEq, hd]
    refine callK_fn (known19_ok _ _ ?_)
    refine runL_V 60 ?_
    simp (disch := first | omega | (simp only [lnx]; omega)) only [stdh, stdx, ↓reduceIte, Nat.reduceEqDiff, Int.reduceToNat, Int.reducePow, Nat.reduceAdd, Nat.reduceLeDiff, Nat.reduceMul, Nat.reduceBEq, reduceCtorEq]
end Go.Proofs.Ytgjldipoagkncaa

namespace Go.Proofs.Ytgjldipoagkncaa.schemaBack
open Go Go.Am Go.ChangeShapes Go.WideShapes Go.ChangeAt Go.RowKit
set_option linter.unusedVariables false

theorem own : ownKnob Try.prog.godebug = none := by kernel_rfl
theorem laidOut : laidOutB Try.prog = true := by kernel_rfl

set_option maxRecDepth 100000 in
theorem lifted (os : Os) (started : os.Started) (H : Type) (enc : TypeId × Value → H) :
    ReturnsInHanded {} Try.checked os F.cuneiformlaw19_SchemaBack .any (Rows.schemaBackSpec.pre6 enc Try.prog Try.f4 Rows.schemaBackRow.domain false) (Rows.schemaBackSpec.post enc Try.prog Try.f4 false true false false) := by
  refine returnsInHanded_of_change (C := Try.checked) own started (by kernel_rfl) Try.func4
    (ChangeSpec.witness6 (enc := enc) (C := Try.checked) false ⟨#[], #[.int .i64 1, .slice none 0 0], []⟩ 8 (by kernel_rfl) (by kernel_rfl) (by kernel_rfl) (by kernel_rfl)) ?_
  intro W base args ds gs before hval hW hcnd _
  refine law_calls (shs := [.int .i64, .slice (.int .u8)]) (tb := 4) laidOut (by kernel_rfl) ?_ (by kernel_rfl) Try.underlying4 rfl ?_ ?_ hval hW
  · intro t ht
    have : ∀ t ∈ Try.f4.params.toList, (Try.prog.readableRec t && decide (t < Try.prog.types.size)) = true := List.all_eq_true.1 (by kernel_rfl)
    simpa using this t ht
  · intro H ds hd
    match ds, hd with
    | [d0, d1], _ => exact ⟨rfl, rfl, rfl⟩
  · rintro xs ⟨a, r, rfl, ⟨k, hk, _⟩, b, r2, rfl, hb, rfl⟩
    cases hk
    obtain ⟨bs, q1, q2, q3⟩ := nums_fits (k := .u8) rfl hb
    have hb : ∀ b ∈ bs, b < 256 := fun b hb => by
      have := q2 b hb
      simp only [Lit.wf, Bool.and_eq_true, decide_eq_true_eq, IntKind.min, IntKind.max, IntKind.signed, IntKind.bits] at this
      simp at this
      omega
    exact fun_sees (.cons (.refl _) (.cons q1 .nil)) (schemaback_ok hb q3)

theorem proved : Rows.SchemaBackSaid :=
  OpenClaim.holds_of_wide F.cuneiformlaw19_SchemaBack Try.f4 rfl rfl rfl rfl rfl rfl rfl ⟨rfl, rfl, rfl, rfl, rfl⟩ rfl rfl rfl rfl rfl (by kernel_rfl) Try.func4 (by kernel_rfl)
    (of_decide_eq_true (by kernel_rfl)) (by unfold Func.isWrapper; first | (rw [if_pos (by decide +kernel)]; kernel_rfl) | (rw [if_neg (by decide +kernel)]; exact ⟨rfl, rfl⟩))
    (fun os started H enc _ => lifted os started H enc)
end Go.Proofs.Ytgjldipoagkncaa.schemaBack
