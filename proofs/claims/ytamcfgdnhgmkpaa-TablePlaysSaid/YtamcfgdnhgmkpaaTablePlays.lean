/-
  whatever a table is asked, its answers, and what is told of it, are those of the document; no conditions By an AI agent. No person has read it.
-/
import Derived.Test.YtamcfgdnhgmkpaaTABH
import Derived.Test.YtamcfgdnhgmkpaaAm6
import Derived.OpenShut
import Derived.Test.YtamcfgdnhgmkpaaRows
set_option linter.unusedSimpArgs false
set_option linter.unusedVariables false

namespace Go.Proofs.Ytamcfgdnhgmkpaa
open Go Go.Am
set_option linter.unusedSimpArgs false
set_option linter.unusedVariables false

/-- An act. -/
abbrev TAct := Int × Fr
def encTA (x : TAct) : List AVal := .int .i64 x.1 :: encFr x.2
theorem encTA_len (x : TAct) : (encTA x).length = 7 := rfl

theorem fr_fits32' {g : List AVal} (h : FitsL [.struct [.struct [.int .i64, .int .i64, .int .u32, .int .i64, .int .i64], .slice (.int .u8)]] g) : True := trivial

theorem tact_fits {g : List AVal} (h : Fits (.struct [.int .i64, shFrame]) g) : ∃ x : TAct, is32 x.2.h.s ∧ SeesL g (encTA x) := by
  obtain ⟨_, _, rfl, ⟨k, rfl, hk⟩, h⟩ := h
  obtain ⟨l2, _, rfl, h2, h⟩ := h
  have h' : _ = ([] : List AVal) := h
  subst h'
  obtain ⟨f, hs, h32⟩ := fr_fits32 h2
  refine ⟨(k, f), h32, ?_⟩
  rw [List.append_nil]
  exact SeesL.cons (Sees.refl _) hs

theorem tacts_fits {a : AVal} (h : FitsA (.slice (.struct [.int .i64, shFrame])) a) : ∃ acts : List TAct, Sees a (recs encTA false acts) ∧ ∀ x ∈ acts, is32 x.2.h.s := by
  rcases h with h | ⟨gs, t, hg, h, hl⟩
  · cases h
    exact ⟨[], Sees.nils false, by simp⟩
  · cases h
    have : ∃ acts : List TAct, SeesL gs.flatten (acts.flatMap encTA) ∧ acts.length = gs.length ∧ ∀ x ∈ acts, is32 x.2.h.s := by
      clear hl
      induction gs with
      | nil => exact ⟨[], SeesL.nil, rfl, by simp⟩
      | cons g gs ih =>
        obtain ⟨acts, h1, h2, h3⟩ := ih fun x hx => hg x (by simp [hx])
        obtain ⟨x, hx, hs⟩ := tact_fits (hg g (by simp))
        refine ⟨x :: acts, ?_, by simp [h2], fun y hy => ?_⟩
        · rw [List.flatten_cons, List.flatMap_cons]; exact SeesL.append hs h1
        · rcases List.mem_cons.1 hy with rfl | hy
          · exact hx
          · exact h3 y hy
    obtain ⟨acts, h1, h2, h3⟩ := this
    refine ⟨acts, ?_, h3⟩
    have : recs encTA false acts = .imm (acts.flatMap encTA) gs.length false := by simp [recs, h2]
    rw [this]
    exact (Sees.imm h1 _ _).trans (Sees.loose _ _ _)

section
variable {room C : Nat} (K : List AItem) (Q : AVal → AHeap → Prop)
set_option maxRecDepth 10000 in
set_option maxHeartbeats 16000000 in
theorem pl_loop {l : List TAct} (h32 : ∀ x ∈ l, is32 x.2.h.s) (hroom : 1 ≤ room) (hK : ∀ r H, Run Try.prog plC K r H Q) :
    ∀ (z i : Nat) (H : AHeap) (P M : Nat) (ord : AVal) (sl : List Sl) (rs : Regs), min l.length 60 - i = z → i ≤ min l.length 60 → TabS H P M room ord sl → C ∉ tabF P M ord sl → H[C]? = some (.cells [.int .i64 (room : Nat), recs encT false (tsOf sl)] T.cuneiformref14_T) → rget rs 1 = recs encTA false l → rget rs 5 = .ptr P 0 → rget rs 7 = .ptr C 0 → rget rs 8 = .int .i64 (i : Nat) →
    Rounds Try.prog plC cuneiformlaw14_TablePlays.b2 [.inBlock 0] K rs H Q
  | z, i, H, P, M, ord, sl, rs, h1, h2, h, hC, hm, r1, r5, r7, r8 => by
    refine loop_V 100 cuneiformlaw14_TablePlays.b2.eq_1 ?_
    have hcast : (i : Int) + 1 = ((i + 1 : Nat) : Int) := by omega
    have hCl : C < H.length := (List.getElem?_eq_some_iff.1 hm).1
    by_cases hi : i < l.length ∧ i < 60
    · obtain ⟨hi1, hi2⟩ := hi
      have hld6 := fun H => load_recN (H := H) (t := false) encTA_len hi1 (o := 1) (n := 6) (by omega)
      have hld1 := fun H => load_rec1 (H := H) (t := false) encTA_len hi1 (o := 0) (by omega)
      have e6 : ∀ x : TAct, ((encTA x).drop 1).take 6 = encFr x.2 := fun _ => rfl
      have e1 : ∀ x : TAct, (encTA x).getD 0 .junk = .int .i64 x.1 := fun _ => rfl
      simp only [e6, e1] at hld6 hld1
      have hf32 : is32 (l.getD i default).2.h.s := h32 _ (by rw [show l.getD i default = l[i] by simp [List.getD_eq_getElem?_getD, hi1]]; exact List.getElem_mem hi1)
      have hnext : ∀ H' P' M' ord' sl' rs', TabS H' P' M' room ord' sl' → C ∉ tabF P' M' ord' sl' → H'[C]? = some (.cells [.int .i64 (room : Nat), recs encT false (tsOf sl')] T.cuneiformref14_T) → rget rs' 1 = recs encTA false l → rget rs' 5 = .ptr P' 0 → rget rs' 7 = .ptr C 0 → rget rs' 8 = .int .i64 ((i + 1 : Nat) : Int) → Rounds Try.prog plC cuneiformlaw14_TablePlays.b2 [.inBlock 0] K rs' H' Q := fun H' P' M' ord' sl' rs' a b c d e f g => pl_loop h32 hroom hK _ (i + 1) H' P' M' ord' sl' rs' rfl (by omega) a b c d e f g
      generalize l.getD i default = x at *
      obtain ⟨kd, f0⟩ := x
      simp only at hf32 hld1 hld6
      simp (disch := first | omega | (simp only [lnx]; omega)) only [stdh, stdx, ↓reduceIte, seval, r1, r5, r7, r8, hld6]
      refine callK_fn (cut_ok _ f0 _ ?_)
      have hfl := cutFr_len f0
      have hfs : is32 (cutFr f0).h.s := hf32
      generalize cutFr f0 = f at *
      have hX : ∀ X, TabS (H ++ X) P M room ord sl := fun X => h.keeps (keeps_append H X)
      have xm : ∀ X, (H ++ X)[C]? = _ := fun X => (at_low hCl).trans hm
      have n0 : H.length ∉ tabF P M ord sl := fun hh => by have := h.foot _ hh; omega
      have nC : H.length ≠ C := by omega
      by_cases k0 : kd = 0
      · subst k0
        refine runL_V 19 ?_
        simp (disch := first | omega | (simp only [lnx]; omega)) only [stdh, stdx, ↓reduceIte, seval, r1, r5, r7, r8, hld1, encFr]
        refine pl0 K Q hnext (by omega) (hX _) hroom hC (xm _) hfs (by omega) n0 nC at_0 ?_ ?_ ?_ ?_ ?_ <;> rfl
      by_cases k1 : kd = 1
      · subst k1
        refine runL_V 25 ?_
        simp (disch := first | omega | (simp only [lnx]; omega)) only [stdh, stdx, ↓reduceIte, seval, r1, r5, r7, r8, hld1, encFr]
        refine pl1 K Q hnext (by omega) (hX _) hroom hC (xm _) hfs (by omega) n0 nC at_0 ?_ ?_ ?_ ?_ ?_ <;> rfl
      by_cases k2 : kd = 2
      · subst k2
        refine runL_V 31 ?_
        simp (disch := first | omega | (simp only [lnx]; omega)) only [stdh, stdx, ↓reduceIte, seval, r1, r5, r7, r8, hld1, encFr]
        refine pl2 K Q hnext (by omega) (hX _) hroom hC (xm _) hfs (by omega) n0 nC at_0 ?_ ?_ ?_ ?_ ?_ <;> rfl
      have d0 : decide (kd = 0) = false := decide_eq_false k0
      have d1 : decide (kd = 1) = false := decide_eq_false k1
      have d2 : decide (kd = 2) = false := decide_eq_false k2
      refine runL_V 60 ?_
      simp (disch := first | omega | (simp only [lnx]; omega)) only [stdh, stdx, ↓reduceIte, seval, r1, r5, r7, r8, hld1, encFr, d0, d1, d2, xm, eqA]
      refine callK_fn (alike14_ok (hX _) _ ?_)
      refine runL_V 60 ?_
      simp (disch := first | omega | (simp only [lnx]; omega)) only [stdh, stdx, ↓reduceIte, seval, r1, r5, r7, r8]
      rw [hcast]
      exact hnext _ P M ord sl _ (hX _) hC (xm _) rfl rfl rfl rfl
    · by_cases hi1 : i < l.length
      · simp (disch := first | omega | (simp only [lnx]; omega)) only [stdh, stdx, ↓reduceIte, seval, r1, r5, r7, r8]
        exact hK _ _
      · simp (disch := first | omega | (simp only [lnx]; omega)) only [stdh, stdx, ↓reduceIte, seval, r1, r5, r7, r8]
        exact hK _ _
  termination_by z => z
end

theorem tnew_bad (H : AHeap) (room : Int) (hr : ¬ (1 ≤ room ∧ room ≤ 16)) (Q : AVal → AHeap → Prop) (hq : Q (.tup [.nilp, .int .i64 5]) H) : FunOK Try.prog F.table_New [.int .i64 room] H Q := by
  refine fun_iced table_New_code fun _ => ?_
  refine fun_V 60 table_New_code rfl ?_
  by_cases h1 : room < 1
  · simp (disch := first | omega | (simp only [lnx]; omega)) only [stdh, stdx, ↓reduceIte, seval, table_New, table_New.body]
    exact ice_keeps ⟨Nat.le_refl _, fun _ _ => rfl⟩ (by simp [closed, closeds]) hq
  · have h2 : 16 < room := by omega
    simp (disch := first | omega | (simp only [lnx]; omega)) only [stdh, stdx, ↓reduceIte, seval, table_New, table_New.body]
    exact ice_keeps ⟨Nat.le_refl _, fun _ _ => rfl⟩ (by simp [closed, closeds]) hq

set_option maxRecDepth 10000 in
set_option maxHeartbeats 8000000 in
theorem tableplays_ok {room : Int} {l : List TAct} (h32 : ∀ x ∈ l, is32 x.2.h.s) : FunOK Try.prog F.cuneiformlaw14_TablePlays [.int .i64 room, recs encTA false l] [] fun av _ => av = .bool true := by
  refine fun_V 60 cuneiformlaw14_TablePlays_code rfl ?_
  simp (disch := first | omega | (simp only [lnx]; omega)) only [stdh, stdx, ↓reduceIte, seval, cuneiformlaw14_TablePlays, cuneiformlaw14_TablePlays.body]
  by_cases hr : 1 ≤ room ∧ room ≤ 16
  · obtain ⟨n, rfl⟩ := Int.eq_ofNat_of_zero_le (show 0 ≤ room by omega)
    refine callK_fn (tnew_ok _ n (by omega) _ ?_)
    intro H P M hk hP hM hT
    refine runL_V 37 ?_
    simp (disch := first | omega | (simp only [lnx]; omega)) only [stdh, stdx, ↓reduceIte, seval, eqA]
    refine run_told (m := H.length) at_0 (cs' := [.int .i64 (n : Nat), recs encT false []]) (SeesL.cons (Sees.refl _) (SeesL.cons (Sees.nils false) SeesL.nil)) ?_
    rw [set_0]
    simp only [List.set_cons_zero]
    refine run_V0 60 ?_
    simp (disch := first | omega | (simp only [lnx]; omega)) only [stdh, stdx, ↓reduceIte, seval]
    have hP' : 0 ≤ P := hP
    have hC : H.length ∉ tabF P M .nils [] := fun hh => by have := hT.foot _ hh; omega
    refine pl_loop (room := n) (C := H.length) _ _ h32 (by omega) ?_ _ 0 _ P M .nils [] _ rfl (by omega) (hT.keeps (keeps_append _ _)) hC at_0 ?_ ?_ ?_ ?_
    · intro r H2
      refine run_V0 60 ?_
      simp (disch := first | omega | (simp only [lnx]; omega)) only [stdh, stdx, ↓reduceIte, seval]
      refine callK_fn (known14_ok _ _ ?_)
      refine runL_V 60 ?_
      simp (disch := first | omega | (simp only [lnx]; omega)) only [stdh, stdx, ↓reduceIte, seval]
    all_goals rfl
  · refine callK_fn (tnew_bad _ room hr _ ?_)
    refine runL_V 60 ?_
    by_cases h1 : room < 1
    · simp (disch := first | omega | (simp only [lnx]; omega)) only [stdh, stdx, ↓reduceIte, seval, eqA]
      refine callK_fn (known14_ok _ _ ?_)
      refine runL_V 60 ?_
      simp (disch := first | omega | (simp only [lnx]; omega)) only [stdh, stdx, ↓reduceIte, seval, eqA]
    · have h2 : 16 < room := by omega
      simp (disch := first | omega | (simp only [lnx]; omega)) only [stdh, stdx, ↓reduceIte, seval, eqA]
      refine callK_fn (known14_ok _ _ ?_)
      refine runL_V 60 ?_
      simp (disch := first | omega | (simp only [lnx]; omega)) only [stdh, stdx, ↓reduceIte, seval, eqA]
end Go.Proofs.Ytamcfgdnhgmkpaa

namespace Go.Proofs.Ytamcfgdnhgmkpaa.tablePlays
open Go Go.Am Go.ChangeShapes Go.WideShapes Go.ChangeAt Go.RowKit
set_option linter.unusedVariables false

theorem own : ownKnob Try.prog.godebug = none := by kernel_rfl
theorem laidOut : laidOutB Try.prog = true := by kernel_rfl

set_option maxRecDepth 100000 in
theorem lifted (os : Os) (started : os.Started) (H : Type) (enc : TypeId × Value → H) :
    ReturnsInHanded {} Try.checked os F.cuneiformlaw14_TablePlays .any (Rows.tablePlaysSpec.pre6 enc Try.prog Try.f6 Rows.tablePlaysRow.domain false) (Rows.tablePlaysSpec.post enc Try.prog Try.f6 false true false false) := by
  refine returnsInHanded_of_change (C := Try.checked) own started (by kernel_rfl) Try.func6
    (ChangeSpec.witness6 (enc := enc) (C := Try.checked) false ⟨#[], #[.int .i64 0, .slice none 0 0], []⟩ 8 (by kernel_rfl) (by kernel_rfl) (by kernel_rfl) (by kernel_rfl)) ?_
  intro W base args ds gs before hval hW hcnd _
  refine law_calls (shs := [.int .i64, .slice (.struct [.int .i64, shFrame])]) (tb := 4) laidOut (by kernel_rfl) ?_ (by kernel_rfl) Try.underlying4 rfl ?_ ?_ hval hW
  · intro t ht
    have : ∀ t ∈ Try.f6.params.toList, (Try.prog.readableRec t && decide (t < Try.prog.types.size)) = true := List.all_eq_true.1 (by kernel_rfl)
    simpa using this t ht
  · intro H ds hd
    match ds, hd with
    | [d0, d1], _ => exact ⟨rfl, rfl, rfl⟩
  · rintro xs ⟨a, r, rfl, ⟨v0, hv0, _⟩, b, r2, rfl, hb, rfl⟩
    cases hv0
    obtain ⟨l, q1, q2⟩ := tacts_fits hb
    exact fun_sees (.cons (.refl _) (.cons q1 .nil)) (tableplays_ok q2)

theorem proved : Rows.TablePlaysSaid :=
  OpenClaim.holds_of_wide F.cuneiformlaw14_TablePlays Try.f6 rfl rfl rfl rfl rfl rfl rfl ⟨rfl, rfl, rfl, rfl, rfl⟩ rfl rfl rfl rfl rfl (by kernel_rfl) Try.func6 (by kernel_rfl)
    (of_decide_eq_true (by kernel_rfl)) (by unfold Func.isWrapper; first | (rw [if_pos (by decide +kernel)]; kernel_rfl) | (rw [if_neg (by decide +kernel)]; exact ⟨rfl, rfl⟩))
    (fun os started H enc _ => lifted os started H enc)
end Go.Proofs.Ytamcfgdnhgmkpaa.tablePlays
