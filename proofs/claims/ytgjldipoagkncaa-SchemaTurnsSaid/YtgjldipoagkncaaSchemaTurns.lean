/-
  Any body, turned from any version to any other one, is what the document makes of it, or what is wrong is what the document says (the first 250 bytes are looked at). By an AI agent. No person has read it.
-/
import Derived.Test.YtgjldipoagkncaaBODYD
import Derived.Test.YtgjldipoagkncaaBODYC
import Derived.Test.YtgjldipoagkncaaAm6
import Derived.OpenShut
import Derived.Test.YtgjldipoagkncaaRows
set_option linter.unusedSimpArgs false
set_option linter.unusedVariables false

namespace Go.Proofs.Ytgjldipoagkncaa
open Go Go.Am
def vIt (j : Nat) : List AVal := [.int .i64 ((j + 1 : Nat) : Int)]
theorem vers1_iter {H : AHeap} {n : Nat} : Iter Try.prog F.schema_Versions_1 [.yld n] n vIt 2 [] H := by
 intro I hI fp hi hown
 refine fun_V 100 schema_Versions_1_code rfl ?_
 simp (disch := first | omega | (simp only [lnx]; omega)) only [stdh, stdx, ↓reduceIte, seval, schema_Versions_1, schema_Versions_1.body]
 refine CallV.mono (hI.step 0 fp H (by omega) hi) fun av H1 hh => ?_
 obtain ⟨fp1, ht, hh⟩ := hh
 refine runL_V 60 ?_
 rcases hh with ⟨rfl, hi'⟩ | ⟨rfl, hi'⟩
 ·simp (disch := first | omega | (simp only [lnx]; omega)) only [stdh, stdx, ↓reduceIte, seval]
  refine CallV.mono (hI.step 1 fp1 H1 (by omega) hi') fun av H2 hh => ?_
  obtain ⟨fp2, ht2, hh⟩ := hh
  refine runL_V 60 ?_
  rcases hh with ⟨rfl, hi2⟩ | ⟨rfl, hi2⟩
  ·simp (disch := first | omega | (simp only [lnx]; omega)) only [stdh, stdx, ↓reduceIte, seval]
   refine run_fin rfl rfl trivial ?_
   exact ⟨true, 2, fp2, (ht.trans ht2).le, (ht.trans ht2).kept, fun _ => rfl, hi2⟩
  ·simp (disch := first | omega | (simp only [lnx]; omega)) only [stdh, stdx, ↓reduceIte, seval]
   refine run_fin rfl rfl trivial ?_
   exact ⟨false, 2, fp2, (ht.trans ht2).le, (ht.trans ht2).kept, (fun h => by cases h), hi2⟩
 ·simp (disch := first | omega | (simp only [lnx]; omega)) only [stdh, stdx, ↓reduceIte, seval]
  refine run_fin rfl rfl trivial ?_
  exact ⟨false, 1, fp1, ht.le, ht.kept, (fun h => by cases h), hi'⟩
theorem vers_ok (H : AHeap) (Q : AVal → AHeap → Prop) (h : Q (.fn F.schema_Versions_1 [] []) H) : FunOK Try.prog F.schema_Versions [] H Q := by
 refine fun_V 40 schema_Versions_code rfl ?_
 simp (disch := first | omega | (simp only [lnx]; omega)) only [stdh, stdx, ↓reduceIte, seval, schema_Versions, schema_Versions.body]
 exact h
set_option maxHeartbeats 4000000 in
theorem is_no (H : AHeap) {v : Int} (hv : v ≠ 1 ∧ v ≠ 2) (Q : AVal → AHeap → Prop) (h : Q (.bool false) H) : FunOK Try.prog F.schema_is [.int .i64 v] H Q := by
 refine fun_iced schema_is_code fun _ => ?_
 refine fun_V 60 schema_is_code rfl ?_
 simp (disch := first | omega | (simp only [lnx]; omega)) only [stdh, stdx, ↓reduceIte, seval, schema_is, schema_is.body]
 refine callK_fn (vers_ok _ _ ?_)
 refine runL_V 60 ?_
 simp (disch := first | omega | (simp only [lnx]; omega)) only [stdh, stdx, ↓reduceIte, seval]
 have e0 : (H ++ [ABlk.cells [AVal.int .i64 v] T.int, ABlk.cells [AVal.bool false] T.bool])[H.length]? = some (ABlk.cells [AVal.int .i64 v] T.int) := at_0
 have e1 : (H ++ [ABlk.cells [AVal.int .i64 v] T.int, ABlk.cells [AVal.bool false] T.bool])[H.length + 1]? = some (ABlk.cells [AVal.bool false] T.bool) := at_k
 have hk0 : Keeps H (H ++ [ABlk.cells [AVal.int .i64 v] T.int, ABlk.cells [AVal.bool false] T.bool]) := keeps_append _ _
 have hl0 : (H ++ [ABlk.cells [AVal.int .i64 v] T.int, ABlk.cells [AVal.bool false] T.bool]).length = H.length + 2 := by simp
 generalize H ++ [ABlk.cells [AVal.int .i64 v] T.int, ABlk.cells [AVal.bool false] T.bool] = H2 at *
 refine range_vars (g := F.schema_Versions_1) (first := []) (captured := []) rfl (by intro n hn; cases hn) (item := vIt) (len := 2) (fun j => rfl) [] (fun _ => none) vars_nil ?_ (fun _ _ _ => vers1_iter) ?_ (fun _ _ _ _ _ _ hh => by cases hh)
 ·intro a' b' j H1 hj _ hl hk hrec _
  have q0 := (hk H.length (by omega) (by simp)).trans e0
  have hd : decide (((j + 1 : Nat) : Int) = v) = false := decide_eq_false (by omega)
  refine run_V0 60 ?_
  simp (disch := first | omega | (simp only [lnx]; omega)) only [stdh, stdx, ↓reduceIte, seval, schema_is.a0, schema_is.b0, hrec, q0, vIt, hd, List.zip_cons_cons, List.zip_nil_left, List.reverse_cons, List.reverse_nil, List.getElem?_set_self, List.getElem?_set_ne]
  refine round_fin (n := H2.length) (L := lrec _ _ _ a' b' .busy none) rfl (by simp (disch := first | omega | (simp only [lnx]; omega)) only [List.getElem?_set_ne, List.getElem?_set_self, List.length_set, ne_eq, not_false_eq_true]; rfl) ?_
  refine varsQ_mk rfl (by (first | omega | (simp only [lnx]; omega))) (fun m m1 m2 m3 => ?_) vars_nil (by simp (disch := first | omega | (simp only [lnx]; omega)) only [List.getElem?_set_ne, List.getElem?_set_self, List.length_set, ne_eq, not_false_eq_true]; rfl)
  simp (disch := first | omega | (simp only [lnx]; omega)) only [List.getElem?_set_ne, List.getElem?_set_self, List.length_set, ne_eq, not_false_eq_true]
 ·intro H' hl hk _ _
  have q1 := (hk (H.length + 1) (by omega) (by simp)).trans e1
  refine run_V0 60 ?_
  simp (disch := first | omega | (simp only [lnx]; omega)) only [stdh, stdx, ↓reduceIte, seval, q1, List.getElem?_set_self]
  have hkk : Keeps H H' := ⟨by omega, fun m hm => (hk m (by omega) (by simp)).trans (hk0.at_ m hm)⟩
  exact ice_keeps (hkk.set (n := H.length + 1) (by omega) _) trivial h
def turnA (k f t : Int) (ys : List Nat) : List Nat × Bool × Int := if f < 1 ∨ 2 < f ∨ t < 1 ∨ 2 < t then ([], false, 10) else turnM k f t ys
set_option maxRecDepth 10000 in
set_option maxHeartbeats 4000000 in
theorem turnA_ok (H : AHeap) {k f t : Int} {ys : List Nat} {tt : Bool} (hb : ∀ b ∈ ys, b < 256) (hlen : ys.length ≤ 1000000) (Q : AVal → AHeap → Prop) (h : Q (.tup [nums .u8 false (turnA k f t ys).1, .bool (turnA k f t ys).2.1, .int .i64 (turnA k f t ys).2.2]) H) : FunOK Try.prog F.schema_Turn [.int .i64 k, .int .i64 f, .int .i64 t, nums .u8 tt ys] H Q := by
 by_cases hf : f = 1 ∨ f = 2
 ·by_cases ht : t = 1 ∨ t = 2
  ·rw [turnA, if_neg (by omega)] at h
   exact turn_ok H hf ht hb hlen Q h
  ·rw [turnA, if_pos (by omega)] at h
   refine fun_iced schema_Turn_code fun _ => ?_
   refine fun_V 60 schema_Turn_code rfl ?_
   simp (disch := first | omega | (simp only [lnx]; omega)) only [stdh, stdx, ↓reduceIte, seval, schema_Turn, schema_Turn.body]
   refine callK_fn (is_ok _ hf _ ?_)
   refine runL_V 60 ?_
   simp (disch := first | omega | (simp only [lnx]; omega)) only [stdh, stdx, ↓reduceIte, seval]
   refine callK_fn (is_no _ (by omega) _ ?_)
   refine runL_V 60 ?_
   simp (disch := first | omega | (simp only [lnx]; omega)) only [stdh, stdx, ↓reduceIte, seval]
   exact ice_seesK (Keeps.refl _) ⟨trivial, trivial, trivial, trivial⟩ (Sees.tup (.cons (Sees.nils false) (.cons (.refl _) (.cons (.refl _) .nil)))) h
 ·rw [turnA, if_pos (by omega)] at h
  refine fun_iced schema_Turn_code fun _ => ?_
  refine fun_V 60 schema_Turn_code rfl ?_
  simp (disch := first | omega | (simp only [lnx]; omega)) only [stdh, stdx, ↓reduceIte, seval, schema_Turn, schema_Turn.body]
  refine callK_fn (is_no _ (by omega) _ ?_)
  refine runL_V 60 ?_
  simp (disch := first | omega | (simp only [lnx]; omega)) only [stdh, stdx, ↓reduceIte, seval]
  exact ice_seesK (Keeps.refl _) ⟨trivial, trivial, trivial, trivial⟩ (Sees.tup (.cons (Sees.nils false) (.cons (.refl _) (.cons (.refl _) .nil)))) h
set_option maxRecDepth 10000 in
set_option maxHeartbeats 8000000 in
theorem rturn_ok (H : AHeap) {k f t : Int} {ys : List Nat} {tt : Bool} (hb : ∀ b ∈ ys, b < 256) (hlen : ys.length ≤ 1000000) (Q : AVal → AHeap → Prop) (h : Q (.tup [nums .u8 false (turnA k f t ys).1, .bool (turnA k f t ys).2.1, .int .i64 (turnA k f t ys).2.2]) H) : FunOK Try.prog F.cuneiformref19_Turn [.int .i64 k, .int .i64 f, .int .i64 t, nums .u8 tt ys] H Q := by
 refine fun_iced cuneiformref19_Turn_code fun _ => ?_
 refine fun_V 60 cuneiformref19_Turn_code rfl ?_
 have hbad : ∀ H' (e : Int), Keeps H H' → turnA k f t ys = ([], false, e) → IceQ H Q (.tup [.nils, .bool false, .int .i64 e]) H' := fun H' e hk he => by
  rw [he] at h
  exact ice_seesK hk ⟨trivial, trivial, trivial, trivial⟩ (Sees.tup (.cons (Sees.nils false) (.cons (.refl _) (.cons (.refl _) .nil)))) h
 by_cases h1 : f < 1
 ·have hd : decide (f < 1) = true := decide_eq_true h1
  simp (disch := first | omega | (simp only [lnx]; omega)) only [stdh, stdx, ↓reduceIte, seval, cuneiformref19_Turn, cuneiformref19_Turn.body, hd]
  exact hbad _ 10 (Keeps.refl _) (by rw [turnA, if_pos (by omega)])
 have d1 : decide (f < 1) = false := decide_eq_false h1
 by_cases h2 : 2 < f
 ·have hd : decide (2 < f) = true := decide_eq_true h2
  simp (disch := first | omega | (simp only [lnx]; omega)) only [stdh, stdx, ↓reduceIte, seval, cuneiformref19_Turn, cuneiformref19_Turn.body, d1, hd]
  exact hbad _ 10 (Keeps.refl _) (by rw [turnA, if_pos (by omega)])
 have d2 : decide (2 < f) = false := decide_eq_false h2
 by_cases h3 : t < 1
 ·have hd : decide (t < 1) = true := decide_eq_true h3
  simp (disch := first | omega | (simp only [lnx]; omega)) only [stdh, stdx, ↓reduceIte, seval, cuneiformref19_Turn, cuneiformref19_Turn.body, d1, d2, hd]
  exact hbad _ 10 (Keeps.refl _) (by rw [turnA, if_pos (by omega)])
 have d3 : decide (t < 1) = false := decide_eq_false h3
 by_cases h4 : 2 < t
 ·have hd : decide (2 < t) = true := decide_eq_true h4
  simp (disch := first | omega | (simp only [lnx]; omega)) only [stdh, stdx, ↓reduceIte, seval, cuneiformref19_Turn, cuneiformref19_Turn.body, d1, d2, d3, hd]
  exact hbad _ 10 (Keeps.refl _) (by rw [turnA, if_pos (by omega)])
 have d4 : decide (2 < t) = false := decide_eq_false h4
 have hT : turnA k f t ys = turnM k f t ys := by rw [turnA, if_neg (by omega)]
 simp (disch := first | omega | (simp only [lnx]; omega)) only [stdh, stdx, ↓reduceIte, seval, cuneiformref19_Turn, cuneiformref19_Turn.body, d1, d2, d3, d4]
 refine callK_fn (rdecode_ok _ hb hlen _ ?_)
 refine runL_V 60 ?_
 obtain ⟨f2, fs⟩ := dec_fine2 (k := k) (v := f) hlen
 have hright := dec_right (k := k) (v := f) hb
 rw [hT] at h hbad
 unfold turnM at h hbad
 generalize decM k f ys = d at *
 obtain ⟨m, e⟩ := d
 by_cases he : e = 0
 ·subst he
  obtain ⟨a1, a2, a3, a4, a5⟩ := hright rfl
  have a1 : m.k = k := a1
  have a3 : checkM m = 0 := a3
  have f2 : m.fine2 := f2
  have fs : m.small := fs
  have hel := encB_len f2.fine t
  have hd := dec_enc (v := t) (rest := []) a3 f2.fine (by omega)
  rw [List.append_nil, if_pos rfl, a1] at hd
  rw [if_neg (by simp)] at h
  simp only [bcheckE, a3] at h
  rw [if_neg (by omega)] at h
  simp (disch := first | omega | (simp only [lnx]; omega)) only [stdh, stdx, ↓reduceIte, seval, encM]
  refine callK_fn (rencode_ok _ m t f2 _ ?_)
  refine runL_V 60 ?_
  simp (disch := first | omega | (simp only [lnx]; omega)) only [stdh, stdx, ↓reduceIte, seval]
  refine callK_fn (rdecode_ok _ (encB_byte m t) (by omega) _ ?_)
  rw [hd]
  refine runL_V 60 ?_
  simp (disch := first | omega | (simp only [lnx]; omega)) only [stdh, stdx, ↓reduceIte, seval, encM]
  refine callK_fn (rsame_ok _ (projectM m t) m (projectM_small fs t).fit2 _ ?_)
  refine runL_V 60 ?_
  simp (disch := first | omega | (simp only [lnx]; omega)) only [stdh, stdx, ↓reduceIte, seval]
  exact ice_none ⟨closed_nums _ _ _, trivial, trivial, trivial⟩ h
 ·have hd : decide ((e : Int) = 0) = false := decide_eq_false (by omega)
  simp (disch := first | omega | (simp only [lnx]; omega)) only [stdh, stdx, ↓reduceIte, seval, encM, hd]
  exact hbad _ _ (keeps_append _ _) (by rw [if_pos he])
set_option maxRecDepth 10000 in
set_option maxHeartbeats 4000000 in
theorem schematurns_ok {k f t : Int} {bs : List Nat} (hb : ∀ b ∈ bs, b < 256) (hlen : bs.length ≤ 9223372036854775807) : FunOK Try.prog F.cuneiformlaw19_SchemaTurns [.int .i64 k, .int .i64 f, .int .i64 t, nums .u8 false bs] [] fun av _ => av = .bool true := by
 refine fun_V 60 cuneiformlaw19_SchemaTurns_code rfl ?_
 simp (disch := first | omega | (simp only [lnx]; omega)) only [stdh, stdx, ↓reduceIte, seval, cuneiformlaw19_SchemaTurns, cuneiformlaw19_SchemaTurns.body]
 obtain ⟨ys, hys⟩ : ∃ ys, ys = bs.take (if (250 : Int) < (bs.length : Int) then 250 else (bs.length : Int)).toNat := ⟨_, rfl⟩
 have hyb : ∀ b ∈ ys, b < 256 := fun b h => hb b (List.mem_of_mem_take (by rw [hys] at h; exact h))
 have hyl : ys.length ≤ 250 := by
  rw [hys, List.length_take]
  split <;> omega
 rw [← hys]
 clear hys
 refine callK_fn (turnA_ok _ hyb (by omega) _ ?_)
 refine runL_V 60 ?_
 simp (disch := first | omega | (simp only [lnx]; omega)) only [stdh, stdx, ↓reduceIte, seval]
 refine callK_fn (rturn_ok _ hyb (by omega) _ ?_)
 refine runL_V 60 ?_
 have hl : (turnA k f t ys).1.length ≤ 1152 := by
  obtain ⟨f2, fs⟩ := dec_fine2 (k := k) (v := f) (ys := ys) (by omega)
  unfold turnA
  split
  ·simp
  unfold turnM
  split
  ·simp
  ·exact encB_len f2.fine t
 generalize turnA k f t ys = X at *
 obtain ⟨xs, w, e⟩ := X
 have hl : xs.length ≤ 1152 := hl
 simp (disch := first | omega | (simp only [lnx]; omega)) only [stdh, stdx, ↓reduceIte, seval]
 refine callK_fn (known19_ok _ _ ?_)
 refine runL_V 60 ?_
 simp (disch := first | omega | (simp only [lnx]; omega)) only [stdh, stdx, ↓reduceIte, seval]
 refine callK_fn (bsame_ok _ (nums_nats .u8 _ _ _) (nums_nats .u8 _ _ _) (by omega) _ ?_)
 rw [decide_eq_true rfl]
 refine runL_V 60 ?_
 simp (disch := first | omega | (simp only [lnx]; omega)) only [stdh, stdx, ↓reduceIte, seval]
end Go.Proofs.Ytgjldipoagkncaa

namespace Go.Proofs.Ytgjldipoagkncaa.schemaTurns
open Go Go.Am Go.ChangeShapes Go.WideShapes Go.ChangeAt Go.RowKit
set_option linter.unusedVariables false

theorem own : ownKnob Try.prog.godebug = none := by kernel_rfl
theorem laidOut : laidOutB Try.prog = true := by kernel_rfl

set_option maxRecDepth 100000 in
theorem lifted (os : Os) (started : os.Started) (H : Type) (enc : TypeId × Value → H) :
    ReturnsInHanded {} Try.checked os F.cuneiformlaw19_SchemaTurns .any (Rows.schemaTurnsSpec.pre6 enc Try.prog Try.f3 Rows.schemaTurnsRow.domain false) (Rows.schemaTurnsSpec.post enc Try.prog Try.f3 false true false false) := by
  refine returnsInHanded_of_change (C := Try.checked) own started (by kernel_rfl) Try.func3
    (ChangeSpec.witness6 (enc := enc) (C := Try.checked) false ⟨#[], #[.int .i64 1, .int .i64 1, .int .i64 2, .slice none 0 0], []⟩ 8 (by kernel_rfl) (by kernel_rfl) (by kernel_rfl) (by kernel_rfl)) ?_
  intro W base args ds gs before hval hW hcnd _
  refine law_calls (shs := [.int .i64, .int .i64, .int .i64, .slice (.int .u8)]) (tb := 4) laidOut (by kernel_rfl) ?_ (by kernel_rfl) Try.underlying4 rfl ?_ ?_ hval hW
  · intro t ht
    have : ∀ t ∈ Try.f3.params.toList, (Try.prog.readableRec t && decide (t < Try.prog.types.size)) = true := List.all_eq_true.1 (by kernel_rfl)
    simpa using this t ht
  · intro H ds hd
    match ds, hd with
    | [d0, d1, d2, d3], _ => exact ⟨rfl, rfl, rfl⟩
  · rintro xs ⟨a, r, rfl, ⟨k, hk, _⟩, a2, r2, rfl, ⟨v, hv, _⟩, a3, r3, rfl, ⟨w, hw, _⟩, b, r4, rfl, hb, rfl⟩
    cases hk
    cases hv
    cases hw
    obtain ⟨bs, q1, q2, q3⟩ := nums_fits (k := .u8) rfl hb
    have hb : ∀ b ∈ bs, b < 256 := fun b hb => by
      have := q2 b hb
      simp only [Lit.wf, Bool.and_eq_true, decide_eq_true_eq, IntKind.min, IntKind.max, IntKind.signed, IntKind.bits] at this
      simp at this
      omega
    exact fun_sees (.cons (.refl _) (.cons (.refl _) (.cons (.refl _) (.cons q1 .nil)))) (schematurns_ok hb q3)

theorem proved : Rows.SchemaTurnsSaid :=
  OpenClaim.holds_of_wide F.cuneiformlaw19_SchemaTurns Try.f3 rfl rfl rfl rfl rfl rfl rfl ⟨rfl, rfl, rfl, rfl, rfl⟩ rfl rfl rfl rfl rfl (by kernel_rfl) Try.func3 (by kernel_rfl)
    (of_decide_eq_true (by kernel_rfl)) (by unfold Func.isWrapper; first | (rw [if_pos (by decide +kernel)]; kernel_rfl) | (rw [if_neg (by decide +kernel)]; exact ⟨rfl, rfl⟩))
    (fun os started H enc _ => lifted os started H enc)
end Go.Proofs.Ytgjldipoagkncaa.schemaTurns
