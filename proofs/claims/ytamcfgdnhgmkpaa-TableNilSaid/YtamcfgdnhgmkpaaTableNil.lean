/-
  A nil table has no slots: it takes no frame, drops nothing, and has nothing to tell. By an AI agent. No person has read it.
-/
import Derived.Test.YtamcfgdnhgmkpaaCode
import Derived.Test.YtamcfgdnhgmkpaaTABA
import Derived.Test.YtamcfgdnhgmkpaaAm6
import Derived.OpenShut
import Derived.Test.YtamcfgdnhgmkpaaRows
set_option linter.unusedSimpArgs false
set_option linter.unusedVariables false

namespace Go.Proofs.Ytamcfgdnhgmkpaa
open Go Go.Am
set_option linter.unusedSimpArgs false
set_option linter.unusedVariables false

theorem known14_ok (H : AHeap) (Q : AVal → AHeap → Prop) (h : Q (.bool true) H) : FunOK Try.prog F.cuneiformlaw14_known [] H Q := fun_reck codes_ok 10000 (.bool true) (by kernel_rfl) rfl rfl H Q h

theorem each1_nil {H : AHeap} {n : Nat} : Iter Try.prog F.table_Table_each_1 [.yld n, cell .nilp] n (fun _ => [.int .u32 0, .nilp]) 0 [] H := by
  intro I hI fp hi hown
  refine fun_V 100 table_Table_each_1_code rfl ?_
  simp (disch := first | omega | (simp only [lnx]; omega)) only [stdh, stdx, ↓reduceIte, seval, table_Table_each_1, table_Table_each_1.body, eqA]
  exact ⟨true, 0, fp, fun _ _ _ => trivial, fun _ => rfl, hi⟩

theorem each_nil (H : AHeap) (Q : AVal → AHeap → Prop) (h : Q (.fn F.table_Table_each_1 [] [cell .nilp]) H) : FunOK Try.prog F.table_Table_each [.nilp] H Q := by
  refine fun_iced table_Table_each_code fun _ => ?_
  refine fun_V 40 table_Table_each_code rfl ?_
  simp (disch := first | omega | (simp only [lnx]; omega)) only [stdh, stdx, ↓reduceIte, seval, table_Table_each, table_Table_each.body]
  exact ice_clo1 trivial h

theorem all_nil (H : AHeap) (Q : AVal → AHeap → Prop) (h : Q (.fn F.table_Table_All_1 [] [cell .nilp]) H) : FunOK Try.prog F.table_Table_All [.nilp] H Q := by
  refine fun_iced table_Table_All_code fun _ => ?_
  refine fun_V 40 table_Table_All_code rfl ?_
  simp (disch := first | omega | (simp only [lnx]; omega)) only [stdh, stdx, ↓reduceIte, seval, table_Table_All, table_Table_All.body]
  exact ice_clo1 trivial h

theorem all1_nil {H : AHeap} {n : Nat} : Iter Try.prog F.table_Table_All_1 [.yld n, cell .nilp] n (fun _ => [.int .u32 0, .nilp]) 0 [] H := by
  intro I hI fp hi hown
  refine fun_V 100 table_Table_All_1_code rfl ?_
  simp (disch := first | omega | (simp only [lnx]; omega)) only [stdh, stdx, ↓reduceIte, seval, table_Table_All_1, table_Table_All_1.body]
  refine ⟨rfl, ?_⟩
  refine callK_fn (each_nil _ _ ?_)
  refine runL_V 60 ?_
  simp (disch := first | omega | (simp only [lnx]; omega)) only [stdh, stdx, ↓reduceIte, seval]
  refine range_vars (g := F.table_Table_each_1) (first := []) (captured := [cell .nilp]) rfl (by intro n hn; cases hn) (item := fun _ => [.int .u32 0, .nilp]) (len := 0) (fun j => rfl) [] (fun _ => none) vars_nil (fun _ _ _ _ hj => absurd hj (by omega)) (fun _ _ _ => each1_nil) ?_ (fun _ _ _ _ _ _ hh => by cases hh)
  intro H' hl hk _ _
  have hl' : H.length ≤ H'.length := by simp at hl; omega
  have hk' : ∀ m, m < H.length → H'[m]? = H[m]? := fun m hm => (hk m (by simp; omega) (by simp)).trans (List.getElem?_append_left hm)
  refine run_V0 60 ?_
  simp (disch := first | omega | (simp only [lnx]; omega)) only [stdh, stdx, ↓reduceIte, seval]
  refine run_fin rfl rfl trivial ?_
  exact ⟨true, 0, fp, hl', fun m hm _ => hk' m hm, fun _ => rfl, (hI.foot true 0).stable fp H H' hi hl' fun m hm => hk' m ((hI.foot true 0).lt fp H hi m hm)⟩

theorem tput_nil (v k s i c : Int) (bs : List Nat) (H : AHeap) (Q : AVal → AHeap → Prop) (h : Q (.tup [.agg [.nils, .bool false, .bool false, .int .u32 0], .int .i64 1]) H) : FunOK Try.prog F.table_Table_Put [.nilp, .agg [.int .i64 v, .int .i64 k, .int .u32 s, .int .i64 i, .int .i64 c, nums .u8 false bs]] H Q := by
  refine fun_iced table_Table_Put_code fun _ => ?_
  refine fun_V 40 table_Table_Put_code rfl ?_
  simp (disch := first | omega | (simp only [lnx]; omega)) only [stdh, stdx, ↓reduceIte, seval, table_Table_Put, table_Table_Put.body, eqA]
  exact ice_keeps (keeps_append _ _) (by simp [closed, closeds]) h

theorem drop_nil (s : Int) (H : AHeap) (Q : AVal → AHeap → Prop) (h : Q (.bool false) H) : FunOK Try.prog F.table_Table_Drop [.nilp, .int .u32 s] H Q := by
  refine fun_iced table_Table_Drop_code fun _ => ?_
  refine fun_V 40 table_Table_Drop_code rfl ?_
  simp (disch := first | omega | (simp only [lnx]; omega)) only [stdh, stdx, ↓reduceIte, seval, table_Table_Drop, table_Table_Drop.body, eqA]
  exact ice_keeps (Keeps.refl _) (by simp [closed]) h

set_option maxHeartbeats 4000000 in
theorem tnil_ok (v k s i c : Int) (bs : List Nat) : FunOK Try.prog F.cuneiformlaw14_TableNil [.agg [.int .i64 v, .int .i64 k, .int .u32 s, .int .i64 i, .int .i64 c, nums .u8 false bs]] [] fun av _ => av = .bool true := by
  refine fun_V 60 cuneiformlaw14_TableNil_code rfl ?_
  simp (disch := first | omega | (simp only [lnx]; omega)) only [stdh, stdx, ↓reduceIte, seval, cuneiformlaw14_TableNil, cuneiformlaw14_TableNil.body]
  refine callK_fn (tput_nil _ _ _ _ _ _ _ _ ?_)
  refine runL_V 60 ?_
  simp (disch := first | omega | (simp only [lnx]; omega)) only [stdh, stdx, ↓reduceIte, seval]
  refine callK_fn (all_nil _ _ ?_)
  refine runL_V 60 ?_
  simp (disch := first | omega | (simp only [lnx]; omega)) only [stdh, stdx, ↓reduceIte, seval, eqA]
  refine range_vars (g := F.table_Table_All_1) (first := []) (captured := [cell .nilp]) rfl (by intro n hn; cases hn) (item := fun _ => [.int .u32 0, .nilp]) (len := 0) (fun j => rfl) [] (fun _ => none) vars_nil (fun _ _ _ _ hj => absurd hj (by omega)) (fun _ _ _ => all1_nil) ?_ (fun _ _ _ _ _ _ hh => by cases hh)
  intro H' hl hk _ _
  have hk0 : H'[0]? = some (.cells [.int .i64 v, .int .i64 k, .int .u32 s, .int .i64 i, .int .i64 c, nums .u8 false bs] T.frame_Frame) := (hk 0 (by (first | omega | (simp only [lnx]; omega))) (by simp)).trans rfl
  have hk1 : H'[1]? = some (.cells [.nils, .bool false, .bool false, .int .u32 0] T.table_Out) := (hk 1 (by (first | omega | (simp only [lnx]; omega))) (by simp)).trans rfl
  have hk2 : H'[2]? = some (.cells [.int .i64 0] T.int) := (hk 2 (by (first | omega | (simp only [lnx]; omega))) (by simp)).trans rfl
  clear hk hl
  refine run_V0 60 ?_
  simp (disch := first | omega | (simp only [lnx]; omega)) only [stdh, stdx, ↓reduceIte, seval]
  refine callK_fn (known14_ok _ _ ?_)
  refine runL_V 60 ?_
  simp (disch := first | omega | (simp only [lnx]; omega)) only [stdh, stdx, ↓reduceIte, seval, hk0, hk1, hk2]
  refine callK_fn (fun_reck codes_ok 1000 (.bool true) (by kernel_rfl) rfl rfl _ _ ?_)
  refine runL_V 60 ?_
  simp (disch := first | omega | (simp only [lnx]; omega)) only [stdh, stdx, ↓reduceIte, seval, hk0, hk1, hk2]
  refine callK_fn (drop_nil _ _ _ ?_)
  refine runL_V 60 ?_
  simp (disch := first | omega | (simp only [lnx]; omega)) only [stdh, stdx, ↓reduceIte, seval, hk0, hk1, hk2]
  refine callK_fn (fun_reckI codes_ok 100 (.imm [] 0 false) (by kernel_rfl) rfl _ _ ?_)
  refine runL_V 60 ?_
  simp (disch := first | omega | (simp only [lnx]; omega)) only [stdh, stdx, ↓reduceIte, seval, hk0, hk1, hk2]
  refine callK_fn (fun_reck codes_ok 1000 (.int .i64 0) (by kernel_rfl) rfl rfl _ _ ?_)
  refine runL_V 60 ?_
  simp (disch := first | omega | (simp only [lnx]; omega)) only [stdh, stdx, ↓reduceIte, seval, hk0, hk1, hk2]
  refine callK_fn (fun_reck codes_ok 1000 (.int .i64 0) (by kernel_rfl) rfl rfl _ _ ?_)
  refine runL_V 60 ?_
  simp (disch := first | omega | (simp only [lnx]; omega)) only [stdh, stdx, ↓reduceIte, seval, hk0, hk1, hk2]
  refine callK_fn (fun_reck codes_ok 1000 (.int .i64 0) (by kernel_rfl) rfl rfl _ _ ?_)
  refine runL_V 60 ?_
  simp (disch := first | omega | (simp only [lnx]; omega)) only [stdh, stdx, ↓reduceIte, seval, hk0, hk1, hk2]
  refine callK_fn (fun_reck codes_ok 1000 .nilp (by kernel_rfl) rfl rfl _ _ ?_)
  refine runL_V 60 ?_
  simp (disch := first | omega | (simp only [lnx]; omega)) only [stdh, stdx, ↓reduceIte, seval, hk0, hk1, hk2, eqA]
end Go.Proofs.Ytamcfgdnhgmkpaa

namespace Go.Proofs.Ytamcfgdnhgmkpaa.tableNil
open Go Go.Am Go.ChangeShapes Go.WideShapes Go.ChangeAt Go.RowKit
set_option linter.unusedVariables false

theorem own : ownKnob Try.prog.godebug = none := by kernel_rfl
theorem laidOut : laidOutB Try.prog = true := by kernel_rfl

set_option maxRecDepth 100000 in
theorem lifted (os : Os) (started : os.Started) (H : Type) (enc : TypeId × Value → H) :
    ReturnsInHanded {} Try.checked os F.cuneiformlaw14_TableNil .any (Rows.tableNilSpec.pre6 enc Try.prog Try.f5 Rows.tableNilRow.domain false) (Rows.tableNilSpec.post enc Try.prog Try.f5 false true false false) := by
  refine returnsInHanded_of_change (C := Try.checked) own started (by kernel_rfl) Try.func5
    (ChangeSpec.witness6 (enc := enc) (C := Try.checked) false ⟨#[], #[.agg #[.int .i64 0, .int .i64 0, .int .u32 0, .int .i64 0, .int .i64 0, .slice none 0 0]], []⟩ 8 (by kernel_rfl) (by kernel_rfl) (by kernel_rfl) (by kernel_rfl)) ?_
  intro W base args ds gs before hval hW hcnd _
  refine law_calls (shs := [shFrame]) (tb := 4) laidOut (by kernel_rfl) ?_ (by kernel_rfl) Try.underlying4 rfl ?_ ?_ hval hW
  · intro t ht
    have : ∀ t ∈ Try.f5.params.toList, (Try.prog.readableRec t && decide (t < Try.prog.types.size)) = true := List.all_eq_true.1 (by kernel_rfl)
    simpa using this t ht
  · intro H ds hd
    match ds, hd with
    | [d0], _ => exact ⟨rfl, rfl, rfl⟩
  · rintro xs ⟨a, r, rfl, ha, rfl⟩
    obtain ⟨v, k, s, i, c, bs, h1, _⟩ := frame_fits ha
    exact fun_sees (.cons h1 .nil) (tnil_ok v k s i c bs)

theorem proved : Rows.TableNilSaid :=
  OpenClaim.holds_of_wide F.cuneiformlaw14_TableNil Try.f5 rfl rfl rfl rfl rfl rfl rfl ⟨rfl, rfl, rfl, rfl, rfl⟩ rfl rfl rfl rfl rfl (by kernel_rfl) Try.func5 (by kernel_rfl)
    (of_decide_eq_true (by kernel_rfl)) (by unfold Func.isWrapper; first | (rw [if_pos (by decide +kernel)]; kernel_rfl) | (rw [if_neg (by decide +kernel)]; exact ⟨rfl, rfl⟩))
    (fun os started H enc _ => lifted os started H enc)
end Go.Proofs.Ytamcfgdnhgmkpaa.tableNil
