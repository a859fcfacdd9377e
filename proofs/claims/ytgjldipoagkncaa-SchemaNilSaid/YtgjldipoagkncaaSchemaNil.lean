/-
  whatever the message and the bytes, the law SchemaNil returns true, and the input reads as it did. No condition. By an AI agent. No person has read it.
-/
import Derived.Test.YtgjldipoagkncaaCode
import Derived.Test.YtgjldipoagkncaaLIB
import Derived.Test.YtgjldipoagkncaaAm5
import Derived.OpenShut
import Derived.Test.YtgjldipoagkncaaRows

namespace Go.Proofs.Ytgjldipoagkncaa
open Go Go.Am
set_option linter.unusedSimpArgs false
set_option linter.unusedVariables false

theorem known19_ok (H : AHeap) (Q : AVal → AHeap → Prop) (h : Q (.bool true) H) : FunOK Try.prog F.cuneiformlaw19_known [] H Q := fun_reck codes_ok 100000 (.bool true) (by kernel_rfl) rfl rfl H Q h

abbrev zeroMsg : AVal := .agg [.int .i64 0, .int .i64 0, .int .i64 0, .int .i64 0, .int .i64 0, .int .i64 0, .int .i64 0, .nils, .nils, .str ⟨#[]⟩, .str ⟨#[]⟩]

theorem pack_nil' {k n0 n1 n2 n3 n4 n5 : Int} {p c : AVal} {t g : ByteArray} (hp : p.cellish = true) (hc : c.cellish = true) (H : AHeap) (Q : AVal → AHeap → Prop) (h : Q (.tup [.int .i64 0, .nils, .int .i64 1]) H) :
    FunOK Try.prog F.schema_Schema_Pack [.nilp, .agg [.int .i64 k, .int .i64 n0, .int .i64 n1, .int .i64 n2, .int .i64 n3, .int .i64 n4, .int .i64 n5, p, c, .str t, .str g]] H Q := by
  refine fun_iced schema_Schema_Pack_code fun _ => ?_
  refine fun_V 40 schema_Schema_Pack_code rfl ?_
  simp (disch := first | omega | (simp only [List.length_append, List.length_cons, List.length_nil, List.length_set, List.length_map, List.length_take, List.length_drop]; omega)) only [stdh, ↓reduceIte, Nat.reduceEqDiff, Int.reduceToNat, Int.reducePow, Nat.reduceAdd, Nat.reduceLeDiff, Nat.reduceMul, Nat.reduceBEq, reduceCtorEq, schema_Schema_Pack, schema_Schema_Pack.body, eqA, hp, hc]
  exact ice_keeps (keeps_append _ _) ⟨trivial, trivial, trivial, trivial⟩ h

theorem fits_nil {k n0 n1 n2 n3 n4 n5 : Int} {p c : AVal} {t g : ByteArray} (hp : p.cellish = true) (hc : c.cellish = true) (H : AHeap) (Q : AVal → AHeap → Prop) (h : Q (.bool false) H) :
    FunOK Try.prog F.schema_Schema_Fits [.nilp, .agg [.int .i64 k, .int .i64 n0, .int .i64 n1, .int .i64 n2, .int .i64 n3, .int .i64 n4, .int .i64 n5, p, c, .str t, .str g]] H Q := by
  refine fun_iced schema_Schema_Fits_code fun _ => ?_
  refine fun_V 40 schema_Schema_Fits_code rfl ?_
  simp (disch := first | omega | (simp only [List.length_append, List.length_cons, List.length_nil, List.length_set, List.length_map, List.length_take, List.length_drop]; omega)) only [stdh, ↓reduceIte, Nat.reduceEqDiff, Int.reduceToNat, Int.reducePow, Nat.reduceAdd, Nat.reduceLeDiff, Nat.reduceMul, Nat.reduceBEq, reduceCtorEq, schema_Schema_Fits, schema_Schema_Fits.body, schema_Schema_Fits.d0, eqA, hp, hc]
  exact ice_keeps (keeps_append _ _) trivial h

theorem unpack_nil (b : AVal) (H : AHeap) (Q : AVal → AHeap → Prop) (h : Q (.tup [zeroMsg, .int .i64 1]) H) : FunOK Try.prog F.schema_Schema_Unpack [.nilp, .int .i64 1, b] H Q := by
  refine fun_iced schema_Schema_Unpack_code fun _ => ?_
  refine fun_V 40 schema_Schema_Unpack_code rfl ?_
  simp (disch := first | omega | (simp only [List.length_append, List.length_cons, List.length_nil, List.length_set, List.length_map, List.length_take, List.length_drop]; omega)) only [stdh, ↓reduceIte, Nat.reduceEqDiff, Int.reduceToNat, Int.reducePow, Nat.reduceAdd, Nat.reduceLeDiff, Nat.reduceMul, Nat.reduceBEq, reduceCtorEq, schema_Schema_Unpack, schema_Schema_Unpack.body, eqA]
  exact ice_keeps (keeps_append _ _) ⟨⟨trivial, trivial, trivial, trivial, trivial, trivial, trivial, trivial, trivial, trivial, trivial, trivial⟩, trivial, trivial⟩ h

def vItem (j : Nat) : List AVal := [.int .i64 ((j + 1 : Nat) : Int)]

theorem versions1_iter {H : AHeap} {n : Nat} : Iter Try.prog F.schema_Versions_1 [.yld n] n vItem 2 [] H := by
  intro I hI fp hi hown
  refine fun_V 100 schema_Versions_1_code rfl ?_
  simp (disch := first | omega | (simp only [List.length_append, List.length_cons, List.length_nil, List.length_set, List.length_map, List.length_take, List.length_drop]; omega)) only [stdh, ↓reduceIte, Nat.reduceEqDiff, Int.reduceToNat, Int.reducePow, Nat.reduceAdd, Nat.reduceLeDiff, Nat.reduceMul, Nat.reduceBEq, reduceCtorEq, schema_Versions_1, schema_Versions_1.body]
  refine CallV.mono (hI.step 0 fp H (by omega) hi) fun av H1 hh => ?_
  obtain ⟨fp1, ht, hh⟩ := hh
  refine runL_V 60 ?_
  rcases hh with ⟨rfl, hi'⟩ | ⟨rfl, hi'⟩
  · simp (disch := first | omega | (simp only [List.length_append, List.length_cons, List.length_nil, List.length_set, List.length_map, List.length_take, List.length_drop]; omega)) only [stdh, ↓reduceIte, Nat.reduceEqDiff, Int.reduceToNat, Int.reducePow, Nat.reduceAdd, Nat.reduceLeDiff, Nat.reduceMul, Nat.reduceBEq, reduceCtorEq]
    refine CallV.mono (hI.step 1 fp1 H1 (by omega) hi') fun av H2 hh => ?_
    obtain ⟨fp2, ht2, hh⟩ := hh
    refine runL_V 60 ?_
    rcases hh with ⟨rfl, hi2⟩ | ⟨rfl, hi2⟩
    · simp (disch := first | omega | (simp only [List.length_append, List.length_cons, List.length_nil, List.length_set, List.length_map, List.length_take, List.length_drop]; omega)) only [stdh, ↓reduceIte, Nat.reduceEqDiff, Int.reduceToNat, Int.reducePow, Nat.reduceAdd, Nat.reduceLeDiff, Nat.reduceMul, Nat.reduceBEq, reduceCtorEq]
      refine run_fin rfl rfl trivial ?_
      exact ⟨true, 2, fp2, (ht.trans ht2).le, (ht.trans ht2).kept, fun _ => rfl, hi2⟩
    · simp (disch := first | omega | (simp only [List.length_append, List.length_cons, List.length_nil, List.length_set, List.length_map, List.length_take, List.length_drop]; omega)) only [stdh, ↓reduceIte, Nat.reduceEqDiff, Int.reduceToNat, Int.reducePow, Nat.reduceAdd, Nat.reduceLeDiff, Nat.reduceMul, Nat.reduceBEq, reduceCtorEq]
      refine run_fin rfl rfl trivial ?_
      exact ⟨false, 2, fp2, (ht.trans ht2).le, (ht.trans ht2).kept, (fun h => by cases h), hi2⟩
  · simp (disch := first | omega | (simp only [List.length_append, List.length_cons, List.length_nil, List.length_set, List.length_map, List.length_take, List.length_drop]; omega)) only [stdh, ↓reduceIte, Nat.reduceEqDiff, Int.reduceToNat, Int.reducePow, Nat.reduceAdd, Nat.reduceLeDiff, Nat.reduceMul, Nat.reduceBEq, reduceCtorEq]
    refine run_fin rfl rfl trivial ?_
    exact ⟨false, 1, fp1, ht.le, ht.kept, (fun h => by cases h), hi'⟩

theorem versions_ok' (H : AHeap) (Q : AVal → AHeap → Prop) (h : Q (.fn F.schema_Versions_1 [] []) H) : FunOK Try.prog F.schema_Versions [] H Q := by
  refine fun_V 40 schema_Versions_code rfl ?_
  simp (disch := first | omega | (simp only [List.length_append, List.length_cons, List.length_nil, List.length_set, List.length_map, List.length_take, List.length_drop]; omega)) only [stdh, ↓reduceIte, Nat.reduceEqDiff, Int.reduceToNat, Int.reducePow, Nat.reduceAdd, Nat.reduceLeDiff, Nat.reduceMul, Nat.reduceBEq, reduceCtorEq, schema_Versions, schema_Versions.body]
  exact h

theorem scnil_ok {k n0 n1 n2 n3 n4 n5 : Int} {p c : AVal} {t g : ByteArray} (hp : p.cellish = true) (hc : c.cellish = true) (b : AVal) :
    FunOK Try.prog F.cuneiformlaw19_SchemaNil [.agg [.int .i64 k, .int .i64 n0, .int .i64 n1, .int .i64 n2, .int .i64 n3, .int .i64 n4, .int .i64 n5, p, c, .str t, .str g], b] [] fun av _ => av = .bool true := by
  refine fun_V 60 cuneiformlaw19_SchemaNil_code rfl ?_
  simp (disch := first | omega | (simp only [List.length_append, List.length_cons, List.length_nil, List.length_set, List.length_map, List.length_take, List.length_drop]; omega)) only [stdh, ↓reduceIte, Nat.reduceEqDiff, Int.reduceToNat, Int.reducePow, Nat.reduceAdd, Nat.reduceLeDiff, Nat.reduceMul, Nat.reduceBEq, reduceCtorEq, cuneiformlaw19_SchemaNil, cuneiformlaw19_SchemaNil.body, hp, hc]
  refine callK_fn (pack_nil' hp hc _ _ ?_)
  refine runL_V 60 ?_
  simp (disch := first | omega | (simp only [List.length_append, List.length_cons, List.length_nil, List.length_set, List.length_map, List.length_take, List.length_drop]; omega)) only [stdh, ↓reduceIte, Nat.reduceEqDiff, Int.reduceToNat, Int.reducePow, Nat.reduceAdd, Nat.reduceLeDiff, Nat.reduceMul, Nat.reduceBEq, reduceCtorEq]
  refine callK_fn (unpack_nil _ _ _ ?_)
  refine runL_V 60 ?_
  simp (disch := first | omega | (simp only [List.length_append, List.length_cons, List.length_nil, List.length_set, List.length_map, List.length_take, List.length_drop]; omega)) only [stdh, ↓reduceIte, Nat.reduceEqDiff, Int.reduceToNat, Int.reducePow, Nat.reduceAdd, Nat.reduceLeDiff, Nat.reduceMul, Nat.reduceBEq, reduceCtorEq]
  refine callK_fn (versions_ok' _ _ ?_)
  refine runL_V 60 ?_
  simp (disch := first | omega | (simp only [List.length_append, List.length_cons, List.length_nil, List.length_set, List.length_map, List.length_take, List.length_drop]; omega)) only [stdh, ↓reduceIte, Nat.reduceEqDiff, Int.reduceToNat, Int.reducePow, Nat.reduceAdd, Nat.reduceLeDiff, Nat.reduceMul, Nat.reduceBEq, reduceCtorEq, eqA]
  generalize hH : [ABlk.cells [AVal.int IntKind.i64 k, AVal.int IntKind.i64 n0, AVal.int IntKind.i64 n1, AVal.int IntKind.i64 n2, AVal.int IntKind.i64 n3, AVal.int IntKind.i64 n4, AVal.int IntKind.i64 n5, p, c, AVal.str t, AVal.str g] T.msg_Msg,
    ABlk.cells [AVal.int IntKind.i64 0, AVal.int IntKind.i64 0, AVal.int IntKind.i64 0, AVal.int IntKind.i64 0, AVal.int IntKind.i64 0, AVal.int IntKind.i64 0, AVal.int IntKind.i64 0, AVal.nils, AVal.nils, AVal.str ⟨#[]⟩, AVal.str ⟨#[]⟩] T.msg_Msg,
    ABlk.cells [AVal.int IntKind.i64 0] T.int] = H
  have e0 : H[0]? = some (ABlk.cells [AVal.int IntKind.i64 k, AVal.int IntKind.i64 n0, AVal.int IntKind.i64 n1, AVal.int IntKind.i64 n2, AVal.int IntKind.i64 n3, AVal.int IntKind.i64 n4, AVal.int IntKind.i64 n5, p, c, AVal.str t, AVal.str g] T.msg_Msg) := by rw [← hH]; rfl
  have e1 : H[1]? = some (ABlk.cells [AVal.int IntKind.i64 0, AVal.int IntKind.i64 0, AVal.int IntKind.i64 0, AVal.int IntKind.i64 0, AVal.int IntKind.i64 0, AVal.int IntKind.i64 0, AVal.int IntKind.i64 0, AVal.nils, AVal.nils, AVal.str ⟨#[]⟩, AVal.str ⟨#[]⟩] T.msg_Msg) := by rw [← hH]; rfl
  have e2 : H[2]? = some (.cells [.int .i64 (((fun j => if j = 0 then 0 else if j = 1 then 1 else 12) : Nat → Nat) 0 : Nat)] T.int) := by rw [← hH]; rfl
  have e4 : H.length = 3 := by rw [← hH]; rfl
  clear hH
  refine range_vars (g := F.schema_Versions_1) (first := []) (captured := []) rfl (by intro n hn; cases hn) (item := vItem) (len := 2) (fun j => rfl) [(2, T.int, fun j => .int .i64 (((fun j => if j = 0 then 0 else if j = 1 then 1 else 12) : Nat → Nat) j : Nat))] (fun _ => none) (vars_cons e2 vars_nil) ?_ (fun _ _ _ => versions1_iter) ?_ (fun _ _ _ _ _ _ hh => by cases hh)
  · intro a' b' j H1 hj _ hl hk hrec hv
    have q2 := hv.get (c := 2) (T := T.int) (f := fun j => .int .i64 (((fun j => if j = 0 then 0 else if j = 1 then 1 else 12) : Nat → Nat) j : Nat)) (by simp)
    refine run_V0 60 ?_
    have hj' : j = 0 ∨ j = 1 := by omega
    rcases hj' with rfl | rfl
    · replace q2 : H1[2]? = some (.cells [.int .i64 0] T.int) := q2
      simp (disch := first | omega | (simp only [List.length_append, List.length_cons, List.length_nil, List.length_set, List.length_map, List.length_take, List.length_drop]; omega)) only [stdh, ↓reduceIte, Nat.reduceEqDiff, Int.reduceToNat, Int.reducePow, Nat.reduceAdd, Nat.reduceLeDiff, Nat.reduceMul, Nat.reduceBEq, reduceCtorEq, cuneiformlaw19_SchemaNil.a0, cuneiformlaw19_SchemaNil.b0, hrec, q2, vItem, List.zip_cons_cons, List.zip_nil_left, List.reverse_cons, List.reverse_nil, List.getElem?_set_self, List.getElem?_set_ne]
      refine round_fin (n := H.length) (L := lrec _ _ _ a' b' .busy none) rfl (by simp (disch := first | omega | (simp only [List.length_append, List.length_cons, List.length_nil, List.length_set, List.length_map, List.length_take, List.length_drop]; omega)) only [List.getElem?_set_ne, List.getElem?_set_self, List.length_set, ne_eq, not_false_eq_true]; rfl) ?_
      refine varsQ_mk rfl (by (first | omega | (simp only [List.length_append, List.length_cons, List.length_nil, List.length_set, List.length_map, List.length_take, List.length_drop]; omega))) (fun m m1 m2 m3 => ?_) (vars_cons ?_ vars_nil) (by simp (disch := first | omega | (simp only [List.length_append, List.length_cons, List.length_nil, List.length_set, List.length_map, List.length_take, List.length_drop]; omega)) only [List.getElem?_set_ne, List.getElem?_set_self, List.length_set, ne_eq, not_false_eq_true]; rfl)
      · simp only [List.map_cons, List.map_nil, List.mem_cons, List.not_mem_nil, or_false] at m3
        simp (disch := first | omega | (simp only [List.length_append, List.length_cons, List.length_nil, List.length_set, List.length_map, List.length_take, List.length_drop]; omega)) only [List.getElem?_set_ne, List.getElem?_set_self, List.length_set, ne_eq, not_false_eq_true]
      · show _ = some (ABlk.cells [AVal.int .i64 1] T.int)
        simp (disch := first | omega | (simp only [List.length_append, List.length_cons, List.length_nil, List.length_set, List.length_map, List.length_take, List.length_drop]; omega)) only [List.getElem?_set_ne, List.getElem?_set_self, List.length_set, ne_eq, not_false_eq_true]; rfl
    · replace q2 : H1[2]? = some (.cells [.int .i64 1] T.int) := q2
      simp (disch := first | omega | (simp only [List.length_append, List.length_cons, List.length_nil, List.length_set, List.length_map, List.length_take, List.length_drop]; omega)) only [stdh, ↓reduceIte, Nat.reduceEqDiff, Int.reduceToNat, Int.reducePow, Nat.reduceAdd, Nat.reduceLeDiff, Nat.reduceMul, Nat.reduceBEq, reduceCtorEq, cuneiformlaw19_SchemaNil.a0, cuneiformlaw19_SchemaNil.b0, hrec, q2, vItem, List.zip_cons_cons, List.zip_nil_left, List.reverse_cons, List.reverse_nil, List.getElem?_set_self, List.getElem?_set_ne]
      refine round_fin (n := H.length) (L := lrec _ _ _ a' b' .busy none) rfl (by simp (disch := first | omega | (simp only [List.length_append, List.length_cons, List.length_nil, List.length_set, List.length_map, List.length_take, List.length_drop]; omega)) only [List.getElem?_set_ne, List.getElem?_set_self, List.length_set, ne_eq, not_false_eq_true]; rfl) ?_
      refine varsQ_mk rfl (by (first | omega | (simp only [List.length_append, List.length_cons, List.length_nil, List.length_set, List.length_map, List.length_take, List.length_drop]; omega))) (fun m m1 m2 m3 => ?_) (vars_cons ?_ vars_nil) (by simp (disch := first | omega | (simp only [List.length_append, List.length_cons, List.length_nil, List.length_set, List.length_map, List.length_take, List.length_drop]; omega)) only [List.getElem?_set_ne, List.getElem?_set_self, List.length_set, ne_eq, not_false_eq_true]; rfl)
      · simp only [List.map_cons, List.map_nil, List.mem_cons, List.not_mem_nil, or_false] at m3
        simp (disch := first | omega | (simp only [List.length_append, List.length_cons, List.length_nil, List.length_set, List.length_map, List.length_take, List.length_drop]; omega)) only [List.getElem?_set_ne, List.getElem?_set_self, List.length_set, ne_eq, not_false_eq_true]
      · show _ = some (ABlk.cells [AVal.int .i64 12] T.int)
        simp (disch := first | omega | (simp only [List.length_append, List.length_cons, List.length_nil, List.length_set, List.length_map, List.length_take, List.length_drop]; omega)) only [List.getElem?_set_ne, List.getElem?_set_self, List.length_set, ne_eq, not_false_eq_true]; rfl
  · intro H' hl hk _ hv
    have q0 := (hk 0 (by omega) (by simp)).trans e0
    have q1 := (hk 1 (by omega) (by simp)).trans e1
    have q2 := hv.get (c := 2) (T := T.int) (f := fun j => .int .i64 (((fun j => if j = 0 then 0 else if j = 1 then 1 else 12) : Nat → Nat) j : Nat)) (by simp)
    replace q2 : H'[2]? = some (.cells [.int .i64 12] T.int) := q2
    clear hk hv
    refine run_V0 60 ?_
    simp (disch := first | omega | (simp only [List.length_append, List.length_cons, List.length_nil, List.length_set, List.length_map, List.length_take, List.length_drop]; omega)) only [stdh, ↓reduceIte, Nat.reduceEqDiff, Int.reduceToNat, Int.reducePow, Nat.reduceAdd, Nat.reduceLeDiff, Nat.reduceMul, Nat.reduceBEq, reduceCtorEq]
    refine callK_fn (known19_ok _ _ ?_)
    refine runL_V 60 ?_
    simp (disch := first | omega | (simp only [List.length_append, List.length_cons, List.length_nil, List.length_set, List.length_map, List.length_take, List.length_drop]; omega)) only [stdh, ↓reduceIte, Nat.reduceEqDiff, Int.reduceToNat, Int.reducePow, Nat.reduceAdd, Nat.reduceLeDiff, Nat.reduceMul, Nat.reduceBEq, reduceCtorEq, q1]
    refine callK_fn (fun_reck codes_ok 1000 (.bool true) (by kernel_rfl) rfl rfl _ _ ?_)
    refine runL_V 60 ?_
    simp (disch := first | omega | (simp only [List.length_append, List.length_cons, List.length_nil, List.length_set, List.length_map, List.length_take, List.length_drop]; omega)) only [stdh, ↓reduceIte, Nat.reduceEqDiff, Int.reduceToNat, Int.reducePow, Nat.reduceAdd, Nat.reduceLeDiff, Nat.reduceMul, Nat.reduceBEq, reduceCtorEq]
    refine callK_fn (fun_reck codes_ok 1000 (.int .i64 0) (by kernel_rfl) rfl rfl _ _ ?_)
    refine runL_V 60 ?_
    simp (disch := first | omega | (simp only [List.length_append, List.length_cons, List.length_nil, List.length_set, List.length_map, List.length_take, List.length_drop]; omega)) only [stdh, ↓reduceIte, Nat.reduceEqDiff, Int.reduceToNat, Int.reducePow, Nat.reduceAdd, Nat.reduceLeDiff, Nat.reduceMul, Nat.reduceBEq, reduceCtorEq, q0]
    refine callK_fn (fits_nil hp hc _ _ ?_)
    refine runL_V 60 ?_
    simp (disch := first | omega | (simp only [List.length_append, List.length_cons, List.length_nil, List.length_set, List.length_map, List.length_take, List.length_drop]; omega)) only [stdh, ↓reduceIte, Nat.reduceEqDiff, Int.reduceToNat, Int.reducePow, Nat.reduceAdd, Nat.reduceLeDiff, Nat.reduceMul, Nat.reduceBEq, reduceCtorEq, q2]
end Go.Proofs.Ytgjldipoagkncaa

namespace Go.Proofs.Ytgjldipoagkncaa.schemaNil
open Go Go.Am Go.ChangeShapes Go.WideShapes Go.ChangeAt Go.RowKit
set_option linter.unusedVariables false

theorem own : ownKnob Try.prog.godebug = none := by kernel_rfl
theorem laidOut : laidOutB Try.prog = true := by kernel_rfl

set_option maxRecDepth 100000 in
theorem lifted (os : Os) (started : os.Started) (H : Type) (enc : TypeId × Value → H) :
    ReturnsInHanded {} Try.checked os F.cuneiformlaw19_SchemaNil .any (Rows.schemaNilSpec.pre6 enc Try.prog Try.f5 Rows.schemaNilRow.domain false) (Rows.schemaNilSpec.post enc Try.prog Try.f5 false true false false) := by
  refine returnsInHanded_of_change (C := Try.checked) own started (by kernel_rfl) Try.func5
    (ChangeSpec.witness6 (enc := enc) (C := Try.checked) false ⟨#[], #[.agg #[.int .i64 0, .int .i64 0, .int .i64 0, .int .i64 0, .int .i64 0, .int .i64 0, .int .i64 0, .slice none 0 0, .slice none 0 0, .string ⟨#[]⟩, .string ⟨#[]⟩], .slice none 0 0], []⟩ 8 (by kernel_rfl) (by kernel_rfl) (by kernel_rfl) (by kernel_rfl)) ?_
  intro W base args ds gs before hval hW hcnd _
  refine law_calls (shs := [shMsg, .slice (.int .u8)]) (tb := 4) laidOut (by kernel_rfl) ?_ (by kernel_rfl) Try.underlying4 rfl ?_ ?_ hval hW
  · intro t ht
    have : ∀ t ∈ Try.f5.params.toList, (Try.prog.readableRec t && decide (t < Try.prog.types.size)) = true := List.all_eq_true.1 (by kernel_rfl)
    simpa using this t ht
  · intro H ds hd
    match ds, hd with
    | [d0, d1], _ => exact ⟨rfl, rfl, rfl⟩
  · rintro xs ⟨a, r, rfl, ha, b, r', rfl, hb, rfl⟩
    obtain ⟨k, n0, n1, n2, n3, n4, n5, p, c, t, g, rfl, hp, hc⟩ := msg_fits ha
    exact scnil_ok hp hc b

theorem proved : Rows.SchemaNilSaid :=
  OpenClaim.holds_of_wide F.cuneiformlaw19_SchemaNil Try.f5 rfl rfl rfl rfl rfl rfl rfl ⟨rfl, rfl, rfl, rfl, rfl⟩ rfl rfl rfl rfl rfl (by kernel_rfl) Try.func5 (by kernel_rfl)
    (of_decide_eq_true (by kernel_rfl)) (by unfold Func.isWrapper; first | (rw [if_pos (by decide +kernel)]; kernel_rfl) | (rw [if_neg (by decide +kernel)]; exact ⟨rfl, rfl⟩))
    (fun os started H enc _ => lifted os started H enc)
end Go.Proofs.Ytgjldipoagkncaa.schemaNil
