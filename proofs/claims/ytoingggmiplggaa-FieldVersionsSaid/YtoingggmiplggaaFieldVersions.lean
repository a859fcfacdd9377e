/-
  FieldVersionsSaid: whatever the two numbers, the law FieldVersions returns true, and the input reads as it did. No condition. By an AI agent. No person has read it.
-/
import Derived.Test.YtoingggmiplggaaField
import Derived.Test.YtoingggmiplggaaAm5
import Derived.OpenShut
import Derived.Test.YtoingggmiplggaaRows

namespace Go.Proofs.Ytoingggmiplggaa
open Go Go.Am
set_option linter.unusedSimpArgs false
set_option linter.unusedVariables false

def nameCells (L : List Fld) : List AVal := L.map fun f => .str f.name

/-- The list of the names of the first fields. -/
def namesAcc (c B : Nat) (L : List Fld) : Acc := ⟨c, T.sl_string, 1, T.string, B, fun j => j, fun j => nameCells (L.take j)⟩

theorem names_step (L : List Fld) {j : Nat} (hj : j < L.length) : nameCells (L.take j) ++ [.str (L.getD j fld0).name] = nameCells (L.take (j + 1)) := by
  rw [List.take_succ_eq_append_getElem hj]
  simp only [nameCells, List.map_append, List.map_cons, List.map_nil, List.getD_eq_getElem?_getD, List.getElem?_eq_getElem hj, Option.getD_some]

theorem mod1000 (x : Int) : ∃ m : Nat, m < 1000 ∧ IntKind.i64.wrap (Int.tmod (IntKind.u64.wrap x) 1000) = (m : Nat) := by
  refine ⟨((IntKind.u64.wrap x) % 1000).toNat, by omega, ?_⟩
  have h0 : 0 ≤ IntKind.u64.wrap x := by rw [wrap_u64']; omega
  rw [Int.tmod_eq_emod_of_nonneg h0, wrap_i64 (by omega)]
  omega

theorem mod5 (kind : Int) : ∃ m : Nat, m < 5 ∧ IntKind.i64.wrap (Int.tmod (IntKind.u64.wrap kind) 5) = (m : Nat) := by
  refine ⟨((IntKind.u64.wrap kind) % 5).toNat, by omega, ?_⟩
  have h0 : 0 ≤ IntKind.u64.wrap kind := by rw [wrap_u64']; omega
  rw [Int.tmod_eq_emod_of_nonneg h0, wrap_i64 (by omega)]
  omega

theorem version1_since {k : Int} : ∀ f ∈ versionFields k 1, f.since = 1 := by
  have h : ∀ f ∈ fieldsOf k, f.since = 1 ∨ f.since = 2 := by
    unfold fieldsOf
    split
    · decide +kernel
    split
    · decide +kernel
    split
    · decide +kernel
    split
    · decide +kernel
    split
    · decide +kernel
    · simp
  intro f hf
  unfold versionFields at hf
  rw [List.mem_filter] at hf
  have := h f hf.1
  have := hf.2
  simp at this
  omega

theorem version2_all {k v : Int} (hv : 2 ≤ v) : versionFields k v = fieldsOf k := by
  have h : ∀ f ∈ fieldsOf k, f.since ≤ 2 := by
    unfold fieldsOf
    split
    · decide +kernel
    split
    · decide +kernel
    split
    · decide +kernel
    split
    · decide +kernel
    split
    · decide +kernel
    · simp
  unfold versionFields
  rw [List.filter_eq_self]
  intro f hf
  have := h f hf
  simp; omega

theorem find_self {k : Int} : ∀ f ∈ fieldsOf k, findF k f.name = some f := by
  have h : ∀ l : List Fld, l.all (fun f => decide ((l.find? fun g => decide (g.name = f.name)) = some f)) = true → ∀ f ∈ l, (l.find? fun g => decide (g.name = f.name)) = some f := fun l hl f hf => by
    rw [List.all_eq_true] at hl
    simpa using hl f hf
  intro f hf
  refine h _ ?_ f hf
  unfold fieldsOf
  split
  · decide +kernel
  split
  · decide +kernel
  split
  · decide +kernel
  split
  · decide +kernel
  split
  · decide +kernel
  · rfl

theorem since_12 {k : Int} : ∀ f ∈ fieldsOf k, f.since = 1 ∨ f.since = 2 := by
  unfold fieldsOf
  split
  · decide +kernel
  split
  · decide +kernel
  split
  · decide +kernel
  split
  · decide +kernel
  split
  · decide +kernel
  · simp

/-- How many of the first fields version 1 has. -/
def cnt (l : List Fld) (i : Nat) : Nat := ((l.take i).filter fun f => decide (f.since ≤ 1)).length

theorem filter_at {l : List Fld} {i : Nat} (hi : i < l.length) (hs : (l.getD i fld0).since ≤ 1) : cnt l (i + 1) = cnt l i + 1 ∧ cnt l i < (l.filter fun f => decide (f.since ≤ 1)).length ∧ (l.filter fun f => decide (f.since ≤ 1)).getD (cnt l i) fld0 = l.getD i fld0 := by
  have hx : l.getD i fld0 = l[i] := by simp [hi]
  rw [hx] at hs ⊢
  have e : l = l.take i ++ l[i] :: l.drop (i + 1) := by rw [← List.drop_eq_getElem_cons hi, List.take_append_drop]
  have ef : l.filter (fun f => decide (f.since ≤ 1)) = (l.take i).filter (fun f => decide (f.since ≤ 1)) ++ l[i] :: (l.drop (i + 1)).filter (fun f => decide (f.since ≤ 1)) := by
    conv => lhs; rw [e]
    rw [List.filter_append, List.filter_cons, if_pos (by simpa using hs)]
  refine ⟨?_, ?_, ?_⟩
  · unfold cnt
    rw [List.take_succ_eq_append_getElem hi, List.filter_append, List.filter_cons, if_pos (by simpa using hs)]
    simp
  · rw [ef]; simp [cnt]
  · rw [ef, List.getD_eq_getElem?_getD, List.getElem?_append_right (by simp [cnt])]
    simp [cnt]

theorem cnt_skip {l : List Fld} {i : Nat} (hi : i < l.length) (hs : ¬ (l.getD i fld0).since ≤ 1) : cnt l (i + 1) = cnt l i := by
  have hx : l.getD i fld0 = l[i] := by simp [hi]
  rw [hx] at hs
  unfold cnt
  rw [List.take_succ_eq_append_getElem hi, List.filter_append, List.filter_cons, if_neg (by simpa using hs)]
  simp

theorem nameCells_get {l : List Fld} {i : Nat} (hi : i < l.length) : (nameCells l).getD i .junk = .str (l.getD i fld0).name := by
  simp [nameCells, List.getD_eq_getElem?_getD, hi]

abbrev versC : Ctx := ⟨F.cuneiformlaw16_FieldVersions, 139, [.cell 4 none], none⟩

theorem vers_loop {k : Int} {a1 a2 a3 : AVal} {H0 : AHeap} (h4 : 4 ≤ H0.length) (p1 : H0[1]? = some (.cells [a1] T.sl_string)) (p2 : H0[2]? = some (.cells [a2] T.sl_string)) (p3 : H0[3]? = some (.cells [a3] T.sl_string))
    (o1 : Own 1 T.string 0 H0 a1 (versionFields k 1).length (nameCells (versionFields k 1))) (o2 : Own 1 T.string 0 H0 a2 (fieldsOf k).length (nameCells (fieldsOf k))) (o3 : Own 1 T.string 0 H0 a3 (fieldsOf k).length (nameCells (fieldsOf k)))
    (K : List AItem) (Q : AVal → AHeap → Prop) (hQ : ∀ H r, Keeps H0 H → rget r 4 = .ptr 0 0 → rget r 6 = .ptr 1 0 → rget r 7 = .ptr 2 0 → rget r 8 = .ptr 3 0 → rget r 15 = .int .i64 (versionFields k 1).length → Run Try.prog versC K r H Q) :
    ∀ (m i : Nat) (H : AHeap), (fieldsOf k).length - i = m → i ≤ (fieldsOf k).length → Keeps H0 H →
    Rounds Try.prog versC cuneiformlaw16_FieldVersions.b5 [.inBlock 6] K [(4, .ptr 0 0), (5, .int .i64 k), (6, .ptr 1 0), (7, .ptr 2 0), (8, .ptr 3 0), (15, .int .i64 (cnt (fieldsOf k) i)), (16, .int .i64 i)] H Q
  | m, i, H, h1, h2, hk => by
    have q1 := hk.get p1
    have q2 := hk.get p2
    have q3 := hk.get p3
    have r1 := o1.keep hk
    have r2 := o2.keep hk
    have r3 := o3.keep hk
    have hl := fieldsOf_le k
    have hc : cnt (fieldsOf k) i ≤ 6 := by
      unfold cnt
      have h5 := List.length_filter_le (fun f : Fld => decide (f.since ≤ 1)) ((fieldsOf k).take i)
      have h6 := List.length_take_le i (fieldsOf k)
      omega
    refine loop_V 100 cuneiformlaw16_FieldVersions.b5.eq_1 ?_
    by_cases hi : i < (fieldsOf k).length
    · have hmem : (fieldsOf k).getD i fld0 ∈ fieldsOf k := by rw [List.getD_eq_getElem?_getD, List.getElem?_eq_getElem hi]; exact List.getElem_mem hi
      have hf := find_self _ hmem
      have hn := nameCells_get hi
      have hs := since_12 _ hmem
      have hg := fun (hs : ((fieldsOf k).getD i fld0).since ≤ 1) => filter_at hi hs
      have hsk := fun (hs : ¬ ((fieldsOf k).getD i fld0).since ≤ 1) => cnt_skip hi hs
      have hnl : (nameCells (fieldsOf k)).length = (fieldsOf k).length := by simp [nameCells]
      have ld2 := r2.load (j := i) (by omega)
      generalize hx : (fieldsOf k).getD i fld0 = x at *
      simp (disch := first | omega | (simp only [List.length_append, List.length_cons, List.length_nil, List.length_set, List.length_map, List.length_take, List.length_drop]; omega)) only [stdh, ↓reduceIte, Nat.reduceEqDiff, Int.reduceToNat, Int.reducePow, Nat.reduceAdd, Nat.reduceLeDiff, Nat.reduceMul, Nat.reduceBEq, reduceCtorEq, q2, r2.slen, r2.isSome, ld2, hn]
      refine callK_fn (ffind_ok _ _ _ _ ?_)
      rw [hf]
      refine runL_V 100 ?_
      have ld3 : ∀ L, loadA (H ++ L) none (.sptr a3 i) = some (True, (nameCells (fieldsOf k)).getD i .junk) := fun L => (r3.keep (keeps_append H L)).load (j := i) (by omega)
      have ld2' : ∀ L, loadA (H ++ L) none (.sptr a2 i) = some (True, (nameCells (fieldsOf k)).getD i .junk) := fun L => (r2.keep (keeps_append H L)).load (j := i) (by omega)
      have is3 : ∀ L, (view (H ++ L) a3).isSome = true := fun L => (r3.keep (keeps_append H L)).isSome
      have is2 : ∀ L, (view (H ++ L) a2).isSome = true := fun L => (r2.keep (keeps_append H L)).isSome
      have is1 : ∀ L, (view (H ++ L) a1).isSome = true := fun L => (r1.keep (keeps_append H L)).isSome
      have hll := hk.le
      rcases hs with hs | hs
      · obtain ⟨e1, e2, e3⟩ := hg (by omega)
        have ld1 : ∀ L, loadA (H ++ L) none (.sptr a1 (cnt (fieldsOf k) i)) = some (True, (nameCells (versionFields k 1)).getD (cnt (fieldsOf k) i) .junk) := fun L => (r1.keep (keeps_append H L)).load (by simp only [nameCells, List.length_map]; exact e2)
        have en1 : (nameCells (versionFields k 1)).getD (cnt (fieldsOf k) i) .junk = .str x.name := by
          rw [nameCells_get (l := versionFields k 1) e2]
          exact congrArg (fun f => AVal.str f.name) e3
        have e2' : cnt (fieldsOf k) i < (versionFields k 1).length := e2
        simp (disch := first | omega | (simp only [List.length_append, List.length_cons, List.length_nil, List.length_set, List.length_map, List.length_take, List.length_drop]; omega)) only [stdh, ↓reduceIte, Nat.reduceEqDiff, Int.reduceToNat, Int.reducePow, Nat.reduceAdd, Nat.reduceLeDiff, Nat.reduceMul, Nat.reduceBEq, reduceCtorEq, Option.getD_some, encF, hs, q1, q2, q3, at_low, r1.slen, r2.slen, r3.slen, cuneiformlaw16_FieldVersions.d3, cuneiformlaw16_FieldVersions.d4, is1, is2, is3, ld1, ld2', ld3, hn, en1]
        rw [show ((cnt (fieldsOf k) i : Nat) : Int) + 1 = ((cnt (fieldsOf k) (i + 1) : Nat) : Int) by omega]
        exact vers_loop h4 p1 p2 p3 o1 o2 o3 K Q hQ _ (i + 1) _ rfl (by omega) (hk.push _)
      · have e1 := hsk (by omega)
        simp (disch := first | omega | (simp only [List.length_append, List.length_cons, List.length_nil, List.length_set, List.length_map, List.length_take, List.length_drop]; omega)) only [stdh, ↓reduceIte, Nat.reduceEqDiff, Int.reduceToNat, Int.reducePow, Nat.reduceAdd, Nat.reduceLeDiff, Nat.reduceMul, Nat.reduceBEq, reduceCtorEq, Option.getD_some, encF, hs, q1, q2, q3, at_low, r1.slen, r2.slen, r3.slen, cuneiformlaw16_FieldVersions.d3, cuneiformlaw16_FieldVersions.d4, is1, is2, is3, ld2', ld3, hn]
        rw [show ((cnt (fieldsOf k) i : Nat) : Int) = ((cnt (fieldsOf k) (i + 1) : Nat) : Int) by omega]
        exact vers_loop h4 p1 p2 p3 o1 o2 o3 K Q hQ _ (i + 1) _ rfl (by omega) (hk.push _)
    · simp (disch := first | omega | (simp only [List.length_append, List.length_cons, List.length_nil, List.length_set, List.length_map, List.length_take, List.length_drop]; omega)) only [stdh, ↓reduceIte, Nat.reduceEqDiff, Int.reduceToNat, Int.reducePow, Nat.reduceAdd, Nat.reduceLeDiff, Nat.reduceMul, Nat.reduceBEq, reduceCtorEq, q2, r2.slen]
      have hie : i = (fieldsOf k).length := by omega
      refine hQ H _ hk rfl rfl rfl rfl ?_
      subst hie
      simp only [cnt, List.take_length]
      rfl
  termination_by m => m

theorem versions_ok (kind later : Int) : FunOK Try.prog F.cuneiformlaw16_FieldVersions [.int .i64 kind, .int .i64 later] [] fun av _ => av = .bool true := by
  refine fun_V 60 cuneiformlaw16_FieldVersions_code rfl ?_
  obtain ⟨m, hm, he⟩ := mod5 kind
  obtain ⟨m', hm', he'⟩ := mod1000 later
  simp (disch := first | omega | (simp only [List.length_append, List.length_cons, List.length_nil, List.length_set, List.length_map, List.length_take, List.length_drop]; omega)) only [stdh, ↓reduceIte, Nat.reduceEqDiff, Int.reduceToNat, Int.reducePow, Nat.reduceAdd, Nat.reduceLeDiff, Nat.reduceMul, Nat.reduceBEq, reduceCtorEq, cuneiformlaw16_FieldVersions, cuneiformlaw16_FieldVersions.body, he, he']
  refine callK_fn (fall_ok _ _ _ _ ?_)
  refine runL_V 60 ?_
  simp (disch := first | omega | (simp only [List.length_append, List.length_cons, List.length_nil, List.length_set, List.length_map, List.length_take, List.length_drop]; omega)) only [stdh, ↓reduceIte, Nat.reduceEqDiff, Int.reduceToNat, Int.reducePow, Nat.reduceAdd, Nat.reduceLeDiff, Nat.reduceMul, Nat.reduceBEq, reduceCtorEq]
  obtain ⟨k, hk⟩ : ∃ k : Int, 1 + (m : Int) = k := ⟨_, rfl⟩
  rw [hk]
  have hl1 : (versionFields k 1).length ≤ 6 := Nat.le_trans (List.length_filter_le _ _) (fieldsOf_le k)
  have hl2 : (versionFields k 2).length ≤ 6 := Nat.le_trans (List.length_filter_le _ _) (fieldsOf_le k)
  have hl3 : (versionFields k (2 + (m' : Int))).length ≤ 6 := Nat.le_trans (List.length_filter_le _ _) (fieldsOf_le k)
  generalize hH : [ABlk.cells [AVal.bool false] T.bool, ABlk.cells [AVal.nils] T.sl_string, ABlk.cells [AVal.nils] T.sl_string, ABlk.cells [AVal.nils] T.sl_string] = H
  have g0 : H[0]? = some (.cells [.bool false] T.bool) := by rw [← hH]; rfl
  have p1 : H[1]? = some (.cells [.nils] T.sl_string) := by rw [← hH]; rfl
  have p2 : H[2]? = some (.cells [.nils] T.sl_string) := by rw [← hH]; rfl
  have p3 : H[3]? = some (.cells [.nils] T.sl_string) := by rw [← hH]; rfl
  have h4 : 4 ≤ H.length := by rw [← hH]; simp
  clear hH
  refine range_acc (g := F.field_All_1) (first := []) (captured := [cell (.int .i64 k), cell (.int .i64 1)]) rfl (by intro n hn; cases hn) (item := fldArgs (versionFields k 1)) (len := (versionFields k 1).length) (fun j => rfl) [] (namesAcc 1 0 (versionFields k 1)) (fun _ => none) (a0 := .nils) vars_nil ⟨p1, Own.nil⟩ ?_ (fun _ _ _ => fall1_iter) ?_ (fun _ _ _ _ _ _ _ hh => by cases hh)
  · intro a' b' j H1 a hj _ hl hkp hrec _ ha
    have q1 : H1[1]? = some (.cells [a] T.sl_string) := ha.1
    have o1 : Own 1 T.string 0 H1 a j (nameCells ((versionFields k 1).take j)) := ha.2
    have hst := names_step (versionFields k 1) hj
    refine run_V0 60 ?_
    have hs := version1_since (k := k) ((versionFields k 1).getD j fld0) (by rw [List.getD_eq_getElem?_getD, List.getElem?_eq_getElem hj]; exact List.getElem_mem hj)
    generalize hx : (versionFields k 1).getD j fld0 = x at *
    simp (disch := first | omega | (simp only [List.length_append, List.length_cons, List.length_nil, List.length_set, List.length_map, List.length_take, List.length_drop]; omega)) only [stdh, ↓reduceIte, Nat.reduceEqDiff, Int.reduceToNat, Int.reducePow, Nat.reduceAdd, Nat.reduceLeDiff, Nat.reduceMul, Nat.reduceBEq, reduceCtorEq, cuneiformlaw16_FieldVersions.a0, cuneiformlaw16_FieldVersions.b0, hrec, q1, fldArgs, hx, encF, List.zip_cons_cons, List.zip_nil_left, List.reverse_cons, List.reverse_nil, List.getElem?_set_self, List.getElem?_set_ne, at_low]
    have hrn := o1.ne_loop hrec
    refine resK_append (k := 1) (ys := [.str x.name]) ((o1.moved fun m hm => ?_)) (Nat.zero_le _) rfl ?_ rfl (by omega) (by omega) (by omega) rfl fun v H2 ov ht hn => ?_
    · have hlt := (o1.lt m hm).2
      have hmn : H.length ≠ m := by rintro rfl; exact hrn hm
      simp (disch := first | omega | (simp only [List.length_append, List.length_cons, List.length_nil, List.length_set, List.length_map, List.length_take, List.length_drop]; omega)) only [List.getElem?_append_left, List.getElem?_set_ne, List.getElem?_set_self, at_0, at_k, List.getElem?_cons_zero, List.getElem?_cons_succ, List.length_append, List.length_set, List.length_cons, List.length_nil, ne_eq, not_false_eq_true, Nat.zero_add]
    · simp [srcCells, view, content, at_0, at_k]
    have hH2 := ht.le
    simp only [List.length_append, List.length_set, List.length_cons, List.length_nil] at hH2
    have hc1 : H2[1]? = some (.cells [a] T.sl_string) := by
      rw [ht.kept 1 (by (first | omega | (simp only [List.length_append, List.length_cons, List.length_nil, List.length_set, List.length_map, List.length_take, List.length_drop]; omega))) (o1.ne q1)]; simp (disch := first | omega | (simp only [List.length_append, List.length_cons, List.length_nil, List.length_set, List.length_map, List.length_take, List.length_drop]; omega)) only [List.getElem?_append_left, List.getElem?_set_ne, List.getElem?_set_self, at_0, at_k, List.getElem?_cons_zero, List.getElem?_cons_succ, List.length_append, List.length_set, List.length_cons, List.length_nil, ne_eq, not_false_eq_true, Nat.zero_add]; exact q1
    have hcl := ov.cell
    have hr2 := ht.kept H.length (by (first | omega | (simp only [List.length_append, List.length_cons, List.length_nil, List.length_set, List.length_map, List.length_take, List.length_drop]; omega))) hrn
    simp (disch := first | omega | (simp only [List.length_append, List.length_cons, List.length_nil, List.length_set, List.length_map, List.length_take, List.length_drop]; omega)) only [List.getElem?_append_left, List.getElem?_set_ne, List.getElem?_set_self, at_0, at_k, List.getElem?_cons_zero, List.getElem?_cons_succ, List.length_append, List.length_set, List.length_cons, List.length_nil, ne_eq, not_false_eq_true, Nat.zero_add] at hr2
    have hx2 : H2[H1.length]? = some (.cells (encF x) T.field_Field) := by
      rw [ht.kept H1.length (by (first | omega | (simp only [List.length_append, List.length_cons, List.length_nil, List.length_set, List.length_map, List.length_take, List.length_drop]; omega))) (fun hm => Nat.lt_irrefl _ (o1.lt _ hm).2)]; simp (disch := first | omega | (simp only [List.length_append, List.length_cons, List.length_nil, List.length_set, List.length_map, List.length_take, List.length_drop]; omega)) only [List.getElem?_append_left, List.getElem?_set_ne, List.getElem?_set_self, at_0, at_k, List.getElem?_cons_zero, List.getElem?_cons_succ, List.length_append, List.length_set, List.length_cons, List.length_nil, ne_eq, not_false_eq_true, Nat.zero_add]; rfl
    simp (disch := first | omega | (simp only [List.length_append, List.length_cons, List.length_nil, List.length_set, List.length_map, List.length_take, List.length_drop]; omega)) only [stdh, ↓reduceIte, Nat.reduceEqDiff, Int.reduceToNat, Int.reducePow, Nat.reduceAdd, Nat.reduceLeDiff, Nat.reduceMul, Nat.reduceBEq, reduceCtorEq, hc1, hcl.1, hcl.2, hx2, encF, hs, List.getElem?_set_ne]
    refine round_fin (n := H.length) rfl (by rw [List.getElem?_set_ne (by omega)]; exact hr2) ?_
    refine ⟨by (first | omega | (simp only [List.length_append, List.length_cons, List.length_nil, List.length_set, List.length_map, List.length_take, List.length_drop]; omega)), fun m m1 m2 m3 m4 m5 => ?_, vars_nil, ⟨v, ⟨?_, ?_⟩, fun m hm => .inr ?_⟩, rfl, ?_⟩
    · have m4' : m ≠ 1 := m4
      rw [List.getElem?_set_ne (by omega), List.getElem?_set_ne (by omega), ht.kept m (by (first | omega | (simp only [List.length_append, List.length_cons, List.length_nil, List.length_set, List.length_map, List.length_take, List.length_drop]; omega))) m5]; simp (disch := first | omega | (simp only [List.length_append, List.length_cons, List.length_nil, List.length_set, List.length_map, List.length_take, List.length_drop]; omega)) only [List.getElem?_append_left, List.getElem?_set_ne, List.getElem?_set_self, at_0, at_k, List.getElem?_cons_zero, List.getElem?_cons_succ, List.length_append, List.length_set, List.length_cons, List.length_nil, ne_eq, not_false_eq_true, Nat.zero_add]
    · show (List.set (List.set H2 1 _) H.length _)[1]? = _
      rw [List.getElem?_set_ne (by omega), List.getElem?_set_self (by omega)]; rfl
    · show Own 1 T.string 0 _ v (j + 1) (nameCells ((versionFields k 1).take (j + 1)))
      rw [← hst]
      refine ov.moved fun m hm => ?_
      have := hn m hm
      simp only [List.length_append, List.length_set, List.length_cons, List.length_nil] at this
      rw [List.getElem?_set_ne (by omega), List.getElem?_set_ne (by omega)]
    · have := hn m hm
      simp only [List.length_append, List.length_set, List.length_cons, List.length_nil] at this; omega
    · rw [List.getElem?_set_self (by (first | omega | (simp only [List.length_append, List.length_cons, List.length_nil, List.length_set, List.length_map, List.length_take, List.length_drop]; omega)))]; rfl
  intro H' a hl hkp hx1 hx2 ha
  clear hx1 hx2
  have hk' : ∀ m, m < H.length → m ≠ 1 → H'[m]? = H[m]? := fun m h1 h2 => hkp m h1 (by simp) h2 (by simp [AVal.names])
  replace g0 := (hk' 0 (by omega) (by omega)).trans g0
  replace p2 := (hk' 2 (by omega) (by omega)).trans p2
  replace p3 := (hk' 3 (by omega) (by omega)).trans p3
  have c1 : H'[1]? = some (.cells [a] T.sl_string) := ha.1
  have o1 : Own 1 T.string 0 H' a (versionFields k 1).length (nameCells ((versionFields k 1).take (versionFields k 1).length)) := ha.2
  rw [List.take_length] at o1
  replace h4 : 4 ≤ H'.length := by omega
  clear hk' hkp ha hl p1
  clear H
  generalize H' = H at *
  generalize a = a1 at *
  refine run_V0 60 ?_
  simp (disch := first | omega | (simp only [List.length_append, List.length_cons, List.length_nil, List.length_set, List.length_map, List.length_take, List.length_drop]; omega)) only [stdh, ↓reduceIte, Nat.reduceEqDiff, Int.reduceToNat, Int.reducePow, Nat.reduceAdd, Nat.reduceLeDiff, Nat.reduceMul, Nat.reduceBEq, reduceCtorEq]
  refine callK_fn (fall_ok _ _ _ _ ?_)
  refine runL_V 60 ?_
  simp (disch := first | omega | (simp only [List.length_append, List.length_cons, List.length_nil, List.length_set, List.length_map, List.length_take, List.length_drop]; omega)) only [stdh, ↓reduceIte, Nat.reduceEqDiff, Int.reduceToNat, Int.reducePow, Nat.reduceAdd, Nat.reduceLeDiff, Nat.reduceMul, Nat.reduceBEq, reduceCtorEq, eqA]
  refine range_acc (g := F.field_All_1) (first := []) (captured := [cell (.int .i64 k), cell (.int .i64 2)]) rfl (by intro n hn; cases hn) (item := fldArgs (versionFields k 2)) (len := (versionFields k 2).length) (fun j => rfl) [] (namesAcc 2 0 (versionFields k 2)) (fun _ => none) (a0 := .nils) vars_nil ⟨p2, Own.nil⟩ ?_ (fun _ _ _ => fall1_iter) ?_ (fun _ _ _ _ _ _ _ hh => by cases hh)
  · intro a' b' j H1 a hj _ hl hkp hrec _ ha
    have qx : H1[2]? = some (.cells [a] T.sl_string) := ha.1
    have ox : Own 1 T.string 0 H1 a j (nameCells ((versionFields k 2).take j)) := ha.2
    have hst := names_step (versionFields k 2) hj
    refine run_V0 60 ?_
    generalize hx : (versionFields k 2).getD j fld0 = x at *
    simp (disch := first | omega | (simp only [List.length_append, List.length_cons, List.length_nil, List.length_set, List.length_map, List.length_take, List.length_drop]; omega)) only [stdh, ↓reduceIte, Nat.reduceEqDiff, Int.reduceToNat, Int.reducePow, Nat.reduceAdd, Nat.reduceLeDiff, Nat.reduceMul, Nat.reduceBEq, reduceCtorEq, cuneiformlaw16_FieldVersions.a1, cuneiformlaw16_FieldVersions.b1, hrec, qx, fldArgs, hx, encF, List.zip_cons_cons, List.zip_nil_left, List.reverse_cons, List.reverse_nil, List.getElem?_set_self, List.getElem?_set_ne, at_low]
    have hrn := ox.ne_loop hrec
    refine resK_append (k := 1) (ys := [.str x.name]) ((ox.moved fun m hm => ?_)) (Nat.zero_le _) rfl ?_ rfl (by omega) (by omega) (by omega) rfl fun v H2 ov ht hn => ?_
    · have hlt := (ox.lt m hm).2
      have hmn : H.length ≠ m := by rintro rfl; exact hrn hm
      simp (disch := first | omega | (simp only [List.length_append, List.length_cons, List.length_nil, List.length_set, List.length_map, List.length_take, List.length_drop]; omega)) only [List.getElem?_append_left, List.getElem?_set_ne, List.getElem?_set_self, at_0, at_k, List.getElem?_cons_zero, List.getElem?_cons_succ, List.length_append, List.length_set, List.length_cons, List.length_nil, ne_eq, not_false_eq_true, Nat.zero_add]
    · simp [srcCells, view, content, at_0, at_k]
    have hH2 := ht.le
    simp only [List.length_append, List.length_set, List.length_cons, List.length_nil] at hH2
    have hc1 : H2[2]? = some (.cells [a] T.sl_string) := by
      rw [ht.kept 2 (by (first | omega | (simp only [List.length_append, List.length_cons, List.length_nil, List.length_set, List.length_map, List.length_take, List.length_drop]; omega))) (ox.ne qx)]; simp (disch := first | omega | (simp only [List.length_append, List.length_cons, List.length_nil, List.length_set, List.length_map, List.length_take, List.length_drop]; omega)) only [List.getElem?_append_left, List.getElem?_set_ne, List.getElem?_set_self, at_0, at_k, List.getElem?_cons_zero, List.getElem?_cons_succ, List.length_append, List.length_set, List.length_cons, List.length_nil, ne_eq, not_false_eq_true, Nat.zero_add]; exact qx
    have hcl := ov.cell
    have hr2 := ht.kept H.length (by (first | omega | (simp only [List.length_append, List.length_cons, List.length_nil, List.length_set, List.length_map, List.length_take, List.length_drop]; omega))) hrn
    simp (disch := first | omega | (simp only [List.length_append, List.length_cons, List.length_nil, List.length_set, List.length_map, List.length_take, List.length_drop]; omega)) only [List.getElem?_append_left, List.getElem?_set_ne, List.getElem?_set_self, at_0, at_k, List.getElem?_cons_zero, List.getElem?_cons_succ, List.length_append, List.length_set, List.length_cons, List.length_nil, ne_eq, not_false_eq_true, Nat.zero_add] at hr2
    simp (disch := first | omega | (simp only [List.length_append, List.length_cons, List.length_nil, List.length_set, List.length_map, List.length_take, List.length_drop]; omega)) only [stdh, ↓reduceIte, Nat.reduceEqDiff, Int.reduceToNat, Int.reducePow, Nat.reduceAdd, Nat.reduceLeDiff, Nat.reduceMul, Nat.reduceBEq, reduceCtorEq, hc1, hcl.1, hcl.2]
    refine round_fin (n := H.length) rfl (by rw [List.getElem?_set_ne (by omega)]; exact hr2) ?_
    refine ⟨by (first | omega | (simp only [List.length_append, List.length_cons, List.length_nil, List.length_set, List.length_map, List.length_take, List.length_drop]; omega)), fun m m1 m2 m3 m4 m5 => ?_, vars_nil, ⟨v, ⟨?_, ?_⟩, fun m hm => .inr ?_⟩, rfl, ?_⟩
    · have m4' : m ≠ 2 := m4
      rw [List.getElem?_set_ne (by omega), List.getElem?_set_ne (by omega), ht.kept m (by (first | omega | (simp only [List.length_append, List.length_cons, List.length_nil, List.length_set, List.length_map, List.length_take, List.length_drop]; omega))) m5]; simp (disch := first | omega | (simp only [List.length_append, List.length_cons, List.length_nil, List.length_set, List.length_map, List.length_take, List.length_drop]; omega)) only [List.getElem?_append_left, List.getElem?_set_ne, List.getElem?_set_self, at_0, at_k, List.getElem?_cons_zero, List.getElem?_cons_succ, List.length_append, List.length_set, List.length_cons, List.length_nil, ne_eq, not_false_eq_true, Nat.zero_add]
    · show (List.set (List.set H2 2 _) H.length _)[2]? = _
      rw [List.getElem?_set_ne (by omega), List.getElem?_set_self (by omega)]; rfl
    · show Own 1 T.string 0 _ v (j + 1) (nameCells ((versionFields k 2).take (j + 1)))
      rw [← hst]
      refine ov.moved fun m hm => ?_
      have := hn m hm
      simp only [List.length_append, List.length_set, List.length_cons, List.length_nil] at this
      rw [List.getElem?_set_ne (by omega), List.getElem?_set_ne (by omega)]
    · have := hn m hm
      simp only [List.length_append, List.length_set, List.length_cons, List.length_nil] at this; omega
    · rw [List.getElem?_set_self (by (first | omega | (simp only [List.length_append, List.length_cons, List.length_nil, List.length_set, List.length_map, List.length_take, List.length_drop]; omega)))]; rfl
  intro H' a hl hkp hx1 hx2 ha
  clear hx1 hx2
  have hk' : ∀ m, m < H.length → m ≠ 2 → H'[m]? = H[m]? := fun m h1 h2 => hkp m h1 (by simp) h2 (by simp [AVal.names])
  replace o1 := o1.moved (H' := H') (fun m hm => hk' m (o1.lt m hm).2 (fun he => o1.ne p2 (he ▸ hm)))
  replace g0 := (hk' 0 (by omega) (by omega)).trans g0
  have p1 := (hk' 1 (by omega) (by omega)).trans c1
  clear c1
  replace p3 := (hk' 3 (by omega) (by omega)).trans p3
  have c2 : H'[2]? = some (.cells [a] T.sl_string) := ha.1
  have o2 : Own 1 T.string 0 H' a (versionFields k 2).length (nameCells ((versionFields k 2).take (versionFields k 2).length)) := ha.2
  rw [List.take_length] at o2
  replace h4 : 4 ≤ H'.length := by omega
  clear hk' hkp ha hl p2
  clear H
  generalize H' = H at *
  generalize a = a2 at *
  refine run_V0 60 ?_
  simp (disch := first | omega | (simp only [List.length_append, List.length_cons, List.length_nil, List.length_set, List.length_map, List.length_take, List.length_drop]; omega)) only [stdh, ↓reduceIte, Nat.reduceEqDiff, Int.reduceToNat, Int.reducePow, Nat.reduceAdd, Nat.reduceLeDiff, Nat.reduceMul, Nat.reduceBEq, reduceCtorEq]
  refine callK_fn (fall_ok _ _ _ _ ?_)
  refine runL_V 60 ?_
  simp (disch := first | omega | (simp only [List.length_append, List.length_cons, List.length_nil, List.length_set, List.length_map, List.length_take, List.length_drop]; omega)) only [stdh, ↓reduceIte, Nat.reduceEqDiff, Int.reduceToNat, Int.reducePow, Nat.reduceAdd, Nat.reduceLeDiff, Nat.reduceMul, Nat.reduceBEq, reduceCtorEq, eqA]
  have hv3 : (2 : Int) ≤ 2 + (m' : Int) := by omega
  have e3 := version2_all (k := k) hv3
  have e2 := version2_all (k := k) (Int.le_refl 2)
  refine range_acc (g := F.field_All_1) (first := []) (captured := [cell (.int .i64 k), cell (.int .i64 (2 + (m' : Int)))]) rfl (by intro n hn; cases hn) (item := fldArgs (versionFields k (2 + (m' : Int)))) (len := (versionFields k (2 + (m' : Int))).length) (fun j => rfl) [] (namesAcc 3 0 (versionFields k (2 + (m' : Int)))) (fun _ => none) (a0 := .nils) vars_nil ⟨p3, Own.nil⟩ ?_ (fun _ _ _ => fall1_iter) ?_ (fun _ _ _ _ _ _ _ hh => by cases hh)
  · intro a' b' j H1 a hj _ hl hkp hrec _ ha
    have qx : H1[3]? = some (.cells [a] T.sl_string) := ha.1
    have ox : Own 1 T.string 0 H1 a j (nameCells ((versionFields k (2 + (m' : Int))).take j)) := ha.2
    have hst := names_step (versionFields k (2 + (m' : Int))) hj
    refine run_V0 60 ?_
    generalize hx : (versionFields k (2 + (m' : Int))).getD j fld0 = x at *
    simp (disch := first | omega | (simp only [List.length_append, List.length_cons, List.length_nil, List.length_set, List.length_map, List.length_take, List.length_drop]; omega)) only [stdh, ↓reduceIte, Nat.reduceEqDiff, Int.reduceToNat, Int.reducePow, Nat.reduceAdd, Nat.reduceLeDiff, Nat.reduceMul, Nat.reduceBEq, reduceCtorEq, cuneiformlaw16_FieldVersions.a2, cuneiformlaw16_FieldVersions.b2, hrec, qx, fldArgs, hx, encF, List.zip_cons_cons, List.zip_nil_left, List.reverse_cons, List.reverse_nil, List.getElem?_set_self, List.getElem?_set_ne, at_low]
    have hrn := ox.ne_loop hrec
    refine resK_append (k := 1) (ys := [.str x.name]) ((ox.moved fun m hm => ?_)) (Nat.zero_le _) rfl ?_ rfl (by omega) (by omega) (by omega) rfl fun v H2 ov ht hn => ?_
    · have hlt := (ox.lt m hm).2
      have hmn : H.length ≠ m := by rintro rfl; exact hrn hm
      simp (disch := first | omega | (simp only [List.length_append, List.length_cons, List.length_nil, List.length_set, List.length_map, List.length_take, List.length_drop]; omega)) only [List.getElem?_append_left, List.getElem?_set_ne, List.getElem?_set_self, at_0, at_k, List.getElem?_cons_zero, List.getElem?_cons_succ, List.length_append, List.length_set, List.length_cons, List.length_nil, ne_eq, not_false_eq_true, Nat.zero_add]
    · simp [srcCells, view, content, at_0, at_k]
    have hH2 := ht.le
    simp only [List.length_append, List.length_set, List.length_cons, List.length_nil] at hH2
    have hc1 : H2[3]? = some (.cells [a] T.sl_string) := by
      rw [ht.kept 3 (by (first | omega | (simp only [List.length_append, List.length_cons, List.length_nil, List.length_set, List.length_map, List.length_take, List.length_drop]; omega))) (ox.ne qx)]; simp (disch := first | omega | (simp only [List.length_append, List.length_cons, List.length_nil, List.length_set, List.length_map, List.length_take, List.length_drop]; omega)) only [List.getElem?_append_left, List.getElem?_set_ne, List.getElem?_set_self, at_0, at_k, List.getElem?_cons_zero, List.getElem?_cons_succ, List.length_append, List.length_set, List.length_cons, List.length_nil, ne_eq, not_false_eq_true, Nat.zero_add]; exact qx
    have hcl := ov.cell
    have hr2 := ht.kept H.length (by (first | omega | (simp only [List.length_append, List.length_cons, List.length_nil, List.length_set, List.length_map, List.length_take, List.length_drop]; omega))) hrn
    simp (disch := first | omega | (simp only [List.length_append, List.length_cons, List.length_nil, List.length_set, List.length_map, List.length_take, List.length_drop]; omega)) only [List.getElem?_append_left, List.getElem?_set_ne, List.getElem?_set_self, at_0, at_k, List.getElem?_cons_zero, List.getElem?_cons_succ, List.length_append, List.length_set, List.length_cons, List.length_nil, ne_eq, not_false_eq_true, Nat.zero_add] at hr2
    simp (disch := first | omega | (simp only [List.length_append, List.length_cons, List.length_nil, List.length_set, List.length_map, List.length_take, List.length_drop]; omega)) only [stdh, ↓reduceIte, Nat.reduceEqDiff, Int.reduceToNat, Int.reducePow, Nat.reduceAdd, Nat.reduceLeDiff, Nat.reduceMul, Nat.reduceBEq, reduceCtorEq, hc1, hcl.1, hcl.2]
    refine round_fin (n := H.length) rfl (by rw [List.getElem?_set_ne (by omega)]; exact hr2) ?_
    refine ⟨by (first | omega | (simp only [List.length_append, List.length_cons, List.length_nil, List.length_set, List.length_map, List.length_take, List.length_drop]; omega)), fun m m1 m2 m3 m4 m5 => ?_, vars_nil, ⟨v, ⟨?_, ?_⟩, fun m hm => .inr ?_⟩, rfl, ?_⟩
    · have m4' : m ≠ 3 := m4
      rw [List.getElem?_set_ne (by omega), List.getElem?_set_ne (by omega), ht.kept m (by (first | omega | (simp only [List.length_append, List.length_cons, List.length_nil, List.length_set, List.length_map, List.length_take, List.length_drop]; omega))) m5]; simp (disch := first | omega | (simp only [List.length_append, List.length_cons, List.length_nil, List.length_set, List.length_map, List.length_take, List.length_drop]; omega)) only [List.getElem?_append_left, List.getElem?_set_ne, List.getElem?_set_self, at_0, at_k, List.getElem?_cons_zero, List.getElem?_cons_succ, List.length_append, List.length_set, List.length_cons, List.length_nil, ne_eq, not_false_eq_true, Nat.zero_add]
    · show (List.set (List.set H2 3 _) H.length _)[3]? = _
      rw [List.getElem?_set_ne (by omega), List.getElem?_set_self (by omega)]; rfl
    · show Own 1 T.string 0 _ v (j + 1) (nameCells ((versionFields k (2 + (m' : Int))).take (j + 1)))
      rw [← hst]
      refine ov.moved fun m hm => ?_
      have := hn m hm
      simp only [List.length_append, List.length_set, List.length_cons, List.length_nil] at this
      rw [List.getElem?_set_ne (by omega), List.getElem?_set_ne (by omega)]
    · have := hn m hm
      simp only [List.length_append, List.length_set, List.length_cons, List.length_nil] at this; omega
    · rw [List.getElem?_set_self (by (first | omega | (simp only [List.length_append, List.length_cons, List.length_nil, List.length_set, List.length_map, List.length_take, List.length_drop]; omega)))]; rfl
  intro H' a hl hkp hx1 hx2 ha
  clear hx1 hx2
  have hk' : ∀ m, m < H.length → m ≠ 3 → H'[m]? = H[m]? := fun m h1 h2 => hkp m h1 (by simp) h2 (by simp [AVal.names])
  replace o1 := o1.moved (H' := H') (fun m hm => hk' m (o1.lt m hm).2 (fun he => o1.ne p3 (he ▸ hm)))
  replace o2 := o2.moved (H' := H') (fun m hm => hk' m (o2.lt m hm).2 (fun he => o2.ne p3 (he ▸ hm)))
  replace g0 := (hk' 0 (by omega) (by omega)).trans g0
  replace p1 := (hk' 1 (by omega) (by omega)).trans p1
  have p2 := (hk' 2 (by omega) (by omega)).trans c2
  clear p3
  have p3 : H'[3]? = some (.cells [a] T.sl_string) := ha.1
  have o3 : Own 1 T.string 0 H' a (versionFields k (2 + (m' : Int))).length (nameCells ((versionFields k (2 + (m' : Int))).take (versionFields k (2 + (m' : Int))).length)) := ha.2
  rw [List.take_length] at o3
  rw [e3] at o3
  rw [e2] at o2
  replace h4 : 4 ≤ H'.length := by omega
  clear hk' hkp ha hl c2
  clear H
  generalize H' = H at *
  generalize a = a3 at *
  refine run_V0 60 ?_
  simp (disch := first | omega | (simp only [List.length_append, List.length_cons, List.length_nil, List.length_set, List.length_map, List.length_take, List.length_drop]; omega)) only [stdh, ↓reduceIte, Nat.reduceEqDiff, Int.reduceToNat, Int.reducePow, Nat.reduceAdd, Nat.reduceLeDiff, Nat.reduceMul, Nat.reduceBEq, reduceCtorEq]
  refine vers_loop (k := k) h4 p1 p2 p3 o1 o2 o3 _ _ ?_ _ 0 H rfl (Nat.zero_le _) (Keeps.refl _)
  intro H' r hkk e4 e6 e7 e8 e15
  have h4' := hkk.le
  have q0 := hkk.get g0
  have q1 := hkk.get p1
  have q2 := hkk.get p2
  have q3 := hkk.get p3
  refine run_V0 100 ?_
  have h2l : 2 ≤ (versionFields k 1).length := by
    have : m = 0 ∨ m = 1 ∨ m = 2 ∨ m = 3 ∨ m = 4 := by omega
    rcases this with rfl | rfl | rfl | rfl | rfl <;> subst hk <;> decide +kernel
  simp (disch := first | omega | (simp only [List.length_append, List.length_cons, List.length_nil, List.length_set, List.length_map, List.length_take, List.length_drop]; omega)) only [stdh, ↓reduceIte, Nat.reduceEqDiff, Int.reduceToNat, Int.reducePow, Nat.reduceAdd, Nat.reduceLeDiff, Nat.reduceMul, Nat.reduceBEq, reduceCtorEq, e4, e6, e7, e8, e15]
  refine callK_fn (known16_ok _ _ ?_)
  refine runL_V 60 ?_
  simp (disch := first | omega | (simp only [List.length_append, List.length_cons, List.length_nil, List.length_set, List.length_map, List.length_take, List.length_drop]; omega)) only [stdh, ↓reduceIte, Nat.reduceEqDiff, Int.reduceToNat, Int.reducePow, Nat.reduceAdd, Nat.reduceLeDiff, Nat.reduceMul, Nat.reduceBEq, reduceCtorEq, q0, q1, q2, q3, o1.slen, o2.slen, o3.slen, e4, e6, e7, e8, e15, List.getElem?_set_self]
end Go.Proofs.Ytoingggmiplggaa

namespace Go.Proofs.Ytoingggmiplggaa.fieldVersions
open Go Go.Am Go.ChangeShapes Go.WideShapes Go.ChangeAt Go.RowKit
set_option linter.unusedVariables false

theorem own : ownKnob Try.prog.godebug = none := by kernel_rfl
theorem laidOut : laidOutB Try.prog = true := by kernel_rfl

set_option maxRecDepth 100000 in
theorem lifted (os : Os) (started : os.Started) (H : Type) (enc : TypeId × Value → H) :
    ReturnsInHanded {} Try.checked os F.cuneiformlaw16_FieldVersions .any (Rows.fieldVersionsSpec.pre6 enc Try.prog Try.f4 Rows.fieldVersionsRow.domain false) (Rows.fieldVersionsSpec.post enc Try.prog Try.f4 false true false false) := by
  refine returnsInHanded_of_change (C := Try.checked) own started (by kernel_rfl) Try.func4
    (ChangeSpec.witness6 (enc := enc) (C := Try.checked) false ⟨#[], #[.int .i64 0, .int .i64 0], []⟩ 8 (by kernel_rfl) (by kernel_rfl) (by kernel_rfl) (by kernel_rfl)) ?_
  intro W base args ds gs before hval hW hcnd _
  refine law_calls (shs := [.int .i64, .int .i64]) (tb := 4) laidOut (by kernel_rfl) ?_ (by kernel_rfl) Try.underlying4 rfl ?_ ?_ hval hW
  · intro t ht
    have : ∀ t ∈ Try.f4.params.toList, (Try.prog.readableRec t && decide (t < Try.prog.types.size)) = true := List.all_eq_true.1 (by kernel_rfl)
    simpa using this t ht
  · intro H ds hd
    match ds, hd with
    | [d0, d1], _ => exact ⟨rfl, rfl, rfl⟩
  · rintro xs ⟨a, r, rfl, ⟨s, hs, ws⟩, b, r', rfl, ⟨s', hs', ws'⟩, rfl⟩
    cases hs
    cases hs'
    exact versions_ok s s'

theorem proved : Rows.FieldVersionsSaid :=
  OpenClaim.holds_of_wide F.cuneiformlaw16_FieldVersions Try.f4 rfl rfl rfl rfl rfl rfl rfl ⟨rfl, rfl, rfl, rfl, rfl⟩ rfl rfl rfl rfl rfl (by kernel_rfl) Try.func4 (by kernel_rfl)
    (of_decide_eq_true (by kernel_rfl)) (by unfold Func.isWrapper; first | (rw [if_pos (by decide +kernel)]; kernel_rfl) | (rw [if_neg (by decide +kernel)]; exact ⟨rfl, rfl⟩))
    (fun os started H enc _ => lifted os started H enc)
end Go.Proofs.Ytoingggmiplggaa.fieldVersions
