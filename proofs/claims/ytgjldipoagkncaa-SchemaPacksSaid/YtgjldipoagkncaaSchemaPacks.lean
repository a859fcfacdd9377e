/-
  Whatever message is packed in any version: its body or what is wrong, whether it fits, the best version and what is lost are what the document says, and it is unpacked as its projection (40 points and cells, 80 bytes). By an AI agent. No person has read it.
-/
import Derived.Test.YtgjldipoagkncaaBODYD
import Derived.Test.YtgjldipoagkncaaAm6
import Derived.OpenShut
import Derived.Test.YtgjldipoagkncaaRows
set_option linter.unusedSimpArgs false
set_option linter.unusedVariables false

namespace Go.Proofs.Ytgjldipoagkncaa
open Go Go.Am
abbrev spC : Ctx := ⟨F.cuneiformlaw19_SchemaPacks, 192, [.tmp 4], none⟩
set_option maxRecDepth 10000 in
set_option maxHeartbeats 4000000 in
theorem sp_range {m : Mg} {v : Int} (hm : m.fine) (hs : m.small) {c : Nat} {k : List AItem} {r : Regs} {H : AHeap} {Q : AVal → AHeap → Prop} (f58 : rget r 58 = .fn F.schema_Lost_1 [] [cellN (encM m), cell (.int .i64 v)]) (f11 : rget r 11 = .ptr c 0) (f12 : rget r 12 = .ptr (c + 1) 0) (f13 : rget r 13 = .ptr (c + 2) 0) (hc : c + 2 < H.length)
  (e0 : H[c]? = some (.cells [recs encN false (lostR m v)] T.sl_string)) (e1 : H[c + 1]? = some (.cells [.int .i64 0] T.int)) (e2 : H[c + 2]? = some (.cells [.bool true] T.bool))
  (hK : ∀ H', (∀ x, x < H.length → x ≠ c + 1 → x ≠ c + 2 → H'[x]? = H[x]?) → H.length < H'.length → H'[c + 1]? = some (.cells [.int .i64 ((lostR m v).length : Nat)] T.int) → H'[c + 2]? = some (.cells [.bool true] T.bool) → Run Try.prog spC k r H' Q) :
  Run Try.prog spC (.code (.range (.tmp 58) [59] cuneiformlaw19_SchemaPacks.a0 cuneiformlaw19_SchemaPacks.b0) :: k) r H Q := by
 refine range_vars (g := F.schema_Lost_1) (first := []) (captured := [cellN (encM m), cell (.int .i64 v)]) f58 (by intro n hn; cases hn) (item := nameArgs (lostL m v)) (len := (lostL m v).length) (fun j => rfl) [(c + 1, T.int, fun j => .int .i64 (j : Nat)), (c + 2, T.bool, fun _ => .bool true)] (fun _ => none) (vars_cons e1 (vars_cons e2 vars_nil)) ?_ (fun _ _ _ => lost1_iter hm hs) ?_ (fun _ _ _ _ _ _ hh => by cases hh)
 ·intro a' b' j H1 hj _ hl hk hrec hv
  rw [lost_eq] at hj ⊢
  have q0 := (hk c (by omega) (by simp)).trans e0
  have q1 := hv.get (c := c + 1) (T := T.int) (f := fun j => .int .i64 (j : Nat)) (by simp)
  have q2 := hv.get (c := c + 2) (T := T.bool) (f := fun _ => .bool true) (by simp)
  have hld : ∀ H, loadA H none (.sptr (recs encN false (lostR m v)) (j * 1)) = some (True, .str ((lostR m v).getD j fld0).name) := fun H => load_rec1 (enc := encN) (t := false) (w := 1) (o := 0) encN_len hj (by omega)
  have hlenL : (lostR m v).length ≤ 6 := by
   unfold lostR
   split
   ·simp
   ·exact Nat.le_trans (List.length_filter_le _ _) (fieldsOf_le _)
  rw [Nat.mul_one] at hld
  refine run_V0 60 ?_
  simp (disch := first | omega | (simp only [lnx]; omega)) only [stdh, stdx, ↓reduceIte, seval, cuneiformlaw19_SchemaPacks.a0, cuneiformlaw19_SchemaPacks.b0, hrec, q0, q1, q2, nameArgs, hld, f11, f12, f13, List.zip_cons_cons, List.zip_nil_left, List.reverse_cons, List.reverse_nil, List.getElem?_set_self, List.getElem?_set_ne]
  refine round_fin (n := H.length) (L := lrec _ _ _ a' b' .busy none) rfl (by simp (disch := first | omega | (simp only [lnx]; omega)) only [List.getElem?_set_ne, List.getElem?_set_self, List.length_set, ne_eq, not_false_eq_true]; rfl) ?_
  refine varsQ_mk rfl (by (first | omega | (simp only [lnx]; omega))) (fun m m1 m2 m3 => ?_) (vars_cons ?_ (vars_cons ?_ vars_nil)) (by simp (disch := first | omega | (simp only [lnx]; omega)) only [List.getElem?_set_ne, List.getElem?_set_self, List.length_set, ne_eq, not_false_eq_true]; rfl)
  ·simp only [List.map_cons, List.map_nil, List.mem_cons, List.not_mem_nil, or_false, not_or] at m3
   obtain ⟨m3, m4⟩ := m3
   simp (disch := first | omega | (simp only [lnx]; omega)) only [List.getElem?_set_ne, List.getElem?_set_self, List.length_set, ne_eq, not_false_eq_true]
  ·simp (disch := first | omega | (simp only [lnx]; omega)) only [List.getElem?_set_ne, List.getElem?_set_self, List.length_set, ne_eq, not_false_eq_true]
   rw [show (j : Int) + 1 = ((j + 1 : Nat) : Int) by omega]
  ·simp (disch := first | omega | (simp only [lnx]; omega)) only [List.getElem?_set_ne, List.getElem?_set_self, List.length_set, ne_eq, not_false_eq_true]
 ·intro H' hl hk _ hv
  rw [lost_eq] at hv
  refine hK H' (fun x h1 h2 h3 => hk x h1 (by simp [h2, h3])) hl ?_ ?_
  ·exact hv.get (c := c + 1) (T := T.int) (f := fun j => .int .i64 (j : Nat)) (by simp)
  ·exact hv.get (c := c + 2) (T := T.bool) (f := fun _ => .bool true) (by simp)
theorem snew_no (H : AHeap) {v : Int} (hv : v ≠ 1 ∧ v ≠ 2) (Q : AVal → AHeap → Prop) (h : Q (.tup [.nilp, .int .i64 10]) H) : FunOK Try.prog F.schema_New [.int .i64 v] H Q := by
 refine fun_V 60 schema_New_code rfl ?_
 simp (disch := first | omega | (simp only [lnx]; omega)) only [stdh, stdx, ↓reduceIte, seval, schema_New, schema_New.body]
 refine callK_fn (is_no _ hv _ ?_)
 refine runL_V 60 ?_
 simp (disch := first | omega | (simp only [lnx]; omega)) only [stdh, stdx, ↓reduceIte, seval]
 exact h
theorem snew_ok (H : AHeap) {v : Int} (hv : v = 1 ∨ v = 2) (Q : AVal → AHeap → Prop) (h : Q (.tup [.ptr H.length 0, .int .i64 0]) (H ++ [.cells [.int .i64 v] T.schema_Schema])) : FunOK Try.prog F.schema_New [.int .i64 v] H Q := by
 refine fun_V 60 schema_New_code rfl ?_
 simp (disch := first | omega | (simp only [lnx]; omega)) only [stdh, stdx, ↓reduceIte, seval, schema_New, schema_New.body]
 refine callK_fn (is_ok _ hv _ ?_)
 refine runL_V 60 ?_
 simp (disch := first | omega | (simp only [lnx]; omega)) only [stdh, stdx, ↓reduceIte, seval]
 exact h
theorem sver_ok (H : AHeap) {q : Nat} {v : Int} (hv : v = 1 ∨ v = 2) (hq : H[q]? = some (.cells [.int .i64 v] T.schema_Schema)) (Q : AVal → AHeap → Prop) (h : Q (.int .i64 v) H) : FunOK Try.prog F.schema_Schema_Version [.ptr q 0] H Q := by
 refine fun_V 60 schema_Schema_Version_code rfl ?_
 have hd : decide (v = 0) = false := decide_eq_false (by omega)
 simp (disch := first | omega | (simp only [lnx]; omega)) only [stdh, stdx, ↓reduceIte, seval, schema_Schema_Version, schema_Schema_Version.body, eqA, eqCells, eqCell, hq, hd]
 exact h
set_option maxHeartbeats 4000000 in
theorem spack_ok (H : AHeap) {q : Nat} {v : Int} (hq : H[q]? = some (.cells [.int .i64 v] T.schema_Schema)) (m : Mg) (hm : m.fine) (Q : AVal → AHeap → Prop) (h : Q (.tup [.int .i64 (if bcheckE m v = 0 then m.k else 0), nums .u8 false (encB m v), .int .i64 (bcheckE m v)]) H) : FunOK Try.prog F.schema_Schema_Pack [.ptr q 0, .agg (encM m)] H Q := by
 refine fun_iced schema_Schema_Pack_code fun _ => ?_
 refine fun_V 60 schema_Schema_Pack_code rfl ?_
 have hq' : ∀ L, (H ++ L)[q]? = some (.cells [.int .i64 v] T.schema_Schema) := fun L => (at_low (List.getElem?_eq_some_iff.1 hq).1).trans hq
 simp (disch := first | omega | (simp only [lnx]; omega)) only [stdh, stdx, ↓reduceIte, seval, schema_Schema_Pack, schema_Schema_Pack.body, schema_Schema_Pack.d0, encM, eqA, hq']
 refine callD_fn (encode_ok _ m v hm _ ?_)
 refine ⟨by simp (disch := first | omega | (simp only [lnx]; omega)) only [stdh, stdx, ↓reduceIte, seval], ?_⟩
 refine runD_V 60 ?_
 by_cases hc : bcheckE m v = 0
 ·rw [if_pos hc, hc] at h
  simp (disch := first | omega | (simp only [lnx]; omega)) only [stdh, stdx, ↓reduceIte, seval, hc]
  exact ice_none ⟨trivial, closed_nums _ _ _, trivial, trivial⟩ h
 ·have he : encB m v = [] := by rw [encB, partFields, if_neg hc]; rfl
  rw [if_neg hc, he] at h
  simp (disch := first | omega | (simp only [lnx]; omega)) only [stdh, stdx, ↓reduceIte, seval, hc]
  exact ice_sees ⟨trivial, trivial, trivial, trivial⟩ (Sees.tup (.cons (.refl _) (.cons (Sees.nils false) (.cons (.refl _) .nil)))) h
set_option maxHeartbeats 4000000 in
theorem sunpack_ok (H : AHeap) {q : Nat} {v k : Int} (hq : H[q]? = some (.cells [.int .i64 v] T.schema_Schema)) {ys : List Nat} {t : Bool} (hb : ∀ b ∈ ys, b < 256) (hlen : ys.length ≤ 1000000) (Q : AVal → AHeap → Prop) (h : Q (.tup [.agg (encM (decM k v ys).1), .int .i64 ((decM k v ys).2 : Nat)]) H) : FunOK Try.prog F.schema_Schema_Unpack [.ptr q 0, .int .i64 k, nums .u8 t ys] H Q := by
 refine fun_iced schema_Schema_Unpack_code fun _ => ?_
 refine fun_V 60 schema_Schema_Unpack_code rfl ?_
 have hq' : ∀ L, (H ++ L)[q]? = some (.cells [.int .i64 v] T.schema_Schema) := fun L => (at_low (List.getElem?_eq_some_iff.1 hq).1).trans hq
 simp (disch := first | omega | (simp only [lnx]; omega)) only [stdh, stdx, ↓reduceIte, seval, schema_Schema_Unpack, schema_Schema_Unpack.body, eqA, hq']
 refine callK_fn (decode_ok _ hb hlen _ ?_)
 refine runL_V 60 ?_
 generalize decM k v ys = d at *
 simp (disch := first | omega | (simp only [lnx]; omega)) only [stdh, stdx, ↓reduceIte, seval, encM, List.getElem?_set_self]
 exact ice_none ⟨closeds_encM _, trivial, trivial⟩ h
set_option maxRecDepth 10000 in
set_option maxHeartbeats 8000000 in
theorem schemapacks_ok {a : Mg} (ha : a.fine) (v : Int) : FunOK Try.prog F.cuneiformlaw19_SchemaPacks [.agg (encM a), .int .i64 v] [] fun av _ => av = .bool true := by
 refine fun_V 60 cuneiformlaw19_SchemaPacks_code rfl ?_
 simp (disch := first | omega | (simp only [lnx]; omega)) only [stdh, stdx, ↓reduceIte, seval, cuneiformlaw19_SchemaPacks, cuneiformlaw19_SchemaPacks.body, encM]
 refine callK_fn (cut17_ok _ a ha _ ?_)
 have sm := cutM_small a
 have f2 := cutM_fine2 a
 have fm := f2.fine
 generalize cutM a = m at *
 refine runL_V 60 ?_
 simp (disch := first | omega | (simp only [lnx]; omega)) only [stdh, stdx, ↓reduceIte, seval, encM]
 have hbb := encB_byte m v
 have hbl := encB_len fm v
 have hlenL : (lostR m v).length ≤ 6 := by
  unfold lostR
  split
  ·simp
  ·exact Nat.le_trans (List.length_filter_le _ _) (fieldsOf_le _)
 have hdL : decide (((lostR m v).length : Int) = ((lostR m v).length : Int)) = true := decide_eq_true rfl
 by_cases hv : v = 1 ∨ v = 2
 ·refine callK_fn (snew_ok _ hv _ ?_)
  refine runL_V 60 ?_
  simp (disch := first | omega | (simp only [lnx]; omega)) only [stdh, stdx, ↓reduceIte, seval]
  refine callK_fn (best_ok _ m fm sm _ ?_)
  refine runL_V 60 ?_
  simp (disch := first | omega | (simp only [lnx]; omega)) only [stdh, stdx, ↓reduceIte, seval]
  refine callK_fn (of17_ok _ m sm _ ?_)
  refine runL_V 60 ?_
  simp (disch := first | omega | (simp only [lnx]; omega)) only [stdh, stdx, ↓reduceIte, seval]
  refine callK_fn (rbest_ok _ m f2 sm _ ?_)
  refine runL_V 60 ?_
  simp (disch := first | omega | (simp only [lnx]; omega)) only [stdh, stdx, ↓reduceIte, seval]
  refine callK_fn (of17_ok _ m sm _ ?_)
  refine runL_V 60 ?_
  simp (disch := first | omega | (simp only [lnx]; omega)) only [stdh, stdx, ↓reduceIte, seval]
  refine callK_fn (rlost_ok _ m v f2 _ ?_)
  refine runL_V 60 ?_
  simp (disch := first | omega | (simp only [lnx]; omega)) only [stdh, stdx, ↓reduceIte, seval]
  refine callK_fn (lost_ok _ m v _ ?_)
  refine runL_V 60 ?_
  simp (disch := first | omega | (simp only [lnx]; omega)) only [stdh, stdx, ↓reduceIte, seval, eqA]
  refine sp_range fm sm (c := 2) rfl rfl rfl rfl (by simp) rfl rfl rfl ?_
  intro H' hk hl q3 q4
  have q0 : H'[0]? = some (ABlk.cells [.int .i64 m.k, .int .i64 m.n0, .int .i64 m.n1, .int .i64 m.n2, .int .i64 m.n3, .int .i64 m.n4, .int .i64 m.n5, recs encP false m.p, ints false m.c, .str m.t, .str m.g] T.msg_Msg) := (hk 0 (by simp) (by omega) (by omega)).trans rfl
  have q1 : H'[1]? = some (.cells [.int .i64 v] T.schema_Schema) := (hk 1 (by simp) (by omega) (by omega)).trans rfl
  have q2 : H'[2]? = some (.cells [recs encN false (lostR m v)] T.sl_string) := (hk 2 (by simp) (by omega) (by omega)).trans rfl
  have hl5 : 5 ≤ H'.length := by simp at hl; omega
  clear hk hl
  have hvv : decide (v = v) = true := decide_eq_true rfl
  have hde := dec_enc (m := m) (v := v) (rest := [])
  have hright := dec_right (k := m.k) (v := v) hbb
  rw [List.append_nil, if_pos rfl] at hde
  generalize hfb : fitsM m v = fb
  have hc2 : (v = 1) ∨ (v ≠ 1 ∧ v = 2) := by omega
  rcases hc2 with hv1 | ⟨hv1, hv2⟩
  case' inl =>
   have hd : decide (v = 1) = true := decide_eq_true hv1
   refine run_V0 60 ?_
   simp (disch := first | omega | (simp only [lnx]; omega)) only [stdh, stdx, ↓reduceIte, seval, q3, q4, q2, hdL, hd]
  case' inr =>
   have hd : decide (v = 1) = false := decide_eq_false hv1
   have hd2 : decide (v = 2) = true := decide_eq_true hv2
   refine run_V0 60 ?_
   simp (disch := first | omega | (simp only [lnx]; omega)) only [stdh, stdx, ↓reduceIte, seval, q3, q4, q2, hdL, hd, hd2]
  all_goals
   simp (disch := first | omega | (simp only [lnx]; omega)) only [stdh, stdx, ↓reduceIte, seval, cuneiformlaw19_SchemaPacks.d1, eqA]
   refine callD_fn (sver_ok _ hv q1 _ ?_)
   refine ⟨by simp (disch := first | omega | (simp only [lnx]; omega)) only [stdh, stdx, ↓reduceIte, seval], ?_⟩
   refine runD_V 60 ?_
   simp (disch := first | omega | (simp only [lnx]; omega)) only [stdh, stdx, ↓reduceIte, seval, hvv, q0]
   refine callD_fn (fits_ok _ q1 m fm sm _ ?_)
   refine ⟨by simp (disch := first | omega | (simp only [lnx]; omega)) only [stdh, stdx, ↓reduceIte, seval, q0], ?_⟩
   refine runD_V 60 ?_
   simp (disch := first | omega | (simp only [lnx]; omega)) only [stdh, stdx, ↓reduceIte, seval, q0]
   refine callD_fn (of17_ok _ m sm _ ?_)
   refine ⟨by simp (disch := first | omega | (simp only [lnx]; omega)) only [stdh, stdx, ↓reduceIte, seval], ?_⟩
   refine runD_V 60 ?_
   simp (disch := first | omega | (simp only [lnx]; omega)) only [stdh, stdx, ↓reduceIte, seval]
   refine callD_fn (rfits_ok _ m v f2 sm _ ?_)
   refine ⟨by simp (disch := first | omega | (simp only [lnx]; omega)) only [stdh, stdx, ↓reduceIte, seval], ?_⟩
   refine runD_V 60 ?_
   rw [hfb]
   have hbb2 : decide (fb = fb) = true := decide_eq_true rfl
   have hbb3 : (fb == fb) = true := by cases fb <;> rfl
   simp (disch := first | omega | (simp only [lnx]; omega)) only [stdh, stdx, ↓reduceIte, seval, eqA, hbb2, hbb3, Bool.not_true, q0]
   refine callK_fn (spack_ok _ q1 m fm _ ?_)
   refine runL_V 60 ?_
   simp (disch := first | omega | (simp only [lnx]; omega)) only [stdh, stdx, ↓reduceIte, seval, q0]
   refine callK_fn (of17_ok _ m sm _ ?_)
   refine runL_V 60 ?_
   simp (disch := first | omega | (simp only [lnx]; omega)) only [stdh, stdx, ↓reduceIte, seval]
   refine callK_fn (rencode_ok _ m v f2 _ ?_)
   refine runL_V 60 ?_
   have hee : decide (bcheckE m v = bcheckE m v) = true := decide_eq_true rfl
   simp (disch := first | omega | (simp only [lnx]; omega)) only [stdh, stdx, ↓reduceIte, seval, hee]
   refine callK_fn (bsame_ok _ (nums_nats .u8 _ _ _) (nums_nats .u8 _ _ _) (by omega) _ ?_)
   rw [decide_eq_true rfl]
   refine runL_V 60 ?_
   by_cases hc : bcheckE m v = 0
   case neg =>
    simp (disch := first | omega | (simp only [lnx]; omega)) only [stdh, stdx, ↓reduceIte, seval, hc, q0]
    refine callK_fn (known19_ok _ _ ?_)
    refine runL_V 60 ?_
    simp (disch := first | omega | (simp only [lnx]; omega)) only [stdh, stdx, ↓reduceIte, seval]
   obtain ⟨hvz, hm0⟩ := bcheck_zero hc
   have hde := hde hm0 fm hv
   rw [hde] at hright
   obtain ⟨a1, a2, a3, a4, a5⟩ := hright rfl
   have hkk : decide (m.k = m.k) = true := decide_eq_true rfl
   have hfit : fitsM (projectM m v) v = true := by rw [fitsM, decide_eq_true a3, decide_eq_true a5]; rfl
   have sp := projectM_small sm v
   have fp := (projectM_fine2 f2 v).fine
   simp (disch := first | omega | (simp only [lnx]; omega)) only [stdh, stdx, ↓reduceIte, seval, hc, hkk, q0]
   refine callK_fn (sunpack_ok _ q1 hbb (by omega) _ ?_)
   rw [hde]
   generalize hp : projectM m v = p at *
   refine runL_V 60 ?_
   have qq : ∀ L : AHeap, (H' ++ L)[1]? = some (.cells [.int .i64 v] T.schema_Schema) := fun L => (at_low (by omega)).trans q1
   have qq0 : ∀ L : AHeap, (H' ++ L)[0]? = some (ABlk.cells [.int .i64 m.k, .int .i64 m.n0, .int .i64 m.n1, .int .i64 m.n2, .int .i64 m.n3, .int .i64 m.n4, .int .i64 m.n5, recs encP false m.p, ints false m.c, .str m.t, .str m.g] T.msg_Msg) := fun L => (at_low (by omega)).trans q0
   simp (disch := first | omega | (simp only [lnx]; omega)) only [stdh, stdx, ↓reduceIte, seval, cuneiformlaw19_SchemaPacks.d2, encM]
   refine callD_fn (known19_ok _ _ ?_)
   refine ⟨by simp (disch := first | omega | (simp only [lnx]; omega)) only [stdh, stdx, ↓reduceIte, seval], ?_⟩
   refine runD_V 60 ?_
   simp (disch := first | omega | (simp only [lnx]; omega)) only [stdh, stdx, ↓reduceIte, seval, qq0]
   refine callD_fn (of17_ok _ p sp _ ?_)
   refine ⟨by simp (disch := first | omega | (simp only [lnx]; omega)) only [stdh, stdx, ↓reduceIte, seval, qq0], ?_⟩
   refine runD_V 60 ?_
   simp (disch := first | omega | (simp only [lnx]; omega)) only [stdh, stdx, ↓reduceIte, seval, qq0]
   refine callD_fn (of17_ok _ m sm _ ?_)
   refine ⟨by simp (disch := first | omega | (simp only [lnx]; omega)) only [stdh, stdx, ↓reduceIte, seval, qq0], ?_⟩
   refine runD_V 60 ?_
   simp (disch := first | omega | (simp only [lnx]; omega)) only [stdh, stdx, ↓reduceIte, seval]
   refine callD_fn (rproject_ok _ m v _ ?_)
   refine ⟨by simp (disch := first | omega | (simp only [lnx]; omega)) only [stdh, stdx, ↓reduceIte, seval], ?_⟩
   refine runD_V 60 ?_
   rw [hp]
   simp (disch := first | omega | (simp only [lnx]; omega)) only [stdh, stdx, ↓reduceIte, seval]
   refine callD_fn (rsame_ok _ p p sp.fit2 _ ?_)
   rw [decide_eq_true rfl]
   refine ⟨by simp (disch := first | omega | (simp only [lnx]; omega)) only [stdh, stdx, ↓reduceIte, seval], ?_⟩
   refine runD_V 60 ?_
   simp (disch := first | omega | (simp only [lnx]; omega)) only [stdh, stdx, ↓reduceIte, seval]
   refine callD_fn (fits_ok _ (qq _) p fp sp _ ?_)
   rw [hfit]
   refine ⟨by simp (disch := first | omega | (simp only [lnx]; omega)) only [stdh, stdx, ↓reduceIte, seval], ?_⟩
   refine runD_V 60 ?_
   simp (disch := first | omega | (simp only [lnx]; omega)) only [stdh, stdx, ↓reduceIte, seval]
 ·have hv2 : v ≠ 1 ∧ v ≠ 2 := by omega
  have hd : decide (v = 1) = false := decide_eq_false hv2.1
  have hd2 : decide (v = 2) = false := decide_eq_false hv2.2
  refine callK_fn (snew_no _ hv2 _ ?_)
  refine runL_V 60 ?_
  simp (disch := first | omega | (simp only [lnx]; omega)) only [stdh, stdx, ↓reduceIte, seval]
  refine callK_fn (best_ok _ m fm sm _ ?_)
  refine runL_V 60 ?_
  simp (disch := first | omega | (simp only [lnx]; omega)) only [stdh, stdx, ↓reduceIte, seval]
  refine callK_fn (of17_ok _ m sm _ ?_)
  refine runL_V 60 ?_
  simp (disch := first | omega | (simp only [lnx]; omega)) only [stdh, stdx, ↓reduceIte, seval]
  refine callK_fn (rbest_ok _ m f2 sm _ ?_)
  refine runL_V 60 ?_
  simp (disch := first | omega | (simp only [lnx]; omega)) only [stdh, stdx, ↓reduceIte, seval]
  refine callK_fn (of17_ok _ m sm _ ?_)
  refine runL_V 60 ?_
  simp (disch := first | omega | (simp only [lnx]; omega)) only [stdh, stdx, ↓reduceIte, seval]
  refine callK_fn (rlost_ok _ m v f2 _ ?_)
  refine runL_V 60 ?_
  simp (disch := first | omega | (simp only [lnx]; omega)) only [stdh, stdx, ↓reduceIte, seval]
  refine callK_fn (lost_ok _ m v _ ?_)
  refine runL_V 60 ?_
  simp (disch := first | omega | (simp only [lnx]; omega)) only [stdh, stdx, ↓reduceIte, seval, eqA]
  refine sp_range fm sm (c := 1) rfl rfl rfl rfl (by simp) rfl rfl rfl ?_
  intro H' hk hl q3 q4
  have q2 : H'[1]? = some (.cells [recs encN false (lostR m v)] T.sl_string) := (hk 1 (by simp) (by omega) (by omega)).trans rfl
  refine run_V0 60 ?_
  simp (disch := first | omega | (simp only [lnx]; omega)) only [stdh, stdx, ↓reduceIte, seval, q3, q4, q2, hdL, hd, hd2]
  refine callK_fn (known19_ok _ _ ?_)
  refine runL_V 60 ?_
  simp (disch := first | omega | (simp only [lnx]; omega)) only [stdh, stdx, ↓reduceIte, seval, eqA]
end Go.Proofs.Ytgjldipoagkncaa

namespace Go.Proofs.Ytgjldipoagkncaa.schemaPacks
open Go Go.Am Go.ChangeShapes Go.WideShapes Go.ChangeAt Go.RowKit
set_option linter.unusedVariables false

theorem own : ownKnob Try.prog.godebug = none := by kernel_rfl
theorem laidOut : laidOutB Try.prog = true := by kernel_rfl

set_option maxRecDepth 100000 in
theorem lifted (os : Os) (started : os.Started) (H : Type) (enc : TypeId × Value → H) :
    ReturnsInHanded {} Try.checked os F.cuneiformlaw19_SchemaPacks .any (Rows.schemaPacksSpec.pre6 enc Try.prog Try.f6 Rows.schemaPacksRow.domain false) (Rows.schemaPacksSpec.post enc Try.prog Try.f6 false true false false) := by
  refine returnsInHanded_of_change (C := Try.checked) own started (by kernel_rfl) Try.func6
    (ChangeSpec.witness6 (enc := enc) (C := Try.checked) false ⟨#[], #[.agg #[.int .i64 0, .int .i64 0, .int .i64 0, .int .i64 0, .int .i64 0, .int .i64 0, .int .i64 0, .slice none 0 0, .slice none 0 0, .string ⟨#[]⟩, .string ⟨#[]⟩], .int .i64 1], []⟩ 8 (by kernel_rfl) (by kernel_rfl) (by kernel_rfl) (by kernel_rfl)) ?_
  intro W base args ds gs before hval hW hcnd _
  refine law_calls (shs := [shMsg, .int .i64]) (tb := 4) laidOut (by kernel_rfl) ?_ (by kernel_rfl) Try.underlying4 rfl ?_ ?_ hval hW
  · intro t ht
    have : ∀ t ∈ Try.f6.params.toList, (Try.prog.readableRec t && decide (t < Try.prog.types.size)) = true := List.all_eq_true.1 (by kernel_rfl)
    simpa using this t ht
  · intro H ds hd
    match ds, hd with
    | [d0, d1], _ => exact ⟨rfl, rfl, rfl⟩
  · rintro xs ⟨a, r, rfl, ha, b, r2, rfl, ⟨v, hv, _⟩, rfl⟩
    cases hv
    obtain ⟨x, x1, x2, _⟩ := msg_fits2 ha
    exact fun_sees (.cons x1 (.cons (.refl _) .nil)) (schemapacks_ok ⟨x2.p, x2.c, x2.t, x2.g⟩ v)

theorem proved : Rows.SchemaPacksSaid :=
  OpenClaim.holds_of_wide F.cuneiformlaw19_SchemaPacks Try.f6 rfl rfl rfl rfl rfl rfl rfl ⟨rfl, rfl, rfl, rfl, rfl⟩ rfl rfl rfl rfl rfl (by kernel_rfl) Try.func6 (by kernel_rfl)
    (of_decide_eq_true (by kernel_rfl)) (by unfold Func.isWrapper; first | (rw [if_pos (by decide +kernel)]; kernel_rfl) | (rw [if_neg (by decide +kernel)]; exact ⟨rfl, rfl⟩))
    (fun os started H enc _ => lifted os started H enc)
end Go.Proofs.Ytgjldipoagkncaa.schemaPacks
