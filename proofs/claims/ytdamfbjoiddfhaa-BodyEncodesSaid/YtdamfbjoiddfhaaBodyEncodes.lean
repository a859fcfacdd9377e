/-
  whatever the message and the version, the law BodyEncodes returns true. No condition. By an AI agent. No person has read it.
-/
import Derived.Test.YtdamfbjoiddfhaaBODYD
import Derived.Test.YtdamfbjoiddfhaaAm6
import Derived.OpenShut
import Derived.Test.YtdamfbjoiddfhaaRows

namespace Go.Proofs.Ytdamfbjoiddfhaa
open Go Go.Am
set_option linter.unusedSimpArgs false
set_option linter.unusedVariables false
set_option maxRecDepth 10000 in
set_option maxHeartbeats 8000000 in
theorem bodyencodes_ok {a : Mg} (ha : a.fine) (v : Int) : FunOK Try.prog F.cuneiformlaw18_BodyEncodes [.agg (encM a), .int .i64 v] [] fun av _ => av = .bool true := by
  refine fun_V 60 cuneiformlaw18_BodyEncodes_code rfl ?_
  simp (disch := first | omega | (simp only [lnx]; omega)) only [stdh, stdx, ↓reduceIte, seval, cuneiformlaw18_BodyEncodes, cuneiformlaw18_BodyEncodes.body, encM]
  refine callK_fn (cut17_ok _ a ha _ ?_)
  have sm := cutM_small a
  have f2 := cutM_fine2 a
  have fm := f2.fine
  generalize cutM a = m at *
  refine runL_V 60 ?_
  simp (disch := first | omega | (simp only [lnx]; omega)) only [stdh, stdx, ↓reduceIte, seval, encM]
  refine callK_fn (encode_ok _ m v fm _ ?_)
  refine runL_V 60 ?_
  have l192 := encB_192 fm v
  have b1 := encB_byte m v
  have hde := dec_enc (m := m) (v := v) (rest := [])
  rw [List.append_nil, if_pos rfl] at hde
  have hpe : bcheckE m v ≠ 0 → encB m v = [] := fun h => by rw [encB, partFields, if_neg h]; rfl
  generalize hx : encB m v = x at *
  generalize hbc : bcheckE m v = bc at *
  have hbb : decide (bc = bc) = true := decide_eq_true rfl
  simp (disch := first | omega | (simp only [lnx]; omega)) only [stdh, stdx, ↓reduceIte, seval, encM, cuneiformlaw18_BodyEncodes.d0]
  refine ⟨?_, ?_, ?_⟩
  all_goals
    refine callD_fn (of17_ok _ m sm _ ?_)
    refine ⟨by simp (disch := first | omega | (simp only [lnx]; omega)) only [stdh, stdx, ↓reduceIte, seval, encM], ?_⟩
    refine runD_V 60 ?_
    simp (disch := first | omega | (simp only [lnx]; omega)) only [stdh, stdx, ↓reduceIte, seval, encM]
    refine callD_fn (rencode_ok _ m v f2 _ ?_)
    rw [hx, hbc]
    refine ⟨by simp (disch := first | omega | (simp only [lnx]; omega)) only [stdh, stdx, ↓reduceIte, seval, encM], ?_⟩
    refine runD_V 60 ?_
    simp (disch := first | omega | (simp only [lnx]; omega)) only [stdh, stdx, ↓reduceIte, seval, encM, hbb]
    refine callK_fn (bsame_ok _ (nums_nats .u8 false _ _) (nums_nats .u8 false _ _) (by omega) _ ?_)
    rw [decide_eq_true rfl]
    refine runL_V 60 ?_
    simp (disch := first | omega | (simp only [lnx]; omega)) only [stdh, stdx, ↓reduceIte, seval, encM]
    refine callK_fn (bsize_ok _ m v fm _ ?_)
    rw [hx]
    refine runL_V 60 ?_
    have hll : decide ((x.length : Int) = (x.length : Int)) = true := decide_eq_true rfl
    have h192 : decide ((192 : Int) < (x.length : Int)) = false := decide_eq_false (by omega)
    simp (disch := first | omega | (simp only [lnx]; omega)) only [stdh, stdx, ↓reduceIte, seval, encM, hll, h192]
    refine callK_fn (rall16_ok _ _ _ ?_)
    have hlen := fieldsOf_le m.k
    refine runL_V 60 ?_
    simp (disch := first | omega | (simp only [lnx]; omega)) only [stdh, stdx, ↓reduceIte, seval, encM]
    refine callK_fn (parts_ok _ m v _ ?_)
    refine runL_V 60 ?_
    simp (disch := first | omega | (simp only [lnx]; omega)) only [stdh, stdx, ↓reduceIte, seval, encM, eqA]
    generalize hH : ([ABlk.cells [AVal.int .i64 m.k, .int .i64 m.n0, .int .i64 m.n1, .int .i64 m.n2, .int .i64 m.n3, .int .i64 m.n4, .int .i64 m.n5, recs encP false m.p, ints false m.c, .str m.t, .str m.g] T.msg_Msg, ABlk.cells [.int .i64 v] T.int, ABlk.cells [.int .i64 bc] T.int, ABlk.cells [recs encF false (fieldsOf m.k)] T.sl_cuneiformref16_F, ABlk.cells [.int .i64 0] T.int, ABlk.cells [.bool true] T.bool] : AHeap) = H
    have e0 : H[0]? = some (.cells (encM m) T.msg_Msg) := by rw [← hH]; rfl
    have e1 : H[1]? = some (.cells [.int .i64 v] T.int) := by rw [← hH]; rfl
    have e2 : H[2]? = some (.cells [.int .i64 bc] T.int) := by rw [← hH]; rfl
    have e3 : H[3]? = some (.cells [recs encF false (fieldsOf m.k)] T.sl_cuneiformref16_F) := by rw [← hH]; rfl
    have e4 : H[4]? = some (.cells [.int .i64 (pos (fieldsOf m.k) v 0 : Nat)] T.int) := by rw [← hH]; rfl
    have e5 : H[5]? = some (.cells [.bool true] T.bool) := by rw [← hH]; rfl
    have e6 : H.length = 6 := by rw [← hH]; rfl
    clear hH
    have hit := fun (H : AHeap) (n : Nat) => parts1_iter (H := H) (n := n) (v := v) fm
    by_cases hb0 : bc = 0
    · subst hb0
      obtain ⟨hv, hck⟩ := bcheck_zero hbc
      rw [show partFields m v = versionFields m.k v by rw [partFields, if_pos hbc]] at hit
      have hmem := vf_mem (m := m) (v := v) hck
      have hde := hde hck fm hv
      refine range_vars (g := F.body_Parts_1) (first := []) (captured := [cellN (encM m), cell (.int .i64 v)]) rfl (by intro n hn; cases hn) (item := partArgs m (versionFields m.k v)) (len := (versionFields m.k v).length) (fun j => rfl) [(4, T.int, fun j => .int .i64 (pos (fieldsOf m.k) v j : Nat)), (5, T.bool, fun _ => .bool true)] (fun _ => none) (vars_cons e4 (vars_cons e5 vars_nil)) ?_ (fun _ _ _ => hit _ _) ?_ (fun _ _ _ _ _ _ hh => by cases hh)
      · intro a' b' j H1 hj _ hl hk hrec hv
        have q0 := (hk 0 (by omega) (by simp)).trans e0
        have q1 := (hk 1 (by omega) (by simp)).trans e1
        have q2 := (hk 2 (by omega) (by simp)).trans e2
        have q3 := (hk 3 (by omega) (by simp)).trans e3
        have q4 := hv.get (c := 4) (T := T.int) (f := fun j => .int .i64 (pos (fieldsOf m.k) v j : Nat)) (by simp)
        have q5 := hv.get (c := 5) (T := T.bool) (f := fun _ => .bool true) (by simp)
        obtain ⟨i1, i2⟩ := pos_at (k := m.k) (v := v) hj
        have i3 := (pos_inv (k := m.k) (v := v) j (by omega)).1
        have i4 : pos (fieldsOf m.k) v (j + 1) = nx (fieldsOf m.k) v (pos (fieldsOf m.k) v j) + 1 := rfl
        obtain ⟨hm1, hm2⟩ := hmem _ (getD_mem hj)
        obtain ⟨hok, hfit⟩ := part_fits hm1 fm hm2
        rw [e6] at hrec hl ⊢
        refine run_V0 60 ?_
        generalize hx' : (versionFields m.k v).getD j fld0 = f at *
        simp (disch := first | omega | (simp only [lnx]; omega)) only [stdh, stdx, ↓reduceIte, seval, cuneiformlaw18_BodyEncodes.a4, cuneiformlaw18_BodyEncodes.b4, hrec, partArgs, hx', List.zip_cons_cons, List.zip_nil_left, List.reverse_cons, List.reverse_nil, List.getElem?_set_self, List.getElem?_set_ne]
        refine enc_b2 (v := v) hlen _ _ _ _ _ _ ?_ _ _ _ rfl i3 (by simp (disch := first | omega | (simp only [lnx]; omega)) only [List.getElem?_set_ne, List.getElem?_set_self, List.length_set, ne_eq, not_false_eq_true]; exact q1) (by simp (disch := first | omega | (simp only [lnx]; omega)) only [List.getElem?_set_ne, List.getElem?_set_self, List.length_set, ne_eq, not_false_eq_true]; exact q3) (by simp (disch := first | omega | (simp only [lnx]; omega)) only [List.getElem?_set_ne, List.getElem?_set_self, List.length_set, ne_eq, not_false_eq_true]; exact q4) rfl
        intro r r2 r3 r8 r9 r10 r11 r13 r14
        generalize hnx : nx (fieldsOf m.k) v (pos (fieldsOf m.k) v j) = i at *
        generalize hHb : List.set (List.set H1 6 _) 4 _ = Hb
        have cl : Hb.length = H1.length := by rw [← hHb]; simp
        have c0 : ∀ m, m ≠ 4 → m ≠ 6 → Hb[m]? = H1[m]? := fun m h1 h2 => by rw [← hHb, List.getElem?_set_ne (by omega), List.getElem?_set_ne (by omega)]
        have c4 : Hb[4]? = some (.cells [.int .i64 (i : Nat)] T.int) := by rw [← hHb, List.getElem?_set_self (by simp; omega)]
        obtain ⟨Lb, hLb⟩ : ∃ Lb, Lb = lrec { fn := F.cuneiformlaw18_BodyEncodes, nt := 169, res := [ARes.tmp 4], rd := none } [(2, AVal.ptr 0 0), (3, AVal.ptr 1 0), (4, AVal.bool false), (5, nums IntKind.u8 false x), (8, AVal.ptr 2 0), (9, AVal.ptr 3 0), (10, AVal.ptr 4 0), (11, AVal.ptr 5 0), (62, AVal.fn F.body_Parts_1 [] [cellN [AVal.int .i64 m.k, .int .i64 m.n0, .int .i64 m.n1, .int .i64 m.n2, .int .i64 m.n3, .int .i64 m.n4, .int .i64 m.n5, recs encP false m.p, ints false m.c, .str m.t, .str m.g], cell (AVal.int .i64 v)])] [63, 64] a' b' .busy none := ⟨_, rfl⟩
        have c6 : Hb[6]? = some (.loop Lb) := by rw [← hHb, List.getElem?_set_ne (by omega), List.getElem?_set_self (by omega), hLb]; rfl
        clear hHb
        have d0 : Hb[0]? = some (ABlk.cells [.int .i64 m.k, .int .i64 m.n0, .int .i64 m.n1, .int .i64 m.n2, .int .i64 m.n3, .int .i64 m.n4, .int .i64 m.n5, recs encP false m.p, ints false m.c, .str m.t, .str m.g] T.msg_Msg) := (c0 0 (by omega) (by omega)).trans q0
        have d2 := (c0 2 (by omega) (by omega)).trans q2
        have d3 := (c0 3 (by omega) (by omega)).trans q3
        have d5 := (c0 5 (by omega) (by omega)).trans q5
        have hld : ∀ H, loadA H (some 7) (.sptr (recs encF false (fieldsOf m.k)) (i * 7)) = some (True, .agg (encF f)) := fun H => by
          rw [← i2]; exact load_recs (enc := encF) (t := false) encF_len i1
        have hld0 : ∀ H, loadA H none (.sptr (recs encF false (fieldsOf m.k)) (i * 7 + 0)) = some (True, .str f.name) := fun H => by
          rw [← i2]; exact load_rec1 (enc := encF) (t := false) encF_len i1 (by omega)
        have hnm : decide (f.name = f.name) = true := decide_eq_true rfl
        refine run_V0 60 ?_
        simp (disch := first | omega | (simp only [lnx]; omega)) only [stdh, stdx, ↓reduceIte, seval, cuneiformlaw18_BodyEncodes.d3, r2, r3, r8, r9, r10, r11, r13, r14, d0, d2, d3, d5, c4, hld, hld0, hnm]
        refine callD_fn (of17_ok _ m sm _ ?_)
        refine ⟨by simp (disch := first | omega | (simp only [lnx]; omega)) only [stdh, stdx, ↓reduceIte, seval, encM, r2, r3, r8, r9, r10, r11, d0, d2, d3, d5, c4, hld, hld0], ?_⟩
        refine runD_V 60 ?_
        simp (disch := first | omega | (simp only [lnx]; omega)) only [stdh, stdx, ↓reduceIte, seval, encM, r2, r3, r8, r9, r10, r11, r13, r14, d0, d2, d3, d5, c4, hld, hld0, hnm]
        refine callD_fn (rpart_ok _ m f hok hfit _ ?_)
        refine ⟨by simp (disch := first | omega | (simp only [lnx]; omega)) only [stdh, stdx, ↓reduceIte, seval, encM, r2, r3, r8, r9, r10, r11, d0, d2, d3, d5, c4, hld], ?_⟩
        refine runD_V 60 ?_
        simp (disch := first | omega | (simp only [lnx]; omega)) only [stdh, stdx, ↓reduceIte, seval, encM, r2, r3, r8, r9, r10, r11, r13, r14, d0, d2, d3, d5, c4, hld, hld0, hnm]
        refine callD_fn (bsame_ok _ (nums_nats .u8 false _ _) (nums_nats .u8 false _ _) (by have := partB_len hok hfit; omega) _ ?_)
        rw [decide_eq_true rfl]
        refine ⟨by simp (disch := first | omega | (simp only [lnx]; omega)) only [stdh, stdx, ↓reduceIte, seval, encM, r2, r3, r8, r9, r10, r11, d0, d2, d3, d5, c4, hld], ?_⟩
        refine runD_V 60 ?_
        simp (disch := first | omega | (simp only [lnx]; omega)) only [stdh, stdx, ↓reduceIte, seval, encM, r2, r3, r8, r9, r10, r11, r13, r14, d0, d2, d3, d5, c4, hld, hld0, hnm, List.getElem?_set_self, List.getElem?_set_ne]
        refine round_fin (n := 6) (L := Lb) rfl (by simp (disch := first | omega | (simp only [lnx]; omega)) only [List.getElem?_set_ne, List.getElem?_set_self, List.length_set, ne_eq, not_false_eq_true]; exact c6) ?_
        refine varsQ_mk rfl (by simp only [List.length_set]; omega) (fun m m1 m2 m3 => ?_) (vars_cons ?_ (vars_cons ?_ vars_nil)) (by rw [List.getElem?_set_self (by simp only [List.length_set]; omega), hLb]; rfl)
        · simp only [List.map_cons, List.map_nil, List.mem_cons, List.not_mem_nil, or_false, not_or] at m3
          rw [List.getElem?_set_ne (by omega), List.getElem?_set_ne (by omega), List.getElem?_set_ne (by omega)]
          exact c0 m (by omega) m2
        · rw [List.getElem?_set_ne (by omega), List.getElem?_set_self (by simp only [List.length_set]; omega)]
          show _ = some (ABlk.cells [AVal.int .i64 ((pos (fieldsOf m.k) v (j + 1) : Nat) : Int)] T.int)
          rw [i4]; rfl
        · rw [List.getElem?_set_ne (by omega), List.getElem?_set_ne (by omega), List.getElem?_set_self (by omega)]
      · intro H' hl hk _ hv'
        have q0 := (hk 0 (by omega) (by simp)).trans e0
        have q1 := (hk 1 (by omega) (by simp)).trans e1
        have q2 := (hk 2 (by omega) (by simp)).trans e2
        have q3 := (hk 3 (by omega) (by simp)).trans e3
        have q4 := hv'.get (c := 4) (T := T.int) (f := fun j => .int .i64 (pos (fieldsOf m.k) v j : Nat)) (by simp)
        have q5 := hv'.get (c := 5) (T := T.bool) (f := fun _ => .bool true) (by simp)
        obtain ⟨i1, i2⟩ := pos_inv (k := m.k) (v := v) _ (Nat.le_refl _)
        rw [List.drop_eq_nil_of_le (Nat.le_refl _)] at i2
        refine run_V0 60 ?_
        simp (disch := first | omega | (simp only [lnx]; omega)) only [stdh, stdx, ↓reduceIte, seval, q2]
        refine enc_b6 (v := v) (m0 := m) hlen _ _ _ ?_ _ _ _ _ rfl rfl rfl rfl rfl rfl rfl i1 i2 q0 q1 q3 q4 q5
        clear q0 q1 q2 q3 q4 q5 hk hv'
        intro r H2 hl2 r2 r3 r5 r11 p0 p1 p5
        have p0' : H2[0]? = some (ABlk.cells [.int .i64 m.k, .int .i64 m.n0, .int .i64 m.n1, .int .i64 m.n2, .int .i64 m.n3, .int .i64 m.n4, .int .i64 m.n5, recs encP false m.p, ints false m.c, .str m.t, .str m.g] T.msg_Msg) := p0
        refine run_V0 60 ?_
        simp (disch := first | omega | (simp only [lnx]; omega)) only [stdh, stdx, ↓reduceIte, seval, r2, r3, r5, r11, p0', p1, p5]
        refine callK_fn (decode_ok _ b1 (by omega) _ ?_)
        rw [hde]
        have sp := projectM_small sm v
        generalize hP : projectM m v = P at *
        refine runL_V 60 ?_
        simp (disch := first | omega | (simp only [lnx]; omega)) only [stdh, stdx, ↓reduceIte, seval, r2, r3, r5, r11, p0', p1, p5, encM, at_low, at_0, cuneiformlaw18_BodyEncodes.d7]
        refine callD_fn (known18_ok _ _ ?_)
        refine ⟨by simp (disch := first | omega | (simp only [lnx]; omega)) only [stdh, stdx, ↓reduceIte, seval, r2, r3, r5, r11, p0', p1, p5, at_low], ?_⟩
        refine runD_V 60 ?_
        simp (disch := first | omega | (simp only [lnx]; omega)) only [stdh, stdx, ↓reduceIte, seval, r2, r3, r5, r11, p0', p1, p5, encM, at_low, at_0]
        refine callD_fn (of17_ok _ P sp _ ?_)
        refine ⟨by simp (disch := first | omega | (simp only [lnx]; omega)) only [stdh, stdx, ↓reduceIte, seval, r2, r3, r5, r11, p0', p1, p5, encM, at_low, at_0], ?_⟩
        refine runD_V 60 ?_
        simp (disch := first | omega | (simp only [lnx]; omega)) only [stdh, stdx, ↓reduceIte, seval, r2, r3, r5, r11, p0', p1, p5, encM, at_low, at_0]
        refine callD_fn (of17_ok _ m sm _ ?_)
        refine ⟨by simp (disch := first | omega | (simp only [lnx]; omega)) only [stdh, stdx, ↓reduceIte, seval, r2, r3, r5, r11, p0', p1, p5, encM, at_low, at_0], ?_⟩
        refine runD_V 60 ?_
        simp (disch := first | omega | (simp only [lnx]; omega)) only [stdh, stdx, ↓reduceIte, seval, r2, r3, r5, r11, p0', p1, p5, encM, at_low, at_0]
        refine callD_fn (rproject_ok _ m v _ ?_)
        rw [hP]
        refine ⟨by simp (disch := first | omega | (simp only [lnx]; omega)) only [stdh, stdx, ↓reduceIte, seval, r2, r3, r5, r11, p0', p1, p5, encM, at_low, at_0], ?_⟩
        refine runD_V 60 ?_
        simp (disch := first | omega | (simp only [lnx]; omega)) only [stdh, stdx, ↓reduceIte, seval, r2, r3, r5, r11, p0', p1, p5, encM, at_low, at_0]
        refine callD_fn (rsame_ok _ P P sp.fit2 _ ?_)
        rw [decide_eq_true (rfl : P = P)]
        refine ⟨by simp (disch := first | omega | (simp only [lnx]; omega)) only [stdh, stdx, ↓reduceIte, seval, r2, r3, r5, r11, p0', p1, p5, encM, at_low, at_0], ?_⟩
        refine runD_V 60 ?_
        simp (disch := first | omega | (simp only [lnx]; omega)) only [stdh, stdx, ↓reduceIte, seval, r2, r3, r5, r11, p0', p1, p5, encM, at_low, at_0]
    · have hbd : decide (bc = 0) = false := decide_eq_false hb0
      have hx0 := hpe hb0
      subst hx0
      rw [show partFields m v = [] by rw [partFields, if_neg (by omega)]] at hit
      refine range_vars (g := F.body_Parts_1) (first := []) (captured := [cellN (encM m), cell (.int .i64 v)]) rfl (by intro n hn; cases hn) (item := partArgs m []) (len := 0) (fun j => rfl) [] (fun _ => none) vars_nil (fun _ _ _ _ hj => absurd hj (by omega)) (fun _ _ _ => hit _ _) ?_ (fun _ _ _ _ _ _ hh => by cases hh)
      intro H' hl hk _ _
      have q2 := (hk 2 (by omega) (by simp)).trans e2
      have q4 := (hk 4 (by omega) (by simp)).trans e4
      have q5 := (hk 5 (by omega) (by simp)).trans e5
      refine run_V0 60 ?_
      simp (disch := first | omega | (simp only [lnx]; omega)) only [stdh, stdx, ↓reduceIte, seval, q2, hbd]
      refine callK_fn (known18_ok _ _ ?_)
      refine runL_V 60 ?_
      simp (disch := first | omega | (simp only [lnx]; omega)) only [stdh, stdx, ↓reduceIte, seval, q4, q5, pos]
end Go.Proofs.Ytdamfbjoiddfhaa

namespace Go.Proofs.Ytdamfbjoiddfhaa.bodyEncodes
open Go Go.Am Go.ChangeShapes Go.WideShapes Go.ChangeAt Go.RowKit
set_option linter.unusedVariables false

theorem own : ownKnob Try.prog.godebug = none := by kernel_rfl
theorem laidOut : laidOutB Try.prog = true := by kernel_rfl

set_option maxRecDepth 100000 in
theorem lifted (os : Os) (started : os.Started) (H : Type) (enc : TypeId × Value → H) :
    ReturnsInHanded {} Try.checked os F.cuneiformlaw18_BodyEncodes .any (Rows.bodyEncodesSpec.pre6 enc Try.prog Try.f6 Rows.bodyEncodesRow.domain false) (Rows.bodyEncodesSpec.post enc Try.prog Try.f6 false true false false) := by
  refine returnsInHanded_of_change (C := Try.checked) own started (by kernel_rfl) Try.func6
    (ChangeSpec.witness6 (enc := enc) (C := Try.checked) false ⟨#[], #[.agg #[.int .i64 0, .int .i64 0, .int .i64 0, .int .i64 0, .int .i64 0, .int .i64 0, .int .i64 0, .slice none 0 0, .slice none 0 0, .string ⟨#[]⟩, .string ⟨#[]⟩], .int .i64 1], []⟩ 8 (by kernel_rfl) (by kernel_rfl) (by kernel_rfl) (by kernel_rfl)) ?_
  intro W base args ds gs before hval hW hcnd _
  refine law_calls (shs := [shMsg, .int .i64]) (tb := 4) laidOut (by kernel_rfl) ?_ (by kernel_rfl) Try.underlying4 rfl ?_ ?_ hval hW
  · intro t ht
    have : ∀ t ∈ Try.f6.params.toList, (Try.prog.readableRec t && decide (t < Try.prog.types.size)) = true := List.all_eq_true.1 (by kernel_rfl)
    simpa using this t ht
  · intro H ds hd
    match ds, hd with
    | [d0, d1], _ => exact ⟨rfl, rfl, rfl⟩
  · rintro xs ⟨a, r, rfl, ha, b, r2, rfl, ⟨v, hv, _⟩, rfl⟩
    cases hv
    obtain ⟨x, x1, x2, _⟩ := msg_fits2 ha
    exact fun_sees (.cons x1 (.cons (.refl _) .nil)) (bodyencodes_ok ⟨x2.p, x2.c, x2.t, x2.g⟩ v)

theorem proved : Rows.BodyEncodesSaid :=
  OpenClaim.holds_of_wide F.cuneiformlaw18_BodyEncodes Try.f6 rfl rfl rfl rfl rfl rfl rfl ⟨rfl, rfl, rfl, rfl, rfl⟩ rfl rfl rfl rfl rfl (by kernel_rfl) Try.func6 (by kernel_rfl)
    (of_decide_eq_true (by kernel_rfl)) (by unfold Func.isWrapper; first | (rw [if_pos (by decide +kernel)]; kernel_rfl) | (rw [if_neg (by decide +kernel)]; exact ⟨rfl, rfl⟩))
    (fun os started H enc _ => lifted os started H enc)
end Go.Proofs.Ytdamfbjoiddfhaa.bodyEncodes
