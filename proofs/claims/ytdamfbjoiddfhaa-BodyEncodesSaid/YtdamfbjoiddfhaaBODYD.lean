/-
  Lemmas on the way to the statements of this seat. By an AI agent. No person has read it.
-/
import Derived.Test.YtdamfbjoiddfhaaBODYC
import Derived.Test.YtdamfbjoiddfhaaBODYB
import Derived.Test.YtdamfbjoiddfhaaBODYA

namespace Go.Proofs.Ytdamfbjoiddfhaa
open Go Go.Am
set_option linter.unusedSimpArgs false
set_option linter.unusedVariables false
def mk18 : Mg := ⟨2, 300, 2, 9, 0, 0, 0, [], [], ⟨#[]⟩, ⟨#[]⟩⟩
theorem mk18_check : checkM mk18 = 0 := by
  rw [checkM_zero]
  refine ⟨by decide +kernel, by decide +kernel, by decide +kernel⟩
theorem put300 : putOne 300 = [172, 2] := by rw [putOne_ge (by omega), putOne_lt (by omega)]
theorem mk18_1 : encB mk18 1 = [172, 2, 2] := by
  rw [encB_eq mk18_check (.inl rfl)]
  simp [bodyB, versionFields, fieldsOf, mk18, fRobot, partB, putAll, Mg.num, put300, putOne_lt]
theorem mk18_2 : encB mk18 2 = [172, 2, 2, 9] := by
  rw [encB_eq mk18_check (.inr rfl)]
  simp [bodyB, versionFields, fieldsOf, mk18, fRobot, partB, putAll, Mg.num, put300, putOne_lt]
set_option maxRecDepth 10000 in
theorem known18_ok (H : AHeap) (Q : AVal → AHeap → Prop) (h : Q (.bool true) H) : FunOK Try.prog F.cuneiformlaw18_known [] H Q := by
  refine fun_iced cuneiformlaw18_known_code fun _ => ?_
  refine fun_V 60 cuneiformlaw18_known_code rfl ?_
  have hf : mk18.fine := ⟨by decide, by decide, by decide, by decide⟩
  have hs : SeesL [AVal.agg [.int .i64 2, .int .i64 300, .int .i64 2, .int .i64 9, .int .i64 0, .int .i64 0, .int .i64 0, .nils, .nils, .str ⟨#[]⟩, .str ⟨#[]⟩], .int .i64 1] [.agg (encM mk18), .int .i64 1] :=
    .cons (.agg (.cons (.refl _) (.cons (.refl _) (.cons (.refl _) (.cons (.refl _) (.cons (.refl _) (.cons (.refl _) (.cons (.refl _) (.cons (.nils _) (.cons (.nils _) (.refl _))))))))))) (.refl _)
  have hs2 : SeesL [AVal.agg [.int .i64 2, .int .i64 300, .int .i64 2, .int .i64 9, .int .i64 0, .int .i64 0, .int .i64 0, .nils, .nils, .str ⟨#[]⟩, .str ⟨#[]⟩], .int .i64 2] [.agg (encM mk18), .int .i64 2] :=
    .cons (.agg (.cons (.refl _) (.cons (.refl _) (.cons (.refl _) (.cons (.refl _) (.cons (.refl _) (.cons (.refl _) (.cons (.refl _) (.cons (.nils _) (.cons (.nils _) (.refl _))))))))))) (.refl _)
  simp (disch := first | omega | (simp only [lnx]; omega)) only [stdh, stdx, ↓reduceIte, seval, cuneiformlaw18_known, cuneiformlaw18_known.body]
  refine callK_fn (fun_sees hs (encode_ok _ mk18 1 hf _ ?_))
  refine runL_V 60 ?_
  rw [mk18_1, show bcheckE mk18 1 = 0 by rw [bcheckE, if_neg (by omega)]; exact mk18_check]
  simp (disch := first | omega | (simp only [lnx]; omega)) only [stdh, stdx, ↓reduceIte, seval]
  refine callK_fn (fun_sees hs2 (encode_ok _ mk18 2 hf _ ?_))
  refine runL_V 60 ?_
  rw [mk18_2, show bcheckE mk18 2 = 0 by rw [bcheckE, if_neg (by omega)]; exact mk18_check]
  simp (disch := first | omega | (simp only [lnx]; omega)) only [stdh, stdx, ↓reduceIte, seval]
  have n1 : ∀ (H : AHeap) (n : Nat) (xs : List Nat) (el : TypeId), H[n]? = some (ABlk.vec (xs.map fun n : Nat => AVal.int .u8 (n : Int)) el 1) → Nats .u8 H (.slc n 0 xs.length 1) xs := fun H n xs el hn => ⟨rfl, by simp [view, hn, content, List.take_of_length_le], fun _ _ _ _ h => by cases h; rfl⟩
  refine callK_fn (bsame_ok _ (nums_nats .u8 false _ _) (n1 _ _ [172, 2, 2] T.uint8 at_k) (by decide) _ ?_)
  rw [decide_eq_true rfl]
  refine runL_V 60 ?_
  simp (disch := first | omega | (simp only [lnx]; omega)) only [stdh, stdx, ↓reduceIte, seval]
  refine callK_fn (bsame_ok _ (nums_nats .u8 false _ _) (n1 _ _ [172, 2, 2, 9] T.uint8 at_k) (by decide) _ ?_)
  rw [decide_eq_true rfl]
  refine runL_V 60 ?_
  simp (disch := first | omega | (simp only [lnx]; omega)) only [stdh, stdx, ↓reduceIte, seval]
  exact ice_none trivial h
theorem bodyB_filter (m : Mg) (p : Fld → Bool) : ∀ L : List Fld, (bodyB m (L.filter p)).length ≤ (bodyB m L).length
  | [] => by simp [bodyB]
  | f :: L => by
    have := bodyB_filter m p L
    rw [List.filter_cons]
    unfold bodyB at *
    split <;> simp only [List.flatMap_cons, List.length_append] <;> omega
theorem pathB_byte : ∀ (l : List (Int × Int)) (last : Int × Int), ∀ b ∈ pathB last l, b < 256
  | [], _ => by simp [pathB]
  | x :: l, last => fun b hb => by
    rw [pathB] at hb
    rcases List.mem_append.1 hb with h | h
    · exact putAll_byte _ b h
    · exact pathB_byte l x b h
theorem cellsB_byte : ∀ (l : List Int) (last : Int), ∀ b ∈ cellsB last l, b < 256
  | [], _ => by simp [cellsB]
  | x :: l, last => fun b hb => by
    rw [cellsB] at hb
    rcases List.mem_append.1 hb with h | h
    · exact putAll_byte _ b h
    · exact cellsB_byte l x b h
theorem partB_byte (m : Mg) (f : Fld) : ∀ b ∈ partB m f, b < 256 := fun b hb => by
  unfold partB at hb
  have two : ∀ X Y : List Nat, (∀ b ∈ X, b < 256) → (∀ b ∈ Y, b < 256) → b ∈ X ++ Y → b < 256 := fun X Y h1 h2 h => by
    rcases List.mem_append.1 h with h | h
    · exact h1 b h
    · exact h2 b h
  split at hb
  · exact putAll_byte _ b hb
  split at hb
  · exact putAll_byte _ b hb
  split at hb
  · exact two _ _ (putAll_byte _) (pathB_byte _ _) hb
  split at hb
  · exact two _ _ (putAll_byte _) (cellsB_byte _ _) hb
  split at hb
  · exact two _ _ (putAll_byte _) (bytesOf_lt _) hb
  · exact two _ _ (putAll_byte _) (bytesOf_lt _) hb
theorem encB_byte (m : Mg) (v : Int) : ∀ b ∈ encB m v, b < 256 := fun b hb => by
  obtain ⟨f, _, hf⟩ := List.mem_flatMap.1 hb
  exact partB_byte m f b hf
end Go.Proofs.Ytdamfbjoiddfhaa

namespace Go.Proofs.Ytdamfbjoiddfhaa
open Go Go.Am
set_option linter.unusedSimpArgs false
set_option linter.unusedVariables false
def nx (l : List Fld) (v : Int) (i : Nat) : Nat := i + ((l.drop i).takeWhile fun f => decide (v < f.since)).length
def pos (l : List Fld) (v : Int) : Nat → Nat
  | 0 => 0
  | j + 1 => nx l v (pos l v j) + 1
theorem drop_get {l : List Fld} {i : Nat} (h : i < l.length) : l.drop i = l.getD i fld0 :: l.drop (i + 1) := by
  rw [List.drop_eq_getElem_cons h]; simp [h]
theorem nx_bad {l : List Fld} {v : Int} {i : Nat} (h : i < l.length) (hb : v < (l.getD i fld0).since) : nx l v i = nx l v (i + 1) := by
  unfold nx
  rw [drop_get h, List.takeWhile_cons, if_pos (by simpa using hb), List.length_cons]; omega
theorem nx_good {l : List Fld} {v : Int} {i : Nat} (h : i < l.length) (hb : ¬ v < (l.getD i fld0).since) : nx l v i = i := by
  unfold nx
  rw [drop_get h, List.takeWhile_cons, if_neg (by simpa using hb)]; rfl
theorem nx_end {l : List Fld} {v : Int} {i : Nat} (h : ¬ i < l.length) : nx l v i = i := by
  unfold nx
  rw [List.drop_eq_nil_of_le (by omega)]; rfl
theorem nx_spec {l : List Fld} {v : Int} : ∀ (m i : Nat), l.length - i = m → i ≤ l.length → nx l v i ≤ l.length ∧ (l.drop i).filter (fun f => decide (f.since ≤ v)) = (l.drop (nx l v i)).filter (fun f => decide (f.since ≤ v)) ∧ (nx l v i < l.length → (l.getD (nx l v i) fld0).since ≤ v)
  | m, i, h, hi => by
    by_cases h1 : i < l.length
    · by_cases h2 : v < (l.getD i fld0).since
      · obtain ⟨q1, q2, q3⟩ := nx_spec (l := l) (v := v) (m - 1) (i + 1) (by omega) (by omega)
        rw [nx_bad h1 h2]
        refine ⟨q1, ?_, q3⟩
        rw [drop_get h1, List.filter_cons, if_neg (by rw [decide_eq_true_eq]; omega), q2]
      · rw [nx_good h1 h2]; exact ⟨hi, rfl, fun _ => by omega⟩
    · rw [nx_end h1]; exact ⟨hi, rfl, fun h => absurd h h1⟩
  termination_by m => m
  decreasing_by omega
theorem pos_inv {k v : Int} : ∀ (j : Nat), j ≤ (versionFields k v).length → pos (fieldsOf k) v j ≤ (fieldsOf k).length ∧ ((fieldsOf k).drop (pos (fieldsOf k) v j)).filter (fun f => decide (f.since ≤ v)) = (versionFields k v).drop j
  | 0, _ => ⟨Nat.zero_le _, rfl⟩
  | j + 1, h => by
    obtain ⟨h1, h2⟩ := pos_inv (k := k) (v := v) j (by omega)
    obtain ⟨q1, q2, q3⟩ := nx_spec (l := fieldsOf k) (v := v) _ (pos (fieldsOf k) v j) rfl h1
    have hd : (versionFields k v).drop j = (versionFields k v).getD j fld0 :: (versionFields k v).drop (j + 1) := drop_get (by omega)
    rw [h2, hd] at q2
    have hlt : nx (fieldsOf k) v (pos (fieldsOf k) v j) < (fieldsOf k).length := by
      refine Classical.byContradiction fun hn => ?_
      rw [List.drop_eq_nil_of_le (Nat.le_of_not_lt hn)] at q2
      cases q2
    rw [drop_get hlt, List.filter_cons, if_pos (by simpa using q3 hlt)] at q2
    exact ⟨hlt, (List.cons.inj q2).2.symm⟩
theorem pos_at {k v : Int} {j : Nat} (h : j < (versionFields k v).length) : nx (fieldsOf k) v (pos (fieldsOf k) v j) < (fieldsOf k).length ∧ (fieldsOf k).getD (nx (fieldsOf k) v (pos (fieldsOf k) v j)) fld0 = (versionFields k v).getD j fld0 := by
  obtain ⟨h1, h2⟩ := pos_inv (k := k) (v := v) j (by omega)
  obtain ⟨q1, q2, q3⟩ := nx_spec (l := fieldsOf k) (v := v) _ (pos (fieldsOf k) v j) rfl h1
  have hd : (versionFields k v).drop j = (versionFields k v).getD j fld0 :: (versionFields k v).drop (j + 1) := drop_get h
  rw [h2, hd] at q2
  have hlt : nx (fieldsOf k) v (pos (fieldsOf k) v j) < (fieldsOf k).length := by
    refine Classical.byContradiction fun hn => ?_
    rw [List.drop_eq_nil_of_le (Nat.le_of_not_lt hn)] at q2
    cases q2
  rw [drop_get hlt, List.filter_cons, if_pos (by simpa using q3 hlt)] at q2
  exact ⟨hlt, (List.cons.inj q2).1.symm⟩
theorem set_same {α : Type} {l : List α} {i : Nat} {x : α} (h : l[i]? = some x) : l.set i x = l := by
  apply List.ext_getElem?
  intro j
  by_cases hj : i = j
  · subst hj
    rw [List.getElem?_set_self (List.getElem?_eq_some_iff.1 h).1, h]
  · rw [List.getElem?_set_ne hj]
def Fld.cap (f : Fld) : Nat := if f.sort = 1 ∨ f.sort = 2 then 3 else if f.sort = 3 then 129 else if f.sort = 4 then 97 else if f.sort = 5 then 65 else 17
theorem partB_cap {m : Mg} {f : Fld} (hf : f ∈ fieldsOf m.k) (hm : m.fine) (hw : rwrongE m f = 0) : (partB m f).length ≤ f.cap := by
  have h3 := fieldsOf_ok3 f hf
  have hst := fieldsOf_std f hf
  obtain ⟨q1, q2, q3, q4, q5, q6⟩ := fits_of hf hm hw
  have hwe := wrong_eq (m := m) hst
  rw [hw] at hwe
  obtain ⟨s3, s4, s5, s6⟩ := hst
  obtain ⟨o1, o2, o3, o4⟩ := fieldsOf_ok6 f hf
  have three : ∀ n, n < 2097152 → (putAll [n]).length ≤ 3 := fun n hn => by
    rw [putAll_one, putOne_length]; exact sizeOf_le 2 n (by omega)
  have one : ∀ n, n < 128 → (putAll [n]).length = 1 := fun n hn => by
    rw [putAll_one, putOne_length, sizeOf_lt hn]
  have hmany : ∀ n, manyE n f = 0 → f.least ≤ n ∧ (n : Int) ≤ f.most := fun n hn => by
    unfold manyE at hn
    split at hn
    · omega
    split at hn <;> omega
  unfold wrongE at hwe
  unfold partB Fld.cap
  by_cases z1 : f.sort = 1
  · rw [if_pos z1, if_pos (.inl z1)]
    rw [if_neg (by omega), if_neg (by omega), if_neg (by omega), if_neg (by omega)] at hwe
    have hr : ¬ (m.num f.place < f.least ∨ f.most < m.num f.place) := fun hh => by rw [if_pos hh] at hwe; omega
    exact three _ (by omega)
  rw [if_neg z1]
  by_cases z2 : f.sort = 2
  · rw [if_pos z2, if_pos (.inr z2)]
    rw [if_neg (by omega), if_neg (by omega), if_neg (by omega), if_neg (by omega)] at hwe
    have hr : ¬ (m.num f.place < f.least ∨ f.most < m.num f.place) := fun hh => by rw [if_pos hh] at hwe; omega
    exact three _ (by unfold zig; split <;> omega)
  rw [if_neg z2, if_neg (show ¬ (f.sort = 1 ∨ f.sort = 2) by omega)]
  by_cases z3 : f.sort = 3
  · rw [if_pos z3, if_pos z3]
    have := pathB_len m.p (0, 0) rfl (q3 z3).2
    have h16 := (q3 z3).1
    rw [List.length_append, one _ (by omega)]
    omega
  rw [if_neg z3, if_neg z3]
  by_cases z4 : f.sort = 4
  · rw [if_pos z4, if_pos z4]
    have := cellsB_len (q4 z4).2 m.c.length (Nat.le_refl _)
    rw [List.take_length] at this
    have h32 := (q4 z4).1
    rw [List.length_append, one _ (by omega)]
    omega
  rw [if_neg z4, if_neg z4]
  rw [if_neg z3, if_neg z4] at hwe
  have htx : ∀ t : ByteArray, textE t f = 0 → f.least ≤ t.size ∧ (t.size : Int) ≤ f.most := fun t ht => by
    unfold textE at ht
    exact hmany _ (Classical.byContradiction fun hh => by rw [if_pos hh] at ht; exact hh ht)
  by_cases z5 : f.sort = 5
  · rw [if_pos z5] at hwe
    rw [if_pos z5, if_pos z5]
    have h1 := htx _ hwe
    have h2 := s5 z5
    have hl : (bytesOf m.t).length = m.t.size := bytesOf_len _
    rw [List.length_append, one _ (by omega)]
    omega
  · have z6 : f.sort = 6 := by rcases h3 with ⟨_, z⟩ | ⟨z, _⟩ <;> omega
    rw [if_neg z5, if_pos z6] at hwe
    rw [if_neg z5, if_neg z5]
    have h1 := htx _ hwe
    have h2 := s6 z6
    have hl : (bytesOf m.g).length = m.g.size := bytesOf_len _
    rw [List.length_append, one _ (by omega)]
    omega
theorem bodyB_cap {m : Mg} (hm : m.fine) : ∀ L : List Fld, (∀ f ∈ L, f ∈ fieldsOf m.k ∧ rwrongE m f = 0) → (bodyB m L).length ≤ (L.map Fld.cap).sum
  | [], _ => by simp [bodyB]
  | f :: L, h => by
    have h1 := bodyB_cap hm L fun x hx => h x (List.mem_cons_of_mem _ hx)
    obtain ⟨a, b⟩ := h f (List.mem_cons_self ..)
    have h2 := partB_cap a hm b
    unfold bodyB at *
    rw [List.flatMap_cons, List.length_append, List.map_cons, List.sum_cons]
    omega
theorem caps (k : Int) : ((fieldsOf k).map Fld.cap).sum ≤ 192 := by
  by_cases h1 : k = 1
  · subst h1; decide +kernel
  by_cases h2 : k = 2
  · subst h2; decide +kernel
  by_cases h3 : k = 3
  · subst h3; decide +kernel
  by_cases h4 : k = 4
  · subst h4; decide +kernel
  by_cases h5 : k = 5
  · subst h5; decide +kernel
  simp [fieldsOf, h1, h2, h3, h4, h5]
theorem encB_192 {m : Mg} (hm : m.fine) (v : Int) : (encB m v).length ≤ 192 := by
  by_cases h : bcheckE m v = 0
  · have hb := bcheck_zero h
    rw [encB_eq hb.2 hb.1]
    have h1 := bodyB_filter m (fun f => decide (f.since ≤ v)) (fieldsOf m.k)
    have h2 := bodyB_cap hm (fieldsOf m.k) fun f hf => ⟨hf, ((checkM_zero m).1 hb.2).2.1 f hf⟩
    have := caps m.k
    unfold versionFields
    omega
  · rw [encB, partFields, if_neg h]; simp [bodyB]
end Go.Proofs.Ytdamfbjoiddfhaa

namespace Go.Proofs.Ytdamfbjoiddfhaa
open Go Go.Am
set_option linter.unusedSimpArgs false
set_option linter.unusedVariables false
abbrev encC : Ctx := ⟨F.cuneiformlaw18_BodyEncodes, 169, [.tmp 4], none⟩
abbrev encR (n : Nat) : Ctx := ⟨F.cuneiformlaw18_BodyEncodes, 169, [], some n⟩
theorem enc_b2 {l : List Fld} (hlen : l.length ≤ 6) {v : Int} (n : Nat) (K : List AItem) (Q : AVal → AHeap → Prop) (w x : AVal) (H : AHeap)
    (hQ : ∀ r, rget r 2 = .ptr 0 0 → rget r 3 = .ptr 1 0 → rget r 8 = .ptr 2 0 → rget r 9 = .ptr 3 0 → rget r 10 = .ptr 4 0 → rget r 11 = .ptr 5 0 → rget r 13 = w → rget r 14 = x → Run Try.prog (encR n) K r H Q) :
    ∀ (m i : Nat) (H1 : AHeap), l.length - i = m → i ≤ l.length → H1[1]? = some (.cells [.int .i64 v] T.int) → H1[3]? = some (.cells [recs encF false l] T.sl_cuneiformref16_F) → H1[4]? = some (.cells [.int .i64 (i : Nat)] T.int) →
    H1.set 4 (.cells [.int .i64 (nx l v i : Nat)] T.int) = H →
    Rounds Try.prog (encR n) cuneiformlaw18_BodyEncodes.b2 [.inBlock 2] K [(2, .ptr 0 0), (3, .ptr 1 0), (8, .ptr 2 0), (9, .ptr 3 0), (10, .ptr 4 0), (11, .ptr 5 0), (13, w), (14, x)] H1 Q
  | m, i, H1, g1, g2, e0, e1, e2, e3 => by
    have hl2 : 4 < H1.length := (List.getElem?_eq_some_iff.1 e2).1
    refine loop_V 100 cuneiformlaw18_BodyEncodes.b2.eq_1 ?_
    by_cases hil : i < l.length
    · have hld : loadA H1 none (.sptr (recs encF false l) (i * 7 + 5)) = some (True, .int .i64 (l.getD i fld0).since) := load_rec1 (enc := encF) (t := false) encF_len hil (by omega)
      by_cases hs : v < (l.getD i fld0).since
      · simp (disch := first | omega | (simp only [lnx]; omega)) only [stdh, stdx, ↓reduceIte, seval, cuneiformlaw18_BodyEncodes.d1, e0, e1, e2, hld, hs]
        rw [nx_bad hil hs] at e3
        refine enc_b2 (v := v) hlen n K Q w x H hQ _ (i + 1) _ rfl (by omega) ?_ ?_ ?_ ?_
        · rw [List.getElem?_set_ne (by omega)]; exact e0
        · rw [List.getElem?_set_ne (by omega)]; exact e1
        · rw [List.getElem?_set_self hl2]; rfl
        · rw [List.set_set]; exact e3
      · simp (disch := first | omega | (simp only [lnx]; omega)) only [stdh, stdx, ↓reduceIte, seval, cuneiformlaw18_BodyEncodes.d1, e0, e1, e2, hld, hs]
        rw [nx_good hil hs, set_same e2] at e3
        subst e3
        exact hQ _ rfl rfl rfl rfl rfl rfl rfl rfl
    · simp (disch := first | omega | (simp only [lnx]; omega)) only [stdh, stdx, ↓reduceIte, seval, cuneiformlaw18_BodyEncodes.d1, e0, e1, e2]
      rw [nx_end hil, set_same e2] at e3
      subst e3
      exact hQ _ rfl rfl rfl rfl rfl rfl rfl rfl
  termination_by m => m
theorem enc_b6 {l : List Fld} (hlen : l.length ≤ 6) {v : Int} {m0 : Mg} (K : List AItem) (Q : AVal → AHeap → Prop) (x : AVal)
    (hQ : ∀ r H, 6 ≤ H.length → rget r 2 = .ptr 0 0 → rget r 3 = .ptr 1 0 → rget r 5 = x → rget r 11 = .ptr 5 0 → H[0]? = some (.cells (encM m0) T.msg_Msg) → H[1]? = some (.cells [.int .i64 v] T.int) → H[5]? = some (.cells [.bool true] T.bool) → Run Try.prog encC K r H Q) :
    ∀ (m i : Nat) (H1 : AHeap) (r0 : Regs), rget r0 2 = .ptr 0 0 → rget r0 3 = .ptr 1 0 → rget r0 5 = x → rget r0 9 = .ptr 3 0 → rget r0 10 = .ptr 4 0 → rget r0 11 = .ptr 5 0 → l.length - i = m → i ≤ l.length → (l.drop i).filter (fun f => decide (f.since ≤ v)) = [] → H1[0]? = some (.cells (encM m0) T.msg_Msg) → H1[1]? = some (.cells [.int .i64 v] T.int) → H1[3]? = some (.cells [recs encF false l] T.sl_cuneiformref16_F) → H1[4]? = some (.cells [.int .i64 (i : Nat)] T.int) → H1[5]? = some (.cells [.bool true] T.bool) →
    Rounds Try.prog encC cuneiformlaw18_BodyEncodes.b6 [.inBlock 4] K r0 H1 Q
  | m, i, H1, r0, f2, f3, f5, f9, f10, f11, g1, g2, gf, em, e0, e1, e2, e3 => by
    have hl2 : 5 < H1.length := (List.getElem?_eq_some_iff.1 e3).1
    refine loop_V 100 cuneiformlaw18_BodyEncodes.b6.eq_1 ?_
    by_cases hil : i < l.length
    · have hld : loadA H1 none (.sptr (recs encF false l) (i * 7 + 5)) = some (True, .int .i64 (l.getD i fld0).since) := load_rec1 (enc := encF) (t := false) encF_len hil (by omega)
      rw [drop_get hil, List.filter_cons] at gf
      by_cases hs : v < (l.getD i fld0).since
      · rw [if_neg (by rw [decide_eq_true_eq]; omega)] at gf
        have e2' : (H1.set 5 (ABlk.cells [AVal.bool true] T.bool))[4]? = some (.cells [.int .i64 (i : Nat)] T.int) := by rw [List.getElem?_set_ne (by omega)]; exact e2
        simp (disch := first | omega | (simp only [lnx]; omega)) only [stdh, stdx, ↓reduceIte, seval, f2, f3, f5, f9, f10, f11, cuneiformlaw18_BodyEncodes.d5, e0, e1, e2, e3, e2', hld, hs]
        refine enc_b6 (v := v) hlen K Q x hQ _ (i + 1) _ _ rfl rfl rfl rfl rfl rfl rfl (by omega) gf ?_ ?_ ?_ ?_ ?_
        · rw [List.getElem?_set_ne (by omega), List.getElem?_set_ne (by omega)]; exact em
        · rw [List.getElem?_set_ne (by omega), List.getElem?_set_ne (by omega)]; exact e0
        · rw [List.getElem?_set_ne (by omega), List.getElem?_set_ne (by omega)]; exact e1
        · rw [List.getElem?_set_self (by rw [List.length_set]; omega)]; rfl
        · rw [List.getElem?_set_ne (by omega), List.getElem?_set_self (by omega)]
      · rw [if_pos (by rw [decide_eq_true_eq]; omega)] at gf
        cases gf
    · simp (disch := first | omega | (simp only [lnx]; omega)) only [stdh, stdx, ↓reduceIte, seval, f2, f3, f5, f9, f10, f11, e1, e2]
      exact hQ _ _ (by omega) rfl rfl rfl rfl em e0 e3
  termination_by m => m
theorem part_fits {m : Mg} {f : Fld} (hf : f ∈ fieldsOf m.k) (hm : m.fine) (h : rwrongE m f = 0) : f.ok3 ∧ Fits192 m f := ⟨fieldsOf_ok3 f hf, fits_of hf hm h⟩
end Go.Proofs.Ytdamfbjoiddfhaa
