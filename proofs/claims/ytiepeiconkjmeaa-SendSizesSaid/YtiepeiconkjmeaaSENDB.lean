/-
  Lemmas on the way to the statements of this seat. By an AI agent. No person has read it.
-/
import Derived.Test.YtiepeiconkjmeaaSENDA
import Derived.Test.YtiepeiconkjmeaaAm6
set_option linter.unusedSimpArgs false
set_option linter.unusedVariables false

namespace Go.Proofs.Ytiepeiconkjmeaa
open Go Go.Am
structure IntsV (H : AHeap) (a : AVal) (zs : List Int) : Prop where
 len : slen a = some zs.length
 view : Am.view H a = some (zs.map fun n : Int => AVal.int .i64 n)
theorem IntsV.keep {H H' : AHeap} {a : AVal} {zs : List Int} (h : IntsV H a zs) (hk : Keeps H H') : IntsV H' a zs := ⟨h.len, hk.view h.view⟩
theorem IntsV.load {H : AHeap} {a : AVal} {zs : List Int} (h : IntsV H a zs) {j : Nat} (hj : j < zs.length) : loadA H none (.sptr a j) = some (True, .int .i64 (zs.getD j 0)) := by
 simp only [loadA, cellsAt, h.view, Option.map_some]
 congr 2
 ·simp; omega
 ·rw [List.headD_eq_head?_getD, List.head?_drop]
  simp [hj]
theorem IntsV.isSome {H : AHeap} {a : AVal} {zs : List Int} (h : IntsV H a zs) : (Am.view H a).isSome = true := by rw [h.view]; rfl
theorem signedV_loop (K : List AItem) (Q : AVal → AHeap → Prop) {zs : List Int} {l : AVal} (hz : ∀ z ∈ zs, inI64 z) (hlen : zs.length ≤ 1000) {H0 : AHeap} (hl : IntsV H0 l zs) {pv : AVal}
  (hQ : ∀ r H a, rget r 0 = pv → rget r 5 = a → Mine .u64 T.uint64 H0.length H a (zs.map zig) → Keeps H0 H → Run Try.prog sgnC K r H Q) :
  ∀ (m i : Nat) (H : AHeap) (a : AVal), zs.length - i = m → i ≤ zs.length → Mine .u64 T.uint64 H0.length H a ((zs.take i).map zig) → Keeps H0 H →
  Rounds Try.prog sgnC pen_Pen_Signed.b0 [.inBlock 0] K [(0, pv), (5, a), (8, l), (9, .int .i64 (zs.length : Nat)), (10, .int .i64 (i : Nat))] H Q := by
 intro m
 induction m using Nat.strongRecOn with
 | _ m ih =>
  intro i H a h1 h2 hm hk
  refine loop_V 100 pen_Pen_Signed.b0.eq_1 ?_
  by_cases hi : i < zs.length
  ·have hzi : inI64 (zs.getD i 0) := by
    rw [List.getD_eq_getElem?_getD]; simp [hi]; exact hz _ (List.getElem_mem hi)
   have l1 := (hl.keep hk).load hi
   have l2 := hl.len
   have l3 := (hl.keep hk).isSome
   simp (disch := first | omega | (simp only [lnx]; omega)) only [stdh, stdx, ↓reduceIte, seval, l1, l2, l3]
   refine callK_fn (zig_ok _ _ hzi.1 hzi.2 _ ?_)
   refine runL_V 60 ?_
   simp (disch := first | omega | (simp only [lnx]; omega)) only [stdh, stdx, ↓reduceIte, seval]
   obtain ⟨v, H2, q, e1, hq, hm2, hk2⟩ := Mine.append (H := H ++ [_]) (hm.keep (keeps_append H [_])) (nats_one (k := .u64) (H := H) (el := T.uint64) (n := zig (zs.getD i 0))) (bytes := 8) (hk.trans (keeps_append H _)) rfl (by simp; omega) (by simp; omega) (by simp)
   simp (disch := first | omega | (simp only [lnx]; omega)) only [stdh, stdx, ↓reduceIte, seval, e1, hq]
   refine ih (zs.length - (i + 1)) (by omega) (i + 1) H2 v rfl (by omega) ?_ hk2
   have : (zs.take (i + 1)).map zig = (zs.take i).map zig ++ [zig (zs.getD i 0)] := by
    rw [List.take_succ_eq_append_getElem hi, List.map_append, List.map_cons, List.map_nil, List.getD_eq_getElem?_getD, List.getElem?_eq_getElem hi, Option.getD_some]
   rw [this]; exact hm2
  ·simp (disch := first | omega | (simp only [lnx]; omega)) only [stdh, stdx, ↓reduceIte, seval]
   rw [List.take_of_length_le (by omega)] at hm
   exact hQ _ _ _ rfl rfl hm hk
theorem signedV_ok {H : AHeap} {p : Nat} {a : AVal} {xs : List Nat} {room : Nat} {full : Bool} (hp : PenAt H p a xs room full) (hsm : xs.length ≤ 500000) {zs : List Int} {l : AVal} (hl : IntsV H l zs) (hz : ∀ z ∈ zs, inI64 z) (hlen : zs.length ≤ 1000) (Q : AVal → AHeap → Prop) (h : Wrote p a H xs room full (putAll (zs.map zig)) Q) :
  FunOK Try.prog F.pen_Pen_Signed [.ptr p 0, l] H Q := by
 refine fun_V 60 pen_Pen_Signed_code rfl ?_
 have l2 := hl.len
 simp (disch := first | omega | (simp only [lnx]; omega)) only [stdh, stdx, ↓reduceIte, seval, pen_Pen_Signed, pen_Pen_Signed.body, l2]
 refine signedV_loop _ _ hz hlen hl ?_ _ 0 H .nils rfl (by omega) ⟨.inl ⟨rfl, rfl⟩⟩ (Keeps.refl H)
 intro r H1 b f0 f5 hm hk
 refine run_V0 60 ?_
 simp (disch := first | omega | (simp only [lnx]; omega)) only [stdh, stdx, ↓reduceIte, seval, f0, f5]
 refine callK_fn (number_ok (hp.keep hk) hsm hm.nats ?_ (by simp; omega) _ ?_)
 ·intro n hn
  obtain ⟨z, hz1, rfl⟩ := List.mem_map.1 hn
  exact zig_lt (hz z hz1).1 (hz z hz1).2
 ·intro a' H' g1 g2 g3
  refine runL_V 60 ?_
  simp (disch := first | omega | (simp only [lnx]; omega)) only [stdh, stdx, ↓reduceIte, seval]
  exact h.keep hk a' H' g1 g2 g3
theorem raw_fit {xs ys : List Nat} {room : Nat} (h : xs.length + ys.length ≤ room) : rawXs xs room false ys = xs ++ ys ∧ rawFull xs room false ys = false ∧ rawErr xs room false ys = 0 := by
 unfold rawXs rawFull rawErr
 have : ¬ room < xs.length + ys.length := by omega
 simp [this]
structure Grew (H0 : AHeap) (p : Nat) (a0 : AVal) (H : AHeap) (a : AVal) (xs : List Nat) : Prop where
 pen : PenAt H p a xs 192 false
 keeps : PenKeeps H0 p a0 H
 names : ∀ m ∈ a.names, m ∈ a0.names ∨ H0.length ≤ m
theorem Grew.refl {H : AHeap} {p : Nat} {a : AVal} {xs : List Nat} (h : PenAt H p a xs 192 false) : Grew H p a H a xs := ⟨h, ⟨Nat.le_refl _, fun _ _ _ _ => rfl⟩, fun m hm => .inl hm⟩
theorem Grew.trans {H0 H1 H2 : AHeap} {p : Nat} {a0 a1 a2 : AVal} {xs ys : List Nat} (h : Grew H0 p a0 H1 a1 xs) (h' : Grew H1 p a1 H2 a2 ys) : Grew H0 p a0 H2 a2 ys where
 pen := h'.pen
 keeps := ⟨Nat.le_trans h.keeps.1 h'.keeps.1, fun m hm h1 h2 => (h'.keeps.2 m (Nat.lt_of_lt_of_le hm h.keeps.1) h1 fun hh => by
  rcases h.names m hh with hh | hh
  ·exact h2 hh
  ·omega).trans (h.keeps.2 m hm h1 h2)⟩
 names m hm := by
  rcases h'.names m hm with hh | hh
  ·exact h.names m hh
  ·exact .inr (Nat.le_trans h.keeps.1 hh)
theorem Grew.push {H0 H1 L : AHeap} {p : Nat} {a0 a1 : AVal} {xs : List Nat} (h : Grew H0 p a0 H1 a1 xs) : Grew H0 p a0 (H1 ++ L) a1 xs where
 pen := h.pen.keep (keeps_append _ _)
 keeps := ⟨by have := h.keeps.1; simp; omega, fun m hm h1 h2 => (List.getElem?_append_left (Nat.lt_of_lt_of_le hm h.keeps.1)).trans (h.keeps.2 m hm h1 h2)⟩
 names := h.names
theorem Grew.set {H0 H1 : AHeap} {p c : Nat} {a0 a1 : AVal} {xs : List Nat} {b : ABlk} (h : Grew H0 p a0 H1 a1 xs) (hc : H0.length ≤ c) {cs : List AVal} {T : TypeId} (hb : H1[c]? = some (.cells cs T)) (hpc : p ≠ c) : Grew H0 p a0 (H1.set c b) a1 xs where
 pen := h.pen.moved (by rw [List.getElem?_set_ne (fun hh => hpc hh.symm)]) fun m hm => by
  rw [List.getElem?_set_ne]
  rintro rfl
  exact (h.pen.own.ne hb) hm
 keeps := ⟨by rw [List.length_set]; exact h.keeps.1, fun m hm h1 h2 => by rw [List.getElem?_set_ne (by omega)]; exact h.keeps.2 m hm h1 h2⟩
 names := h.names
theorem Grew.at_ {H0 H1 : AHeap} {p c : Nat} {a0 a1 : AVal} {xs : List Nat} (h : Grew H0 p a0 H1 a1 xs) {cs : List AVal} {T : TypeId} (hb : H0[c]? = some (.cells cs T)) (hpc : p ≠ c) (ha : c ∉ a0.names) : H1[c]? = some (.cells cs T) :=
 (h.keeps.2 c (List.getElem?_eq_some_iff.1 hb).1 (fun hh => hpc hh.symm) ha).trans hb
def Writes (p : Nat) (a : AVal) (H : AHeap) (xs ys : List Nat) (Q : AVal → AHeap → Prop) : Prop := ∀ a' H', Grew H p a H' a' (xs ++ ys) → Q (.tup []) H'
theorem wrote_of {p : Nat} {a : AVal} {H : AHeap} {xs ys : List Nat} {Q : AVal → AHeap → Prop} (hl : xs.length + ys.length ≤ 192) (h : ∀ a' H', Grew H p a H' a' (xs ++ ys) → Q (.int .i64 0) H') : Wrote p a H xs 192 false ys Q := by
 intro a' H' g1 g2 g3
 obtain ⟨e1, e2, e3⟩ := raw_fit (xs := xs) (ys := ys) hl
 rw [e1, e2] at g1
 rw [e3]
 exact h a' H' ⟨g1, g2, g3⟩
def pathB : Int × Int → List (Int × Int) → List Nat
 | _, [] => []
 | last, x :: l => putAll [zig (x.1 - last.1), zig (x.2 - last.2)] ++ pathB x l
def cellsB : Int → List Int → List Nat
 | _, [] => []
 | last, c :: l => putAll [(c - last - 1).toNat] ++ cellsB c l
theorem zig_small {d : Int} (h1 : -2000000 ≤ d) (h2 : d ≤ 2000000) : zig d ≤ 4000001 := by unfold zig; split <;> omega
theorem size_small {n : Nat} (h : n ≤ 4000001) : sizeOf n ≤ 4 := sizeOf_le 3 n (by omega)
theorem putAll_one (n : Nat) : putAll [n] = putOne n := by simp [putAll]
theorem near_of {x : Int × Int} (h : farP x = false) : -1000000 ≤ x.1 ∧ x.1 ≤ 1000000 ∧ -1000000 ≤ x.2 ∧ x.2 ≤ 1000000 := by
 have := of_decide_eq_false h
 omega
theorem pathB_len : ∀ (l : List (Int × Int)) (last : Int × Int), farP last = false → l.any farP = false → (pathB last l).length ≤ 8 * l.length
 | [], _, _, _ => by simp [pathB]
 | x :: l, last, h1, h2 => by
  rw [List.any_cons, Bool.or_eq_false_iff] at h2
  have ih := pathB_len l x h2.1 h2.2
  have n1 := near_of h1
  have n2 := near_of h2.1
  have z1 := size_small (zig_small (d := x.1 - last.1) (by omega) (by omega))
  have z2 := size_small (zig_small (d := x.2 - last.2) (by omega) (by omega))
  simp only [pathB, List.length_append, List.length_cons, putAll, List.flatMap_cons, List.flatMap_nil, List.append_nil, putOne_length] at ih ⊢
  omega
theorem pathB_take {l : List (Int × Int)} : ∀ {i : Nat} {last : Int × Int}, i < l.length → pathB last (l.take (i + 1)) = pathB last (l.take i) ++ putAll [zig ((l.getD i default).1 - (if i = 0 then last else l.getD (i - 1) default).1), zig ((l.getD i default).2 - (if i = 0 then last else l.getD (i - 1) default).2)] := by
 induction l with
 | nil => intro i last h; simp at h
 | cons x l ih =>
  intro i last h
  cases i with
  | zero => simp [pathB]
  | succ i =>
   have hi : i < l.length := by simpa using h
   rw [List.take_succ_cons, List.take_succ_cons, pathB, pathB, ih hi]
   simp only [List.getD_cons_succ, Nat.add_sub_cancel, if_neg (Nat.succ_ne_zero i), List.append_assoc]
   cases i with
   | zero => simp
   | succ i => simp
abbrev bptC : Ctx := ⟨F.body_points, 34, [], none⟩
theorem getD_near {l : List (Int × Int)} (h : l.any farP = false) {i : Nat} (hi : i < l.length) : farP (l.getD i default) = false := by
 rw [List.any_eq_false] at h
 have := h (l.getD i default) (by simp [hi])
 simpa using this
set_option maxHeartbeats 1000000 in
theorem points_loop {l : List (Int × Int)} (hlen : l.length ≤ 16) (hf : l.any farP = false) {t : Bool} {H0 : AHeap} {p c : Nat} {a0 : AVal} {xs : List Nat} (hxs : xs.length ≤ 2) (hc : H0.length ≤ c) (hp0 : p < H0.length) (K : List AItem) (Q : AVal → AHeap → Prop)
  (hQ : ∀ r H a, Grew H0 p a0 H a (xs ++ pathB (0, 0) l) → Run Try.prog bptC K r H Q) :
  ∀ (z i : Nat) (H : AHeap) (a : AVal), l.length - i = z → i ≤ l.length → Grew H0 p a0 H a (xs ++ pathB (0, 0) (l.take i)) → H[c]? = some (.cells (encP (if i = 0 then (0, 0) else l.getD (i - 1) default)) T.msg_Point) →
  Rounds Try.prog bptC body_points.b0 [.inBlock 0] K [(0, .ptr p 0), (4, .ptr c 0), (13, recs encP t l), (14, .int .i64 l.length), (15, .int .i64 i)] H Q
 | z, i, H, a, h1, h2, hg, hcc => by
  refine loop_V 100 body_points.b0.eq_1 ?_
  by_cases hi : i < l.length
  ·have hld : ∀ H, loadA H (some 2) (.sptr (recs encP t l) (i * 2)) = some (True, .agg (encP (l.getD i default))) := fun H => load_recs encP_len hi
   have hcl : c < H.length := (List.getElem?_eq_some_iff.1 hcc).1
   have hb1 := pathB_len (l.take i) (0, 0) rfl (by
    rw [List.any_eq_false] at hf ⊢
    exact fun x hx => hf x (List.mem_of_mem_take hx))
   have hb2 := pathB_take (l := l) (i := i) (last := (0, 0)) hi
   have nx := near_of (getD_near hf hi)
   have nl : farP (if i = 0 then (0, 0) else l.getD (i - 1) default) = false := by
    split
    ·rfl
    ·exact getD_near hf (by omega)
   have nl := near_of nl
   rw [List.length_take] at hb1
   have hnext : (if i + 1 = 0 then ((0, 0) : Int × Int) else l.getD (i + 1 - 1) default) = l.getD i default := by simp
   generalize (if i = 0 then ((0, 0) : Int × Int) else l.getD (i - 1) default) = la at *
   generalize hx : l.getD i default = x at *
   obtain ⟨x1, x2⟩ := x
   obtain ⟨y1, y2⟩ := la
   simp only at nx nl hb2
   have w1 : IntKind.i64.wrap (x1 - y1) = x1 - y1 := wrap_i64 (by omega)
   have w2 : IntKind.i64.wrap (x2 - y2) = x2 - y2 := wrap_i64 (by omega)
   have e1 : H[c]? = some (ABlk.cells [.int .i64 y1, .int .i64 y2] T.msg_Point) := hcc
   simp (disch := first | omega | (simp only [lnx]; omega)) only [stdh, stdx, ↓reduceIte, seval, hld, encP, at_low, e1, w1, w2]
   have hs1 := size_small (zig_small (d := x1 - y1) (by omega) (by omega))
   have hs2 := size_small (zig_small (d := x2 - y2) (by omega) (by omega))
   have hy : putAll ([x1 - y1, x2 - y2].map zig) = putAll [zig (x1 - y1), zig (x2 - y2)] := rfl
   have hyl : (putAll [zig (x1 - y1), zig (x2 - y2)]).length ≤ 8 := by
    simp only [putAll, List.flatMap_cons, List.flatMap_nil, List.append_nil, List.length_append, putOne_length]; omega
   have hxl : (xs ++ pathB (0, 0) (l.take i)).length ≤ 130 := by rw [List.length_append]; omega
   have hg1 := hg.push (L := [ABlk.cells [AVal.int IntKind.i64 x1, AVal.int IntKind.i64 x2] T.msg_Point, ABlk.vec [AVal.int IntKind.i64 (x1 - y1), AVal.int IntKind.i64 (x2 - y2)] T.int64 1])
   have hpl : p < H.length := by have := hg.keeps.1; omega
   refine callK_fn (signedV_ok hg1.pen (by omega) (zs := [x1 - y1, x2 - y2]) ⟨rfl, ?_⟩ ?_ (by simp) _ (wrote_of (by rw [hy]; omega) fun a' H' hg' => ?_))
   ·simp [view, content, at_k]
   ·intro z hz
    simp only [List.mem_cons, List.not_mem_nil, or_false] at hz
    rcases hz with rfl | rfl
    ·exact ⟨by omega, by omega⟩
    ·exact ⟨by omega, by omega⟩
   ·refine runL_V 60 ?_
    have hX := hg'.at_ (c := H.length) (cs := [.int .i64 x1, .int .i64 x2]) (T := T.msg_Point) at_0 (by omega) fun hh => by
     exact hg1.pen.own.ne (c := H.length) at_0 hh
    have hC := hg'.at_ (c := c) (cs := [.int .i64 y1, .int .i64 y2]) (T := T.msg_Point) (by rw [at_low hcl]; exact e1) (by omega) fun hh => by
     exact hg1.pen.own.ne (c := c) (by rw [at_low hcl]; exact e1) hh
    have hg2 := hg1.trans hg'
    simp (disch := first | omega | (simp only [lnx]; omega)) only [stdh, stdx, ↓reduceIte, seval, hX, hC]
    rw [show (i : Int) + 1 = ((i + 1 : Nat) : Int) by omega]
    refine points_loop hlen hf hxs hc hp0 K Q hQ _ (i + 1) _ a' rfl (by omega) ?_ ?_
    ·rw [hb2, ← List.append_assoc]
     exact hg2.set hc hC (by omega)
    ·rw [hnext, List.getElem?_set_self (List.getElem?_eq_some_iff.1 hC).1]; rfl
  ·simp (disch := first | omega | (simp only [lnx]; omega)) only [stdh, stdx, ↓reduceIte, seval]
   rw [List.take_of_length_le (by omega)] at hg
   exact hQ _ H a hg
 termination_by z => z
theorem pt_p {H : AHeap} {p : Nat} {a : AVal} {xs : List Nat} {room : Nat} {full : Bool} (h : PenAt H p a xs room full) : p < H.length := (List.getElem?_eq_some_iff.1 h.is).1
theorem points_ok {H : AHeap} {p : Nat} {a : AVal} {l : List (Int × Int)} (hlen : l.length ≤ 16) (hf : l.any farP = false) {t : Bool} (hp : PenAt H p a [] 192 false) (Q : AVal → AHeap → Prop) (h : Writes p a H [] (putAll [l.length] ++ pathB (0, 0) l) Q) :
  FunOK Try.prog F.body_points [.ptr p 0, recs encP t l] H Q := by
 refine fun_V 60 body_points_code rfl ?_
 have hw : IntKind.u64.wrap (l.length : Int) = ((l.length : Nat) : Int) := wrap_u64 (by omega)
 have hs : (putAll [l.length]).length ≤ 1 := by simp only [putAll, List.flatMap_cons, List.flatMap_nil, List.append_nil, putOne_length]; rw [sizeOf_lt (by omega)]; omega
 simp (disch := first | omega | (simp only [lnx]; omega)) only [stdh, stdx, ↓reduceIte, seval, body_points, body_points.body, hw]
 have hg0 := (Grew.refl hp).push (L := [ABlk.vec [AVal.int IntKind.u64 (l.length : Nat)] T.uint64 1])
 refine callK_fn (number_ok hg0.pen (by simp) nats_one (by intro n hn; simp only [List.mem_cons, List.not_mem_nil, or_false] at hn; omega) (by simp) _ (wrote_of (by simp; omega) fun a' H' hg' => ?_))
 refine runL_V 60 ?_
 have hg1 := (hg0.trans hg').push (L := [ABlk.cells [AVal.int IntKind.i64 0, AVal.int IntKind.i64 0] T.msg_Point])
 simp (disch := first | omega | (simp only [lnx]; omega)) only [stdh, stdx, ↓reduceIte, seval]
 have hpl := pt_p hp
 have hle := (hg0.trans hg').keeps.1
 rw [List.nil_append] at hg1
 refine points_loop (c := H'.length) hlen hf (t := t) (xs := putAll [l.length]) (by omega) (H0 := H) hle hpl _ Q ?_ _ 0 _ a' rfl (by omega) (by simpa [pathB] using hg1) (by rw [at_0]; rfl)
 intro r H2 a2 hg2
 exact run_fin rfl rfl trivial (h a2 H2 (by simpa using hg2))
theorem cellsGo_zero : ∀ {l : List Int} {last : Int}, cellsGo last l = 0 → ∀ i, i < l.length → 0 ≤ l.getD i 0 ∧ l.getD i 0 ≤ 65535 ∧ (if i = 0 then last else l.getD (i - 1) 0) < l.getD i 0
 | [], _, _, i, h => by simp at h
 | c :: l, last, h, i, hi => by
  rw [cellsGo] at h
  by_cases h1 : c < 0 ∨ 65535 < c
  ·rw [if_pos h1] at h; omega
  rw [if_neg h1] at h
  by_cases h2 : c ≤ last
  ·rw [if_pos h2] at h; omega
  rw [if_neg h2] at h
  cases i with
  | zero => simp; omega
  | succ i =>
   have := cellsGo_zero h i (by simpa using hi)
   cases i with
   | zero => simpa using this
   | succ i => simpa using this
theorem cellsB_take {l : List Int} : ∀ {i : Nat} {last : Int}, i < l.length → cellsB last (l.take (i + 1)) = cellsB last (l.take i) ++ putAll [(l.getD i 0 - (if i = 0 then last else l.getD (i - 1) 0) - 1).toNat] := by
 induction l with
 | nil => intro i last h; simp at h
 | cons x l ih =>
  intro i last h
  cases i with
  | zero => simp [cellsB]
  | succ i =>
   have hi : i < l.length := by simpa using h
   rw [List.take_succ_cons, List.take_succ_cons, cellsB, cellsB, ih hi]
   simp only [List.getD_cons_succ, Nat.add_sub_cancel, if_neg (Nat.succ_ne_zero i), List.append_assoc]
   cases i with
   | zero => simp
   | succ i => simp
theorem cellsB_len {l : List Int} (h : cellsGo (-1) l = 0) : ∀ i, i ≤ l.length → (cellsB (-1) (l.take i)).length ≤ 3 * i
 | 0, _ => by simp [cellsB]
 | i + 1, hi => by
  have h1 := cellsGo_zero h i (by omega)
  have ih := cellsB_len h i (by omega)
  rw [cellsB_take (by omega)]
  have hl : -1 ≤ (if i = 0 then (-1 : Int) else l.getD (i - 1) 0) := by
   split
   ·omega
   ·have := cellsGo_zero h (i - 1) (by omega); omega
  have := sizeOf_le 2 (l.getD i 0 - (if i = 0 then (-1 : Int) else l.getD (i - 1) 0) - 1).toNat (by omega)
  simp only [List.length_append, putAll, List.flatMap_cons, List.flatMap_nil, List.append_nil, putOne_length] at ih ⊢
  omega
abbrev bclC : Ctx := ⟨F.body_cells, 29, [], none⟩
set_option maxHeartbeats 1000000 in
theorem bcells_loop {l : List Int} (hlen : l.length ≤ 32) (hf : cellsGo (-1) l = 0) {t : Bool} {H0 : AHeap} {p : Nat} {a0 : AVal} {xs : List Nat} (hxs : xs.length ≤ 2) (hp0 : p < H0.length) (K : List AItem) (Q : AVal → AHeap → Prop)
  (hQ : ∀ r H a, Grew H0 p a0 H a (xs ++ cellsB (-1) l) → Run Try.prog bclC K r H Q) :
  ∀ (z i : Nat) (H : AHeap) (a : AVal) (last : Int), l.length - i = z → i ≤ l.length → Grew H0 p a0 H a (xs ++ cellsB (-1) (l.take i)) → last = (if i = 0 then (-1 : Int) else l.getD (i - 1) 0) →
  Rounds Try.prog bclC body_cells.b0 [.inBlock 0] K [(0, .ptr p 0), (4, .int .i64 last), (13, ints t l), (14, .int .i64 l.length), (15, .int .i64 i)] H Q
 | z, i, H, a, last, h1, h2, hg, hla => by
  refine loop_V 100 body_cells.b0.eq_1 ?_
  by_cases hi : i < l.length
  ·have hb1 := cellsB_len hf i (by omega)
   have hb2 := cellsB_take (l := l) (i := i) (last := -1) hi
   have nx := cellsGo_zero hf i hi
   have nl : -1 ≤ last := by
    rw [hla]
    split
    ·omega
    ·have := cellsGo_zero hf (i - 1) (by omega); omega
   rw [← hla] at nx hb2
   have hnext : (if i + 1 = 0 then (-1 : Int) else l.getD (i + 1 - 1) 0) = l.getD i 0 := by simp
   have hld : ∀ H, loadA H none (.sptr (ints t l) i) = some (True, .int .i64 (l.getD i 0)) := fun H => load_ints hi
   generalize l.getD i 0 = x at *
   have w1 : IntKind.i64.wrap (x - last) = x - last := wrap_i64 (by omega)
   have w2 : IntKind.i64.wrap (x - last - 1) = x - last - 1 := wrap_i64 (by omega)
   have w3 : IntKind.u64.wrap (x - last - 1) = (((x - last - 1).toNat : Nat) : Int) := by rw [wrap_u64 (by omega)]; omega
   simp (disch := first | omega | (simp only [lnx]; omega)) only [stdh, stdx, ↓reduceIte, seval, w1, w2, w3, hld]
   have hs1 := sizeOf_le 2 (x - last - 1).toNat (by omega)
   have hyl : (putAll [(x - last - 1).toNat]).length ≤ 3 := by
    simp only [putAll, List.flatMap_cons, List.flatMap_nil, List.append_nil, putOne_length]; omega
   have hxl : (xs ++ cellsB (-1) (l.take i)).length ≤ 130 := by rw [List.length_append]; omega
   have hg1 := hg.push (L := [ABlk.vec [AVal.int IntKind.u64 ((x - last - 1).toNat : Nat)] T.uint64 1])
   have hpl : p < H.length := by have := hg.keeps.1; omega
   refine callK_fn (number_ok hg1.pen (by omega) nats_one (by intro n hn; simp only [List.mem_cons, List.not_mem_nil, or_false] at hn; omega) (by simp) _ (wrote_of (by omega) fun a' H' hg' => ?_))
   refine runL_V 60 ?_
   have hg2 := hg1.trans hg'
   simp (disch := first | omega | (simp only [lnx]; omega)) only [stdh, stdx, ↓reduceIte, seval]
   rw [show (i : Int) + 1 = ((i + 1 : Nat) : Int) by omega]
   refine bcells_loop hlen hf hxs hp0 K Q hQ _ (i + 1) _ a' x rfl (by omega) ?_ hnext.symm
   rw [hb2, ← List.append_assoc]
   exact hg2
  ·simp (disch := first | omega | (simp only [lnx]; omega)) only [stdh, stdx, ↓reduceIte, seval]
   rw [List.take_of_length_le (by omega)] at hg
   exact hQ _ H a hg
 termination_by z => z
theorem bcells_ok {H : AHeap} {p : Nat} {a : AVal} {l : List Int} (hlen : l.length ≤ 32) (hf : cellsGo (-1) l = 0) {t : Bool} (hp : PenAt H p a [] 192 false) (Q : AVal → AHeap → Prop) (h : Writes p a H [] (putAll [l.length] ++ cellsB (-1) l) Q) :
  FunOK Try.prog F.body_cells [.ptr p 0, ints t l] H Q := by
 refine fun_V 60 body_cells_code rfl ?_
 have hw : IntKind.u64.wrap (l.length : Int) = ((l.length : Nat) : Int) := wrap_u64 (by omega)
 have hs : (putAll [l.length]).length ≤ 1 := by simp only [putAll, List.flatMap_cons, List.flatMap_nil, List.append_nil, putOne_length]; rw [sizeOf_lt (by omega)]; omega
 simp (disch := first | omega | (simp only [lnx]; omega)) only [stdh, stdx, ↓reduceIte, seval, body_cells, body_cells.body, hw]
 have hg0 := (Grew.refl hp).push (L := [ABlk.vec [AVal.int IntKind.u64 (l.length : Nat)] T.uint64 1])
 refine callK_fn (number_ok hg0.pen (by simp) nats_one (by intro n hn; simp only [List.mem_cons, List.not_mem_nil, or_false] at hn; omega) (by simp) _ (wrote_of (by simp; omega) fun a' H' hg' => ?_))
 refine runL_V 60 ?_
 have hg1 := hg0.trans hg'
 simp (disch := first | omega | (simp only [lnx]; omega)) only [stdh, stdx, ↓reduceIte, seval]
 have hpl := pt_p hp
 rw [List.nil_append] at hg1
 refine bcells_loop hlen hf (t := t) (xs := putAll [l.length]) (by omega) (H0 := H) hpl _ Q ?_ _ 0 _ a' (-1) rfl (by omega) (by simpa [cellsB] using hg1) rfl
 intro r H2 a2 hg2
 exact run_fin rfl rfl trivial (h a2 H2 (by simpa using hg2))
def partB (m : Mg) (f : Fld) : List Nat :=
 if f.sort = 1 then putAll [(m.num f.place).toNat] else if f.sort = 2 then putAll [zig (m.num f.place)]
 else if f.sort = 3 then putAll [m.p.length] ++ pathB (0, 0) m.p else if f.sort = 4 then putAll [m.c.length] ++ cellsB (-1) m.c
 else if f.sort = 5 then putAll [(bytesOf m.t).length] ++ bytesOf m.t else putAll [(bytesOf m.g).length] ++ bytesOf m.g
def Fits192 (m : Mg) (f : Fld) : Prop :=
 (f.sort = 1 → 0 ≤ m.num f.place ∧ m.num f.place ≤ 9223372036854775807) ∧ (f.sort = 2 → inI64 (m.num f.place)) ∧ (f.sort = 3 → m.p.length ≤ 16 ∧ m.p.any farP = false) ∧ (f.sort = 4 → m.c.length ≤ 32 ∧ cellsGo (-1) m.c = 0) ∧
 (f.sort = 5 → m.t.size ≤ 64) ∧ (f.sort = 6 → m.g.size ≤ 64)
theorem partB_len {m : Mg} {f : Fld} (hf : f.ok3) (hm : Fits192 m f) : (partB m f).length ≤ 192 := by
 obtain ⟨h1, h2, h3, h4, h5, h6⟩ := hm
 unfold partB
 have one : ∀ n : Nat, n < 18446744073709551616 → (putAll [n]).length ≤ 10 := fun n hn => by
  simp only [putAll, List.flatMap_cons, List.flatMap_nil, List.append_nil, putOne_length]; exact sizeOf_le10 hn
 have small : ∀ n : Nat, n < 128 → (putAll [n]).length ≤ 1 := fun n hn => by
  simp only [putAll, List.flatMap_cons, List.flatMap_nil, List.append_nil, putOne_length]; rw [sizeOf_lt hn]; omega
 by_cases s1 : f.sort = 1
 ·rw [if_pos s1]; have := h1 s1; have := one (m.num f.place).toNat (by omega); omega
 rw [if_neg s1]
 by_cases s2 : f.sort = 2
 ·rw [if_pos s2]; have := h2 s2; have := one (zig (m.num f.place)) (zig_lt this.1 this.2); omega
 rw [if_neg s2]
 by_cases s3 : f.sort = 3
 ·rw [if_pos s3]
  obtain ⟨a, b⟩ := h3 s3
  have := small m.p.length (by omega)
  have := pathB_len m.p (0, 0) rfl b
  rw [List.length_append]; omega
 rw [if_neg s3]
 by_cases s4 : f.sort = 4
 ·rw [if_pos s4]
  obtain ⟨a, b⟩ := h4 s4
  have := small m.c.length (by omega)
  have := cellsB_len b m.c.length (Nat.le_refl _)
  rw [List.take_length] at this
  rw [List.length_append]; omega
 rw [if_neg s4]
 by_cases s5 : f.sort = 5
 ·rw [if_pos s5]
  have a := h5 s5
  have := bytesOf_len m.t
  have := small (bytesOf m.t).length (by omega)
  rw [List.length_append]; omega
 rw [if_neg s5]
 have s6 : f.sort = 6 := by
  rcases hf with ⟨_, h | h | h | h⟩ | ⟨h | h, _⟩
  ·exact absurd h s3
  ·exact absurd h s4
  ·exact absurd h s5
  ·exact h
  ·exact absurd h s1
  ·exact absurd h s2
 have a := h6 s6
 have := bytesOf_len m.g
 have := small (bytesOf m.g).length (by omega)
 rw [List.length_append]; omega
theorem grew_keeps {H H1 H' : AHeap} {p : Nat} {a' : AVal} {xs : List Nat} (h : Grew H1 p .nils H' a' xs) (hp : H.length ≤ p) (hk : Keeps H H1) : Keeps H H' :=
 ⟨Nat.le_trans hk.1 h.keeps.1, fun n hn => (h.keeps.2 n (Nat.lt_of_lt_of_le hn hk.1) (by omega) (by simp [AVal.names])).trans (hk.2 n hn)⟩
theorem nums_nostr (k : IntKind) (t : Bool) (xs : List Nat) : ∀ s, nums k t xs ≠ .str s := by intro s h; simp [nums] at h
set_option maxRecDepth 10000 in
set_option maxHeartbeats 4000000 in
theorem part_ok (H : AHeap) (m : Mg) (f : Fld) (hf : f.ok3) (hm : Fits192 m f) (Q : AVal → AHeap → Prop) (h : Q (nums .u8 false (partB m f)) H) : FunOK Try.prog F.body_part [.agg (encM m), .agg (encF f)] H Q := by
 have hpl := partB_len hf hm
 refine fun_iced body_part_code fun _ => ?_
 refine fun_V 60 body_part_code rfl ?_
 simp (disch := first | omega | (simp only [lnx]; omega)) only [stdh, stdx, ↓reduceIte, seval, body_part, body_part.body, encM, encF]
 rw [show (192 : Int) = ((192 : Nat) : Int) from rfl]
 refine callK_fn (pnew_ok _ (by omega) _ ?_)
 refine runL_V 100 ?_
 have hpen := pnew_at (H ++ [ABlk.cells [AVal.int IntKind.i64 m.k, AVal.int IntKind.i64 m.n0, AVal.int IntKind.i64 m.n1, AVal.int IntKind.i64 m.n2, AVal.int IntKind.i64 m.n3, AVal.int IntKind.i64 m.n4, AVal.int IntKind.i64 m.n5, recs encP false m.p, ints false m.c, AVal.str m.t, AVal.str m.g] T.msg_Msg, ABlk.cells [AVal.str f.name, AVal.int IntKind.i64 f.sort, AVal.int IntKind.i64 f.place, AVal.int IntKind.i64 f.least, AVal.int IntKind.i64 f.most, AVal.int IntKind.i64 f.since, AVal.int IntKind.i64 f.absent] T.field_Field]) (room := 192) (by omega)
 generalize hH1 : H ++ [ABlk.cells [AVal.int IntKind.i64 m.k, AVal.int IntKind.i64 m.n0, AVal.int IntKind.i64 m.n1, AVal.int IntKind.i64 m.n2, AVal.int IntKind.i64 m.n3, AVal.int IntKind.i64 m.n4, AVal.int IntKind.i64 m.n5, recs encP false m.p, ints false m.c, AVal.str m.t, AVal.str m.g] T.msg_Msg, ABlk.cells [AVal.str f.name, AVal.int IntKind.i64 f.sort, AVal.int IntKind.i64 f.place, AVal.int IntKind.i64 f.least, AVal.int IntKind.i64 f.most, AVal.int IntKind.i64 f.since, AVal.int IntKind.i64 f.absent] T.field_Field] = H1 at *
 have hkH : Keeps H H1 := by rw [← hH1]; exact keeps_append _ _
 have b0 : H1[H.length]? = some (ABlk.cells [AVal.int IntKind.i64 m.k, AVal.int IntKind.i64 m.n0, AVal.int IntKind.i64 m.n1, AVal.int IntKind.i64 m.n2, AVal.int IntKind.i64 m.n3, AVal.int IntKind.i64 m.n4, AVal.int IntKind.i64 m.n5, recs encP false m.p, ints false m.c, AVal.str m.t, AVal.str m.g] T.msg_Msg) := by rw [← hH1]; exact at_0
 have b1 : H1[H.length + 1]? = some (ABlk.cells [AVal.str f.name, AVal.int IntKind.i64 f.sort, AVal.int IntKind.i64 f.place, AVal.int IntKind.i64 f.least, AVal.int IntKind.i64 f.most, AVal.int IntKind.i64 f.since, AVal.int IntKind.i64 f.absent] T.field_Field) := by rw [← hH1]; exact at_k
 have hl1 : H1.length = H.length + 2 := by rw [← hH1]; simp
 clear hH1
 have hk2 : Keeps H (H1 ++ [ABlk.cells [.nils, .int .i64 ((192 : Nat) : Int), .bool false] T.pen_Pen]) := hkH.trans (keeps_append _ _)
 have c0 := (at_low (L := [ABlk.cells [.nils, .int .i64 ((192 : Nat) : Int), .bool false] T.pen_Pen]) (show H.length < H1.length by omega)).trans b0
 have c1 := (at_low (L := [ABlk.cells [.nils, .int .i64 ((192 : Nat) : Int), .bool false] T.pen_Pen]) (show H.length + 1 < H1.length by omega)).trans b1
 have hgl : (H1 ++ [ABlk.cells [.nils, .int .i64 ((192 : Nat) : Int), .bool false] T.pen_Pen]).length = H.length + 3 := by simp [hl1]
 generalize H1 ++ [ABlk.cells [.nils, .int .i64 ((192 : Nat) : Int), .bool false] T.pen_Pen] = G at *
 rw [hl1] at hpen ⊢
 clear b0 b1 hl1 hkH
 obtain ⟨g1, g2, g3, g4, g5, g6⟩ := hm
 have fin : ∀ (ys : List Nat), ys = partB m f → ∀ {L : AHeap} a' H', Grew (G ++ L) (H.length + 2) .nils H' a' ([] ++ ys) → Keeps H H' ∧ PenAt H' (H.length + 2) a' (partB m f) 192 false := by
  rintro ys rfl L a' H' hg
  exact ⟨grew_keeps hg (by omega) (hk2.trans (keeps_append _ _)), by simpa using hg.pen⟩
 have fin0 : ∀ (ys : List Nat), ys = partB m f → ∀ a' H', Grew G (H.length + 2) .nils H' a' ([] ++ ys) → Keeps H H' ∧ PenAt H' (H.length + 2) a' (partB m f) 192 false := by
  rintro ys rfl a' H' hg
  exact ⟨grew_keeps hg (by omega) hk2, by simpa using hg.pen⟩
 by_cases s1 : f.sort = 1
 ·have hn := g1 s1
  have e : partB m f = putAll [(m.num f.place).toNat] := by rw [partB, if_pos s1]
  have hw : IntKind.u64.wrap (m.num f.place) = (((m.num f.place).toNat : Nat) : Int) := by rw [wrap_u64 (by omega)]; omega
  have hp6 : f.place = 0 ∨ f.place = 1 ∨ f.place = 2 ∨ f.place = 3 ∨ f.place = 4 ∨ f.place = 5 := by
   rcases hf with ⟨_, q | q | q | q⟩ | ⟨_, q⟩ <;> first | exact q | omega
  rcases hp6 with p | p | p | p | p | p
  ·simp only [p, Mg.num, if_true, if_false, Int.reduceEq] at hw hn e
   simp (disch := first | omega | (simp only [lnx]; omega)) only [stdh, stdx, ↓reduceIte, seval, c0, c1, at_low, s1, p, hw]
   refine callK_fn (number_ok (hpen.keep (keeps_append _ _)) (by simp) nats_one (by intro n hn; simp only [List.mem_cons, List.not_mem_nil, or_false] at hn; omega) (by simp) _ (wrote_of (by rw [← e]; simpa using hpl) fun a' H' hg => ?_))
   obtain ⟨q1, q2⟩ := fin _ e.symm a' H' hg
   refine runL_V 60 ?_
   simp (disch := first | omega | (simp only [lnx]; omega)) only [stdh, stdx, ↓reduceIte, seval]
   refine callK_fn (pbytes_ok q2 _ ?_)
   refine runL_V 60 ?_
   simp (disch := first | omega | (simp only [lnx]; omega)) only [stdh, stdx, ↓reduceIte, seval]
   exact ice_keeps q1 (closed_nums _ _ _) h
  ·simp only [p, Mg.num, if_true, if_false, Int.reduceEq] at hw hn e
   simp (disch := first | omega | (simp only [lnx]; omega)) only [stdh, stdx, ↓reduceIte, seval, c0, c1, at_low, s1, p, hw]
   refine callK_fn (number_ok (hpen.keep (keeps_append _ _)) (by simp) nats_one (by intro n hn; simp only [List.mem_cons, List.not_mem_nil, or_false] at hn; omega) (by simp) _ (wrote_of (by rw [← e]; simpa using hpl) fun a' H' hg => ?_))
   obtain ⟨q1, q2⟩ := fin _ e.symm a' H' hg
   refine runL_V 60 ?_
   simp (disch := first | omega | (simp only [lnx]; omega)) only [stdh, stdx, ↓reduceIte, seval]
   refine callK_fn (pbytes_ok q2 _ ?_)
   refine runL_V 60 ?_
   simp (disch := first | omega | (simp only [lnx]; omega)) only [stdh, stdx, ↓reduceIte, seval]
   exact ice_keeps q1 (closed_nums _ _ _) h
  ·simp only [p, Mg.num, if_true, if_false, Int.reduceEq] at hw hn e
   simp (disch := first | omega | (simp only [lnx]; omega)) only [stdh, stdx, ↓reduceIte, seval, c0, c1, at_low, s1, p, hw]
   refine callK_fn (number_ok (hpen.keep (keeps_append _ _)) (by simp) nats_one (by intro n hn; simp only [List.mem_cons, List.not_mem_nil, or_false] at hn; omega) (by simp) _ (wrote_of (by rw [← e]; simpa using hpl) fun a' H' hg => ?_))
   obtain ⟨q1, q2⟩ := fin _ e.symm a' H' hg
   refine runL_V 60 ?_
   simp (disch := first | omega | (simp only [lnx]; omega)) only [stdh, stdx, ↓reduceIte, seval]
   refine callK_fn (pbytes_ok q2 _ ?_)
   refine runL_V 60 ?_
   simp (disch := first | omega | (simp only [lnx]; omega)) only [stdh, stdx, ↓reduceIte, seval]
   exact ice_keeps q1 (closed_nums _ _ _) h
  ·simp only [p, Mg.num, if_true, if_false, Int.reduceEq] at hw hn e
   simp (disch := first | omega | (simp only [lnx]; omega)) only [stdh, stdx, ↓reduceIte, seval, c0, c1, at_low, s1, p, hw]
   refine callK_fn (number_ok (hpen.keep (keeps_append _ _)) (by simp) nats_one (by intro n hn; simp only [List.mem_cons, List.not_mem_nil, or_false] at hn; omega) (by simp) _ (wrote_of (by rw [← e]; simpa using hpl) fun a' H' hg => ?_))
   obtain ⟨q1, q2⟩ := fin _ e.symm a' H' hg
   refine runL_V 60 ?_
   simp (disch := first | omega | (simp only [lnx]; omega)) only [stdh, stdx, ↓reduceIte, seval]
   refine callK_fn (pbytes_ok q2 _ ?_)
   refine runL_V 60 ?_
   simp (disch := first | omega | (simp only [lnx]; omega)) only [stdh, stdx, ↓reduceIte, seval]
   exact ice_keeps q1 (closed_nums _ _ _) h
  ·simp only [p, Mg.num, if_true, if_false, Int.reduceEq] at hw hn e
   simp (disch := first | omega | (simp only [lnx]; omega)) only [stdh, stdx, ↓reduceIte, seval, c0, c1, at_low, s1, p, hw]
   refine callK_fn (number_ok (hpen.keep (keeps_append _ _)) (by simp) nats_one (by intro n hn; simp only [List.mem_cons, List.not_mem_nil, or_false] at hn; omega) (by simp) _ (wrote_of (by rw [← e]; simpa using hpl) fun a' H' hg => ?_))
   obtain ⟨q1, q2⟩ := fin _ e.symm a' H' hg
   refine runL_V 60 ?_
   simp (disch := first | omega | (simp only [lnx]; omega)) only [stdh, stdx, ↓reduceIte, seval]
   refine callK_fn (pbytes_ok q2 _ ?_)
   refine runL_V 60 ?_
   simp (disch := first | omega | (simp only [lnx]; omega)) only [stdh, stdx, ↓reduceIte, seval]
   exact ice_keeps q1 (closed_nums _ _ _) h
  ·simp only [p, Mg.num, if_true, if_false, Int.reduceEq] at hw hn e
   simp (disch := first | omega | (simp only [lnx]; omega)) only [stdh, stdx, ↓reduceIte, seval, c0, c1, at_low, s1, p, hw]
   refine callK_fn (number_ok (hpen.keep (keeps_append _ _)) (by simp) nats_one (by intro n hn; simp only [List.mem_cons, List.not_mem_nil, or_false] at hn; omega) (by simp) _ (wrote_of (by rw [← e]; simpa using hpl) fun a' H' hg => ?_))
   obtain ⟨q1, q2⟩ := fin _ e.symm a' H' hg
   refine runL_V 60 ?_
   simp (disch := first | omega | (simp only [lnx]; omega)) only [stdh, stdx, ↓reduceIte, seval]
   refine callK_fn (pbytes_ok q2 _ ?_)
   refine runL_V 60 ?_
   simp (disch := first | omega | (simp only [lnx]; omega)) only [stdh, stdx, ↓reduceIte, seval]
   exact ice_keeps q1 (closed_nums _ _ _) h
 by_cases s2 : f.sort = 2
 ·have hn := g2 s2
  have e : partB m f = putAll ([m.num f.place].map zig) := by rw [partB, if_neg s1, if_pos s2]; rfl
  have hp6 : f.place = 0 ∨ f.place = 1 ∨ f.place = 2 ∨ f.place = 3 ∨ f.place = 4 ∨ f.place = 5 := by
   rcases hf with ⟨_, q | q | q | q⟩ | ⟨_, q⟩ <;> first | exact q | omega
  rcases hp6 with p | p | p | p | p | p
  ·simp only [p, Mg.num, if_true, if_false, Int.reduceEq] at hn e
   simp (disch := first | omega | (simp only [lnx]; omega)) only [stdh, stdx, ↓reduceIte, seval, c0, c1, at_low, s2, p, Int.reduceEq]
   refine callK_fn (signedV_ok (zs := [m.n0]) (hpen.keep (keeps_append _ _)) (by simp) ⟨rfl, by simp [view, content, at_0]⟩ (by intro n hn'; simp only [List.mem_cons, List.not_mem_nil, or_false] at hn'; rw [hn']; exact hn) (by simp) _ (wrote_of (by rw [← e]; simpa using hpl) fun a' H' hg => ?_))
   obtain ⟨q1, q2⟩ := fin _ e.symm a' H' hg
   refine runL_V 60 ?_
   simp (disch := first | omega | (simp only [lnx]; omega)) only [stdh, stdx, ↓reduceIte, seval]
   refine callK_fn (pbytes_ok q2 _ ?_)
   refine runL_V 60 ?_
   simp (disch := first | omega | (simp only [lnx]; omega)) only [stdh, stdx, ↓reduceIte, seval]
   exact ice_keeps q1 (closed_nums _ _ _) h
  ·simp only [p, Mg.num, if_true, if_false, Int.reduceEq] at hn e
   simp (disch := first | omega | (simp only [lnx]; omega)) only [stdh, stdx, ↓reduceIte, seval, c0, c1, at_low, s2, p, Int.reduceEq]
   refine callK_fn (signedV_ok (zs := [m.n1]) (hpen.keep (keeps_append _ _)) (by simp) ⟨rfl, by simp [view, content, at_0]⟩ (by intro n hn'; simp only [List.mem_cons, List.not_mem_nil, or_false] at hn'; rw [hn']; exact hn) (by simp) _ (wrote_of (by rw [← e]; simpa using hpl) fun a' H' hg => ?_))
   obtain ⟨q1, q2⟩ := fin _ e.symm a' H' hg
   refine runL_V 60 ?_
   simp (disch := first | omega | (simp only [lnx]; omega)) only [stdh, stdx, ↓reduceIte, seval]
   refine callK_fn (pbytes_ok q2 _ ?_)
   refine runL_V 60 ?_
   simp (disch := first | omega | (simp only [lnx]; omega)) only [stdh, stdx, ↓reduceIte, seval]
   exact ice_keeps q1 (closed_nums _ _ _) h
  ·simp only [p, Mg.num, if_true, if_false, Int.reduceEq] at hn e
   simp (disch := first | omega | (simp only [lnx]; omega)) only [stdh, stdx, ↓reduceIte, seval, c0, c1, at_low, s2, p, Int.reduceEq]
   refine callK_fn (signedV_ok (zs := [m.n2]) (hpen.keep (keeps_append _ _)) (by simp) ⟨rfl, by simp [view, content, at_0]⟩ (by intro n hn'; simp only [List.mem_cons, List.not_mem_nil, or_false] at hn'; rw [hn']; exact hn) (by simp) _ (wrote_of (by rw [← e]; simpa using hpl) fun a' H' hg => ?_))
   obtain ⟨q1, q2⟩ := fin _ e.symm a' H' hg
   refine runL_V 60 ?_
   simp (disch := first | omega | (simp only [lnx]; omega)) only [stdh, stdx, ↓reduceIte, seval]
   refine callK_fn (pbytes_ok q2 _ ?_)
   refine runL_V 60 ?_
   simp (disch := first | omega | (simp only [lnx]; omega)) only [stdh, stdx, ↓reduceIte, seval]
   exact ice_keeps q1 (closed_nums _ _ _) h
  ·simp only [p, Mg.num, if_true, if_false, Int.reduceEq] at hn e
   simp (disch := first | omega | (simp only [lnx]; omega)) only [stdh, stdx, ↓reduceIte, seval, c0, c1, at_low, s2, p, Int.reduceEq]
   refine callK_fn (signedV_ok (zs := [m.n3]) (hpen.keep (keeps_append _ _)) (by simp) ⟨rfl, by simp [view, content, at_0]⟩ (by intro n hn'; simp only [List.mem_cons, List.not_mem_nil, or_false] at hn'; rw [hn']; exact hn) (by simp) _ (wrote_of (by rw [← e]; simpa using hpl) fun a' H' hg => ?_))
   obtain ⟨q1, q2⟩ := fin _ e.symm a' H' hg
   refine runL_V 60 ?_
   simp (disch := first | omega | (simp only [lnx]; omega)) only [stdh, stdx, ↓reduceIte, seval]
   refine callK_fn (pbytes_ok q2 _ ?_)
   refine runL_V 60 ?_
   simp (disch := first | omega | (simp only [lnx]; omega)) only [stdh, stdx, ↓reduceIte, seval]
   exact ice_keeps q1 (closed_nums _ _ _) h
  ·simp only [p, Mg.num, if_true, if_false, Int.reduceEq] at hn e
   simp (disch := first | omega | (simp only [lnx]; omega)) only [stdh, stdx, ↓reduceIte, seval, c0, c1, at_low, s2, p, Int.reduceEq]
   refine callK_fn (signedV_ok (zs := [m.n4]) (hpen.keep (keeps_append _ _)) (by simp) ⟨rfl, by simp [view, content, at_0]⟩ (by intro n hn'; simp only [List.mem_cons, List.not_mem_nil, or_false] at hn'; rw [hn']; exact hn) (by simp) _ (wrote_of (by rw [← e]; simpa using hpl) fun a' H' hg => ?_))
   obtain ⟨q1, q2⟩ := fin _ e.symm a' H' hg
   refine runL_V 60 ?_
   simp (disch := first | omega | (simp only [lnx]; omega)) only [stdh, stdx, ↓reduceIte, seval]
   refine callK_fn (pbytes_ok q2 _ ?_)
   refine runL_V 60 ?_
   simp (disch := first | omega | (simp only [lnx]; omega)) only [stdh, stdx, ↓reduceIte, seval]
   exact ice_keeps q1 (closed_nums _ _ _) h
  ·simp only [p, Mg.num, if_true, if_false, Int.reduceEq] at hn e
   simp (disch := first | omega | (simp only [lnx]; omega)) only [stdh, stdx, ↓reduceIte, seval, c0, c1, at_low, s2, p, Int.reduceEq]
   refine callK_fn (signedV_ok (zs := [m.n5]) (hpen.keep (keeps_append _ _)) (by simp) ⟨rfl, by simp [view, content, at_0]⟩ (by intro n hn'; simp only [List.mem_cons, List.not_mem_nil, or_false] at hn'; rw [hn']; exact hn) (by simp) _ (wrote_of (by rw [← e]; simpa using hpl) fun a' H' hg => ?_))
   obtain ⟨q1, q2⟩ := fin _ e.symm a' H' hg
   refine runL_V 60 ?_
   simp (disch := first | omega | (simp only [lnx]; omega)) only [stdh, stdx, ↓reduceIte, seval]
   refine callK_fn (pbytes_ok q2 _ ?_)
   refine runL_V 60 ?_
   simp (disch := first | omega | (simp only [lnx]; omega)) only [stdh, stdx, ↓reduceIte, seval]
   exact ice_keeps q1 (closed_nums _ _ _) h
 by_cases s3 : f.sort = 3
 ·obtain ⟨n1, n2⟩ := g3 s3
  have e : partB m f = putAll [m.p.length] ++ pathB (0, 0) m.p := by rw [partB, if_neg s1, if_neg s2, if_pos s3]
  simp (disch := first | omega | (simp only [lnx]; omega)) only [stdh, stdx, ↓reduceIte, seval, c0, c1, at_low, s3, Int.reduceEq]
  refine callK_fn (points_ok n1 n2 hpen _ fun a' H' hg => ?_)
  obtain ⟨q1, q2⟩ := fin0 _ e.symm a' H' hg
  refine runL_V 60 ?_
  simp (disch := first | omega | (simp only [lnx]; omega)) only [stdh, stdx, ↓reduceIte, seval]
  refine callK_fn (pbytes_ok q2 _ ?_)
  refine runL_V 60 ?_
  simp (disch := first | omega | (simp only [lnx]; omega)) only [stdh, stdx, ↓reduceIte, seval]
  exact ice_keeps q1 (closed_nums _ _ _) h
 by_cases s4 : f.sort = 4
 ·obtain ⟨n1, n2⟩ := g4 s4
  have e : partB m f = putAll [m.c.length] ++ cellsB (-1) m.c := by rw [partB, if_neg s1, if_neg s2, if_neg s3, if_pos s4]
  simp (disch := first | omega | (simp only [lnx]; omega)) only [stdh, stdx, ↓reduceIte, seval, c0, c1, at_low, s4, Int.reduceEq]
  refine callK_fn (bcells_ok n1 n2 hpen _ fun a' H' hg => ?_)
  obtain ⟨q1, q2⟩ := fin0 _ e.symm a' H' hg
  refine runL_V 60 ?_
  simp (disch := first | omega | (simp only [lnx]; omega)) only [stdh, stdx, ↓reduceIte, seval]
  refine callK_fn (pbytes_ok q2 _ ?_)
  refine runL_V 60 ?_
  simp (disch := first | omega | (simp only [lnx]; omega)) only [stdh, stdx, ↓reduceIte, seval]
  exact ice_keeps q1 (closed_nums _ _ _) h
 by_cases s5 : f.sort = 5
 ·have n1 := g5 s5
  have n2 := bytesOf_len m.t
  have e : partB m f = putAll [(bytesOf m.t).length] ++ bytesOf m.t := by rw [partB, if_neg s1, if_neg s2, if_neg s3, if_neg s4, if_pos s5]
  simp (disch := first | omega | (simp only [lnx]; omega)) only [stdh, stdx, ↓reduceIte, seval, c0, c1, at_low, s5, Int.reduceEq]
  refine callK_fn (pfield_ok hpen (by simp) (nums_nats _ _ _ _) (nums_nostr _ _ _) (by omega) _ (wrote_of (by rw [← e]; simpa using hpl) fun a' H' hg => ?_))
  obtain ⟨q1, q2⟩ := fin0 _ e.symm a' H' hg
  refine runL_V 60 ?_
  simp (disch := first | omega | (simp only [lnx]; omega)) only [stdh, stdx, ↓reduceIte, seval]
  refine callK_fn (pbytes_ok q2 _ ?_)
  refine runL_V 60 ?_
  simp (disch := first | omega | (simp only [lnx]; omega)) only [stdh, stdx, ↓reduceIte, seval]
  exact ice_keeps q1 (closed_nums _ _ _) h
 ·have s6 : f.sort = 6 := by
   rcases hf with ⟨_, q | q | q | q⟩ | ⟨q | q, _⟩
   ·exact absurd q s3
   ·exact absurd q s4
   ·exact absurd q s5
   ·exact q
   ·exact absurd q s1
   ·exact absurd q s2
  have n1 := g6 s6
  have n2 := bytesOf_len m.g
  have e : partB m f = putAll [(bytesOf m.g).length] ++ bytesOf m.g := by rw [partB, if_neg s1, if_neg s2, if_neg s3, if_neg s4, if_neg s5]
  simp (disch := first | omega | (simp only [lnx]; omega)) only [stdh, stdx, ↓reduceIte, seval, c0, c1, at_low, s6, Int.reduceEq]
  refine callK_fn (pfield_ok hpen (by simp) (nums_nats _ _ _ _) (nums_nostr _ _ _) (by omega) _ (wrote_of (by rw [← e]; simpa using hpl) fun a' H' hg => ?_))
  obtain ⟨q1, q2⟩ := fin0 _ e.symm a' H' hg
  refine runL_V 60 ?_
  simp (disch := first | omega | (simp only [lnx]; omega)) only [stdh, stdx, ↓reduceIte, seval]
  refine callK_fn (pbytes_ok q2 _ ?_)
  refine runL_V 60 ?_
  simp (disch := first | omega | (simp only [lnx]; omega)) only [stdh, stdx, ↓reduceIte, seval]
  exact ice_keeps q1 (closed_nums _ _ _) h
def bcheckE (m : Mg) (v : Int) : Int := if v ≠ 1 ∧ v ≠ 2 then 10 else checkM m
theorem bcheck_ok (H : AHeap) (m : Mg) (v : Int) (hm : m.fine) (Q : AVal → AHeap → Prop) (h : Q (.int .i64 (bcheckE m v)) H) : FunOK Try.prog F.body_check [.agg (encM m), .int .i64 v] H Q := by
 refine fun_iced body_check_code fun _ => ?_
 refine fun_V 60 body_check_code rfl ?_
 unfold bcheckE at h
 by_cases h1 : v = 1
 ·rw [if_neg (by omega)] at h
  have hd : decide (v = 1) = true := decide_eq_true h1
  simp (disch := first | omega | (simp only [lnx]; omega)) only [stdh, stdx, ↓reduceIte, seval, body_check, body_check.body, encM, hd]
  refine callK_fn (check_ok _ m hm _ ?_)
  refine runL_V 60 ?_
  simp (disch := first | omega | (simp only [lnx]; omega)) only [stdh, stdx, ↓reduceIte, seval]
  exact ice_none trivial h
 by_cases h2 : v = 2
 ·rw [if_neg (by omega)] at h
  have hd : decide (v = 2) = true := decide_eq_true h2
  simp (disch := first | omega | (simp only [lnx]; omega)) only [stdh, stdx, ↓reduceIte, seval, body_check, body_check.body, encM, h1, hd]
  refine callK_fn (check_ok _ m hm _ ?_)
  refine runL_V 60 ?_
  simp (disch := first | omega | (simp only [lnx]; omega)) only [stdh, stdx, ↓reduceIte, seval]
  exact ice_none trivial h
 ·rw [if_pos ⟨h1, h2⟩] at h
  simp (disch := first | omega | (simp only [lnx]; omega)) only [stdh, stdx, ↓reduceIte, seval, body_check, body_check.body, encM, h1, h2]
  exact ice_none trivial h
def Fld.ok5 (f : Fld) : Prop := (f.sort = 1 → 0 ≤ f.least ∧ f.most ≤ 1000000) ∧ (f.sort = 2 → f.least = -1000000 ∧ f.most = 1000000)
instance (f : Fld) : Decidable f.ok5 := by unfold Fld.ok5; infer_instance
theorem fieldsOf_ok5 {k : Int} : ∀ f ∈ fieldsOf k, f.ok5 := by
 unfold fieldsOf
 split
 ·decide +kernel
 split
 ·decide +kernel
 split
 ·decide +kernel
 split
 ·decide +kernel
 split
 ·decide +kernel
 ·simp
theorem rpath_zero {l : List (Int × Int)} (h : rpathE l = 0) : 1 ≤ l.length ∧ l.length ≤ 16 ∧ l.any farP = false := by
 unfold rpathE at h
 repeat' split at h
 all_goals first | omega | skip
 rename_i h1 h2 h3
 exact ⟨by omega, by omega, by simpa using h3⟩
theorem rcells_zero {l : List Int} (h : rcellsE l = 0) : 1 ≤ l.length ∧ l.length ≤ 32 ∧ cellsGo (-1) l = 0 := by
 unfold rcellsE at h
 by_cases h1 : l.length = 0
 ·rw [if_pos h1] at h; omega
 rw [if_neg h1] at h
 by_cases h2 : 32 < l.length
 ·rw [if_pos h2] at h; omega
 rw [if_neg h2] at h
 exact ⟨by omega, by omega, h⟩
theorem rtext_zero {s : ByteArray} {most : Int} (h : rtextE s most = 0) : (s.size : Int) ≤ most ∧ (bytesOf s).any badB = false := by
 unfold rtextE at h
 by_cases h1 : most < (s.size : Int)
 ·rw [if_pos h1] at h; omega
 rw [if_neg h1] at h
 refine ⟨by omega, ?_⟩
 cases hb : (bytesOf s).any badB with
 | false => rfl
 | true => rw [hb] at h; simp at h
theorem fits_of {m : Mg} {f : Fld} (hf : f ∈ fieldsOf m.k) (hm : m.fine) (h : rwrongE m f = 0) : Fits192 m f := by
 have h3 := fieldsOf_ok3 f hf
 obtain ⟨h5, h6⟩ := fieldsOf_ok5 f hf
 unfold rwrongE at h
 have num : f.sort = 1 ∨ f.sort = 2 → f.least ≤ m.num f.place ∧ m.num f.place ≤ f.most := fun hs => by
  rw [if_neg (by omega), if_neg (by omega), if_neg (by omega), if_neg (by omega)] at h
  split at h <;> omega
 refine ⟨fun s => ?_, fun s => ?_, fun s => ?_, fun s => ?_, fun s => ?_, fun s => ?_⟩
 ·have := num (.inl s); have := h5 s; omega
 ·have := num (.inr s); have := h6 s; exact ⟨by omega, by omega⟩
 ·rw [if_pos s] at h; have := rpath_zero h; exact ⟨this.2.1, this.2.2⟩
 ·rw [if_neg (by omega), if_pos s] at h; have := rcells_zero h; exact ⟨this.2.1, this.2.2⟩
 ·rw [if_neg (by omega), if_neg (by omega), if_pos s] at h; have := rtext_zero h; omega
 ·rw [if_neg (by omega), if_neg (by omega), if_neg (by omega), if_pos s] at h; have := rtext_zero h; omega
def partFields (m : Mg) (v : Int) : List Fld := if bcheckE m v = 0 then versionFields m.k v else []
def partArgs (m : Mg) (L : List Fld) (j : Nat) : List AVal := [.str (L.getD j fld0).name, nums .u8 false (partB m (L.getD j fld0))]
theorem bcheck_zero {m : Mg} {v : Int} (h : bcheckE m v = 0) : (v = 1 ∨ v = 2) ∧ checkM m = 0 := by
 unfold bcheckE at h
 split at h
 ·omega
 ·exact ⟨by omega, h⟩
set_option maxHeartbeats 2000000 in
theorem parts1_iter {H : AHeap} {n : Nat} {m : Mg} {v : Int} (hm : m.fine) : Iter Try.prog F.body_Parts_1 [.yld n, cellN (encM m), cell (.int .i64 v)] n (partArgs m (partFields m v)) (partFields m v).length [] H := by
 intro I hI fp hi hown
 refine fun_V 100 body_Parts_1_code rfl ?_
 have hyc : (AVal.yld n).cells = [AVal.yld n] := rfl
 have hyc2 : (AVal.yld n).cellish = true := rfl
 simp (disch := first | omega | (simp only [lnx]; omega)) only [stdh, stdx, ↓reduceIte, seval, body_Parts_1, body_Parts_1.body, cellN, encM, load_imm, load_immN, hyc, hyc2]
 have hi1 : I true 0 fp (H ++ [ABlk.cells [AVal.yld n] T.func_string_sl_uint8_bool]) := (hI.foot true 0).stable _ _ _ hi (by simp) fun m hm => List.getElem?_append_left ((hI.foot true 0).lt _ _ hi m hm)
 have hfl := (hI.foot true 0).lt _ _ hi
 have hk2 := keeps_append H [ABlk.cells [AVal.yld n] T.func_string_sl_uint8_bool]
 have hl2 : (H ++ [ABlk.cells [AVal.yld n] T.func_string_sl_uint8_bool]).length = H.length + 1 := by simp
 have g0 : (H ++ [ABlk.cells [AVal.yld n] T.func_string_sl_uint8_bool])[H.length]? = some (.cells [.yld n] T.func_string_sl_uint8_bool) := at_0
 generalize H ++ [ABlk.cells [AVal.yld n] T.func_string_sl_uint8_bool] = H2 at *
 refine callK_fn (bcheck_ok _ m v hm _ ?_)
 refine runL_V 60 ?_
 by_cases hc : bcheckE m v = 0
 case neg =>
  have e0 : partFields m v = [] := by rw [partFields, if_neg hc]
  rw [e0]
  simp (disch := first | omega | (simp only [lnx]; omega)) only [stdh, stdx, ↓reduceIte, seval, hc]
  exact ⟨true, 0, fp, fun x h1 h2 => hk2.2 x h1, fun _ => rfl, hi1⟩
 have e0 : partFields m v = versionFields m.k v := by rw [partFields, if_pos hc]
 obtain ⟨hv, hchk⟩ := bcheck_zero hc
 obtain ⟨z1, z2, z3⟩ := (checkM_zero m).1 hchk
 rw [e0] at hI ⊢
 simp (disch := first | omega | (simp only [lnx]; omega)) only [stdh, stdx, ↓reduceIte, seval, hc, load_imm]
 refine callK_fn (fall_ok _ _ _ _ ?_)
 refine runL_V 60 ?_
 simp (disch := first | omega | (simp only [lnx]; omega)) only [stdh, stdx, ↓reduceIte, seval]
 refine range_of (g := F.field_All_1) (first := []) (captured := [cell (.int .i64 m.k), cell (.int .i64 v)]) rfl (by intro n hn; cases hn) (item := fldArgs (versionFields m.k v)) (len := (versionFields m.k v).length) (fun j => rfl)
  (relayJ I [H.length] H2 id) (relayS I [H.length] H2 (.exit 0)) (relayJ_foot hI _ _ _) (relayS_foot hI _ _ _) (fp0 := [H.length] ++ fp) ⟨fp, rfl, fun x hx => ?_, Nat.le_refl _, hi1⟩ ?_ [] (by simp) (fun _ _ _ => fall1_iter) ?_ ?_
 ·simp only [List.mem_singleton] at hx
  subst hx
  exact ⟨fun hh => by have := hfl _ hh; omega, by omega, rfl⟩
 ·rintro as' bd' j fp' H1 hj hn hl hrec ⟨fpI, rfl, hc1, hc2, hi'⟩
  have hn' := hn
  simp only [List.mem_append, not_or, List.mem_singleton] at hn'
  have q0 := (hc1 H.length (by simp)).2.2.trans g0
  rw [id] at hi'
  have hmem : (versionFields m.k v).getD j fld0 ∈ fieldsOf m.k := (List.mem_filter.1 (getD_mem hj)).1
  have hok := fieldsOf_ok3 _ hmem
  have hfit := fits_of hmem hm (z2 _ hmem)
  have hargs : partArgs m (versionFields m.k v) j = [.str ((versionFields m.k v).getD j fld0).name, nums .u8 false (partB m ((versionFields m.k v).getD j fld0))] := rfl
  have hfa : fldArgs (versionFields m.k v) j = [.agg (encF ((versionFields m.k v).getD j fld0))] := rfl
  have hstep := fun {b : ABlk} {L : AHeap} => relay_step (b := b) (L := L) hI (ks := [H.length]) (H0 := H2) hj (l := H2.length) (by omega) (Nat.le_refl _) hn'.2 hc1 hi'
  rw [hargs] at hstep
  rw [hfa]
  generalize (versionFields m.k v).getD j fld0 = x at *
  refine run_V0 60 ?_
  simp (disch := first | omega | (simp only [lnx]; omega)) only [stdh, stdx, ↓reduceIte, seval, body_Parts_1.a1, body_Parts_1.b1, body_Parts_1.d0, hrec, q0, encF, List.zip_cons_cons, List.zip_nil_left, List.reverse_cons, List.reverse_nil, List.getElem?_set_self, List.getElem?_set_ne, at_low, set_low, at_0s, at_ks, load_immN]
  refine callD_fn (part_ok _ m x hok hfit _ ?_)
  refine ⟨by simp (disch := first | omega | (simp only [lnx]; omega)) only [stdh, stdx, ↓reduceIte, seval, q0, List.getElem?_set_ne, at_low, at_0s, encF], ?_⟩
  refine runD_V 60 ?_
  simp (disch := first | omega | (simp only [lnx]; omega)) only [stdh, stdx, ↓reduceIte, seval]
  refine CallV.mono hstep fun av H' hh => ?_
  obtain ⟨fp', hr, hh⟩ := hh
  refine ⟨by simp (disch := first | omega | (simp only [lnx]; omega)) only [stdh, stdx, ↓reduceIte, seval], ?_⟩
  refine runD_V 60 ?_
  rcases hh with ⟨rfl, hi'⟩ | ⟨rfl, hi'⟩
  ·simp (disch := first | omega | (simp only [lnx]; omega)) only [stdh, stdx, ↓reduceIte, seval]
   refine round_fin (n := H2.length) rfl hr.loop ?_
   exact relay_next hr (Nat.le_refl _) hi'
  ·simp (disch := first | omega | (simp only [lnx]; omega)) only [stdh, stdx, ↓reduceIte, seval]
   refine exit_fin (n := H2.length) rfl hr.loop ?_
   exact relay_stop hr (Nat.le_refl _) hi'
 ·rintro fp' H' hl hk ⟨fpI, rfl, hc1, hc2, hi'⟩
  refine run_V0 60 ?_
  simp (disch := first | omega | (simp only [lnx]; omega)) only [stdh, stdx, ↓reduceIte, seval]
  refine run_fin rfl rfl trivial ?_
  refine ⟨true, _, fpI, by omega, fun m hm hf => ?_, fun _ => rfl, hi'⟩
  rw [hk m (by omega) (by simp only [List.mem_append, List.mem_singleton, not_or]; exact ⟨by omega, hf⟩), hk2.2 m hm]
 ·rintro ap j fp' H' hl hk ⟨rfl, k, fpI, rfl, hc1, hc2, hi'⟩
  refine run_V0 60 ?_
  simp (disch := first | omega | (simp only [lnx]; omega)) only [stdh, stdx, ↓reduceIte, seval, jumpItems]
  refine run_fin rfl rfl trivial ?_
  refine ⟨false, _, fpI, by omega, fun m hm hf => ?_, (fun h => by cases h), hi'⟩
  rw [hk m (by omega) (by simp only [List.mem_append, List.mem_singleton, not_or]; exact ⟨by omega, hf⟩), hk2.2 m hm]
end Go.Proofs.Ytiepeiconkjmeaa

namespace Go.Proofs.Ytiepeiconkjmeaa
open Go Go.Am
end Go.Proofs.Ytiepeiconkjmeaa

namespace Go.Proofs.Ytiepeiconkjmeaa
open Go Go.Am
end Go.Proofs.Ytiepeiconkjmeaa

namespace Go.Proofs.Ytiepeiconkjmeaa
open Go Go.Am
theorem parts_ok (H : AHeap) (m : Mg) (v : Int) (Q : AVal → AHeap → Prop) (h : Q (.fn F.body_Parts_1 [] [cellN (encM m), cell (.int .i64 v)]) H) : FunOK Try.prog F.body_Parts [.agg (encM m), .int .i64 v] H Q := by
 refine fun_iced body_Parts_code fun _ => ?_
 refine fun_V 40 body_Parts_code rfl ?_
 simp (disch := first | omega | (simp only [lnx]; omega)) only [stdh, stdx, ↓reduceIte, seval, body_Parts, body_Parts.body, encM]
 refine ⟨keeps_append _ _, [(H.length, encM m), (H.length + 1, [.int .i64 v])], .fn F.body_Parts_1 [] [cellN (encM m), cell (.int .i64 v)], ?_, ?_, h⟩
 ·intro p hp
  simp only [List.mem_cons, List.not_mem_nil, or_false] at hp
  rcases hp with rfl | rfl
  ·refine ⟨encM m, by rw [at_0]; rfl, (mvs_id (L := H.length) (fun _ h => toF_low h) _ (closeds_encM m)).symm, colds_of (L := H.length) (fun _ h => toF_low h) _ (closeds_encM m)⟩
  ·refine ⟨[.int .i64 v], by rw [at_k]; rfl, rfl, ⟨trivial, trivial⟩⟩
 ·have e1 : toF H.length [] [(H.length, encM m), (H.length + 1, [.int .i64 v])] H.length = .ice (encM m) := by
   unfold toF; rw [if_neg (by omega)]; simp [findN, findI]
  have e2 : toF H.length [] [(H.length, encM m), (H.length + 1, [.int .i64 v])] (H.length + 1) = .ice [.int .i64 v] := by
   unfold toF; rw [if_neg (by omega)]; simp [findN, findI]
  simp only [mv, mvs, e1, e2, mvPtr]
  exact Sees.refl _
def bodyB (m : Mg) (L : List Fld) : List Nat := L.flatMap (partB m)
def encB (m : Mg) (v : Int) : List Nat := bodyB m (partFields m v)
theorem bodyB_step (m : Mg) {L : List Fld} {j : Nat} (hj : j < L.length) : bodyB m (L.take (j + 1)) = bodyB m (L.take j) ++ partB m (L.getD j fld0) := by
 rw [bodyB, bodyB, List.take_add_one, List.flatMap_append]
 simp [hj]
theorem partFields_mem {m : Mg} {v : Int} {f : Fld} (h : f ∈ partFields m v) : f ∈ fieldsOf m.k ∧ checkM m = 0 := by
 unfold partFields at h
 split at h
 ·rename_i hb
  exact ⟨(List.mem_filter.1 h).1, (bcheck_zero hb).2⟩
 ·simp at h
theorem partFields_len (m : Mg) (v : Int) : (partFields m v).length ≤ 6 := by
 unfold partFields
 split
 ·exact Nat.le_trans (List.length_filter_le _ _) (fieldsOf_len m.k)
 ·simp
theorem part_short {m : Mg} {v : Int} (hm : m.fine) {f : Fld} (h : f ∈ partFields m v) : (partB m f).length ≤ 192 := by
 obtain ⟨h1, h2⟩ := partFields_mem h
 exact partB_len (fieldsOf_ok3 f h1) (fits_of h1 hm (((checkM_zero m).1 h2).2.1 f h1))
theorem bodyB_len {m : Mg} {v : Int} (hm : m.fine) : ∀ j, j ≤ (partFields m v).length → (bodyB m ((partFields m v).take j)).length ≤ 192 * j
 | 0, _ => by simp [bodyB]
 | j + 1, hj => by
  have ih := bodyB_len (v := v) hm j (by omega)
  have := part_short (v := v) hm (getD_mem (show j < (partFields m v).length by omega))
  rw [bodyB_step m (by omega), List.length_append]; omega
def bytesAcc (c B : Nat) (m : Mg) (L : List Fld) : Acc := ⟨c, T.sl_uint8, 1, T.uint8, B, fun j => (bodyB m (L.take j)).length, fun j => u8s (bodyB m (L.take j))⟩
theorem u8s_append (a b : List Nat) : u8s (a ++ b) = u8s a ++ u8s b := by simp [u8s]
theorem u8s_cell (xs : List Nat) : (u8s xs).all AVal.cellish = true := by simp [u8s, AVal.cellish]
set_option maxHeartbeats 2000000 in
theorem encode_ok (H : AHeap) (m : Mg) (v : Int) (hm : m.fine) (Q : AVal → AHeap → Prop) (h : Q (.tup [nums .u8 false (encB m v), .int .i64 (bcheckE m v)]) H) : FunOK Try.prog F.body_Encode [.agg (encM m), .int .i64 v] H Q := by
 refine fun_iced body_Encode_code fun hcl => ?_
 refine fun_V 60 body_Encode_code rfl ?_
 simp (disch := first | omega | (simp only [lnx]; omega)) only [stdh, stdx, ↓reduceIte, seval, body_Encode, body_Encode.body, encM]
 refine callK_fn (bcheck_ok _ m v hm _ ?_)
 refine runL_V 60 ?_
 by_cases hc : bcheckE m v = 0
 case neg =>
  have e0 : encB m v = [] := by rw [encB, partFields, if_neg hc]; rfl
  rw [e0] at h
  simp (disch := first | omega | (simp only [lnx]; omega)) only [stdh, stdx, ↓reduceIte, seval, hc]
  exact ice_sees ⟨trivial, trivial, trivial⟩ (Sees.tup (.cons (Sees.nils false) (.cons (.refl _) .nil))) h
 rw [hc] at h
 simp (disch := first | omega | (simp only [lnx]; omega)) only [stdh, stdx, ↓reduceIte, seval, hc]
 refine callK_fn (parts_ok _ m v _ ?_)
 refine runL_V 60 ?_
 simp (disch := first | omega | (simp only [lnx]; omega)) only [stdh, stdx, ↓reduceIte, seval]
 have hlen := partFields_len m v
 have hbl := bodyB_len (v := v) hm
 have hps := fun f hf => part_short (v := v) hm (f := f) hf
 have hit := fun (H1 : AHeap) (n : Nat) => @parts1_iter H1 n m v hm
 have hfin : encB m v = bodyB m ((partFields m v).take (partFields m v).length) := by rw [List.take_length]; rfl
 generalize partFields m v = L at *
 have g1 : (H ++ [ABlk.cells [AVal.int IntKind.i64 m.k, AVal.int IntKind.i64 m.n0, AVal.int IntKind.i64 m.n1, AVal.int IntKind.i64 m.n2, AVal.int IntKind.i64 m.n3, AVal.int IntKind.i64 m.n4, AVal.int IntKind.i64 m.n5, recs encP false m.p, ints false m.c, AVal.str m.t, AVal.str m.g] T.msg_Msg, ABlk.cells [AVal.nils] T.sl_uint8])[H.length + 1]? = some (.cells [.nils] T.sl_uint8) := at_k
 have hk2 := keeps_append H [ABlk.cells [AVal.int IntKind.i64 m.k, AVal.int IntKind.i64 m.n0, AVal.int IntKind.i64 m.n1, AVal.int IntKind.i64 m.n2, AVal.int IntKind.i64 m.n3, AVal.int IntKind.i64 m.n4, AVal.int IntKind.i64 m.n5, recs encP false m.p, ints false m.c, AVal.str m.t, AVal.str m.g] T.msg_Msg, ABlk.cells [AVal.nils] T.sl_uint8]
 have hl2 : (H ++ [ABlk.cells [AVal.int IntKind.i64 m.k, AVal.int IntKind.i64 m.n0, AVal.int IntKind.i64 m.n1, AVal.int IntKind.i64 m.n2, AVal.int IntKind.i64 m.n3, AVal.int IntKind.i64 m.n4, AVal.int IntKind.i64 m.n5, recs encP false m.p, ints false m.c, AVal.str m.t, AVal.str m.g] T.msg_Msg, ABlk.cells [AVal.nils] T.sl_uint8]).length = H.length + 2 := by simp
 generalize H ++ [ABlk.cells [AVal.int IntKind.i64 m.k, AVal.int IntKind.i64 m.n0, AVal.int IntKind.i64 m.n1, AVal.int IntKind.i64 m.n2, AVal.int IntKind.i64 m.n3, AVal.int IntKind.i64 m.n4, AVal.int IntKind.i64 m.n5, recs encP false m.p, ints false m.c, AVal.str m.t, AVal.str m.g] T.msg_Msg, ABlk.cells [AVal.nils] T.sl_uint8] = H2 at *
 refine range_acc (g := F.body_Parts_1) (first := []) (captured := [cellN (encM m), cell (.int .i64 v)]) rfl (by intro n hn; cases hn) (item := partArgs m L) (len := L.length) (fun j => rfl) [] (bytesAcc (H.length + 1) H.length m L) (fun _ => none) (a0 := .nils) vars_nil ⟨g1, Own.nil⟩ ?_ (fun _ _ _ => hit _ _) ?_ (fun _ _ _ _ _ _ _ hh => by cases hh)
 ·intro a' b' j H1 a hj _ hl hkp hrec _ ha
  have q1 : H1[H.length + 1]? = some (.cells [a] T.sl_uint8) := ha.1
  have o1 : Own 1 T.uint8 H.length H1 a (bodyB m (L.take j)).length (u8s (bodyB m (L.take j))) := ha.2
  have hst := bodyB_step m hj
  have hb := hbl j (by omega)
  have hp := hps _ (getD_mem hj)
  have hitem : partArgs m L j = [.str (L.getD j fld0).name, nums .u8 false (partB m (L.getD j fld0))] := rfl
  rw [hitem]
  generalize L.getD j fld0 = x at *
  refine run_V0 60 ?_
  simp (disch := first | omega | (simp only [lnx]; omega)) only [stdh, stdx, ↓reduceIte, seval, body_Encode.a0, body_Encode.b0, hrec, q1, List.zip_cons_cons, List.zip_nil_left, List.reverse_cons, List.reverse_nil, List.getElem?_set_self, List.getElem?_set_ne, at_low]
  have hrn := o1.ne_loop hrec
  refine resK_append (k := (partB m x).length) (ys := u8s (partB m x)) ((o1.moved fun m hm => ?_)) (by (first | omega | (simp only [lnx]; omega))) rfl rfl (by simp [u8s]) (by omega) (by omega) (by omega) (u8s_cell _) fun w H3 ov ht hn => ?_
  ·have hlt := (o1.lt m hm).2
   have hmn : H2.length ≠ m := by rintro rfl; exact hrn hm
   simp (disch := first | omega | (simp only [lnx]; omega)) only [List.getElem?_append_left, List.getElem?_set_ne, List.getElem?_set_self, at_0, at_k, List.getElem?_cons_zero, List.getElem?_cons_succ, List.length_append, List.length_set, List.length_cons, List.length_nil, ne_eq, not_false_eq_true, Nat.zero_add]
  have hH2 := ht.le
  simp only [List.length_append, List.length_set, List.length_cons, List.length_nil] at hH2
  have hc1 : H3[H.length + 1]? = some (.cells [a] T.sl_uint8) := by
   rw [ht.kept (H.length + 1) (by (first | omega | (simp only [lnx]; omega))) (o1.ne q1)]; simp (disch := first | omega | (simp only [lnx]; omega)) only [List.getElem?_append_left, List.getElem?_set_ne, List.getElem?_set_self, at_0, at_k, List.getElem?_cons_zero, List.getElem?_cons_succ, List.length_append, List.length_set, List.length_cons, List.length_nil, ne_eq, not_false_eq_true, Nat.zero_add]; exact q1
  have hcl := ov.cell
  have hr2 := ht.kept H2.length (by (first | omega | (simp only [lnx]; omega))) hrn
  simp (disch := first | omega | (simp only [lnx]; omega)) only [List.getElem?_append_left, List.getElem?_set_ne, List.getElem?_set_self, at_0, at_k, List.getElem?_cons_zero, List.getElem?_cons_succ, List.length_append, List.length_set, List.length_cons, List.length_nil, ne_eq, not_false_eq_true, Nat.zero_add] at hr2
  simp (disch := first | omega | (simp only [lnx]; omega)) only [stdh, stdx, ↓reduceIte, seval, hc1, hcl.1, hcl.2]
  refine round_fin (n := H2.length) rfl (by rw [List.getElem?_set_ne (by omega)]; exact hr2) ?_
  refine ⟨by (first | omega | (simp only [lnx]; omega)), fun m m1 m2 m3 m4 m5 => ?_, vars_nil, ⟨w, ⟨?_, ?_⟩, fun m hm => .inr ?_⟩, rfl, ?_⟩
  ·have m4' : m ≠ H.length + 1 := m4
   rw [List.getElem?_set_ne (by omega), List.getElem?_set_ne (by omega), ht.kept m (by (first | omega | (simp only [lnx]; omega))) m5]; simp (disch := first | omega | (simp only [lnx]; omega)) only [List.getElem?_append_left, List.getElem?_set_ne, List.getElem?_set_self, at_0, at_k, List.getElem?_cons_zero, List.getElem?_cons_succ, List.length_append, List.length_set, List.length_cons, List.length_nil, ne_eq, not_false_eq_true, Nat.zero_add]
  ·show (List.set (List.set H3 (H.length + 1) _) H2.length _)[H.length + 1]? = _
   rw [List.getElem?_set_ne (by omega), List.getElem?_set_self (by omega)]; rfl
  ·show Own 1 T.uint8 H.length _ w (bodyB m (L.take (j + 1))).length (u8s (bodyB m (L.take (j + 1))))
   rw [hst, u8s_append, List.length_append]
   refine ov.moved fun m hm => ?_
   have := hn m hm
   simp only [List.length_append, List.length_set, List.length_cons, List.length_nil] at this
   rw [List.getElem?_set_ne (by omega), List.getElem?_set_ne (by omega)]
  ·have := hn m hm
   simp only [List.length_append, List.length_set, List.length_cons, List.length_nil] at this; omega
  ·rw [List.getElem?_set_self (by (first | omega | (simp only [lnx]; omega)))]; rfl
 intro H' a hl hkp _ _ ha
 have q1 : H'[H.length + 1]? = some (.cells [a] T.sl_uint8) := ha.1
 have o1 : Own 1 T.uint8 H.length H' a (bodyB m (L.take L.length)).length (u8s (bodyB m (L.take L.length))) := ha.2
 rw [← hfin] at o1
 have hk3 : Keeps H H' := ⟨by omega, fun n hn => (hkp n (by omega) (by simp) (by show n ≠ H.length + 1; omega) (by simp [AVal.names])).trans (hk2.2 n hn)⟩
 refine run_V0 60 ?_
 simp (disch := first | omega | (simp only [lnx]; omega)) only [stdh, stdx, ↓reduceIte, seval, q1]
 refine ice_tup [(a, nums .u8 false (encB m v)), (.int .i64 0, .int .i64 0)] hk3 ?_ h
 intro q hq
 simp only [List.mem_cons, List.not_mem_nil, or_false] at hq
 rcases hq with rfl | rfl
 ·exact Fin.own o1 (by exact closed_nums (L := H.length) .u8 false (encB m v))
 ·exact Fin.same trivial
set_option maxHeartbeats 2000000 in
theorem bsize_ok (H : AHeap) (m : Mg) (v : Int) (hm : m.fine) (Q : AVal → AHeap → Prop) (h : Q (.int .i64 ((encB m v).length : Nat)) H) : FunOK Try.prog F.body_Size [.agg (encM m), .int .i64 v] H Q := by
 refine fun_iced body_Size_code fun hcl => ?_
 refine fun_V 60 body_Size_code rfl ?_
 simp (disch := first | omega | (simp only [lnx]; omega)) only [stdh, stdx, ↓reduceIte, seval, body_Size, body_Size.body, encM]
 refine callK_fn (parts_ok _ m v _ ?_)
 refine runL_V 60 ?_
 simp (disch := first | omega | (simp only [lnx]; omega)) only [stdh, stdx, ↓reduceIte, seval]
 have hlen := partFields_len m v
 have hbl := bodyB_len (v := v) hm
 have hps := fun f hf => part_short (v := v) hm (f := f) hf
 have hit := fun (H1 : AHeap) (n : Nat) => @parts1_iter H1 n m v hm
 have hfin : encB m v = bodyB m ((partFields m v).take (partFields m v).length) := by rw [List.take_length]; rfl
 generalize partFields m v = L at *
 have g1 : (H ++ [ABlk.cells [AVal.int IntKind.i64 m.k, AVal.int IntKind.i64 m.n0, AVal.int IntKind.i64 m.n1, AVal.int IntKind.i64 m.n2, AVal.int IntKind.i64 m.n3, AVal.int IntKind.i64 m.n4, AVal.int IntKind.i64 m.n5, recs encP false m.p, ints false m.c, AVal.str m.t, AVal.str m.g] T.msg_Msg, ABlk.cells [AVal.int IntKind.i64 0] T.int])[H.length + 1]? = some (.cells [.int .i64 ((bodyB m (L.take 0)).length : Nat)] T.int) := at_k
 have hk2 := keeps_append H [ABlk.cells [AVal.int IntKind.i64 m.k, AVal.int IntKind.i64 m.n0, AVal.int IntKind.i64 m.n1, AVal.int IntKind.i64 m.n2, AVal.int IntKind.i64 m.n3, AVal.int IntKind.i64 m.n4, AVal.int IntKind.i64 m.n5, recs encP false m.p, ints false m.c, AVal.str m.t, AVal.str m.g] T.msg_Msg, ABlk.cells [AVal.int IntKind.i64 0] T.int]
 have hl2 : (H ++ [ABlk.cells [AVal.int IntKind.i64 m.k, AVal.int IntKind.i64 m.n0, AVal.int IntKind.i64 m.n1, AVal.int IntKind.i64 m.n2, AVal.int IntKind.i64 m.n3, AVal.int IntKind.i64 m.n4, AVal.int IntKind.i64 m.n5, recs encP false m.p, ints false m.c, AVal.str m.t, AVal.str m.g] T.msg_Msg, ABlk.cells [AVal.int IntKind.i64 0] T.int]).length = H.length + 2 := by simp
 generalize H ++ [ABlk.cells [AVal.int IntKind.i64 m.k, AVal.int IntKind.i64 m.n0, AVal.int IntKind.i64 m.n1, AVal.int IntKind.i64 m.n2, AVal.int IntKind.i64 m.n3, AVal.int IntKind.i64 m.n4, AVal.int IntKind.i64 m.n5, recs encP false m.p, ints false m.c, AVal.str m.t, AVal.str m.g] T.msg_Msg, ABlk.cells [AVal.int IntKind.i64 0] T.int] = H2 at *
 refine range_vars (g := F.body_Parts_1) (first := []) (captured := [cellN (encM m), cell (.int .i64 v)]) rfl (by intro n hn; cases hn) (item := partArgs m L) (len := L.length) (fun j => rfl) [(H.length + 1, T.int, fun j => .int .i64 ((bodyB m (L.take j)).length : Nat))] (fun _ => none) (vars_cons g1 vars_nil) ?_ (fun _ _ _ => hit _ _) ?_ (fun _ _ _ _ _ _ hh => by cases hh)
 ·intro a' b' j H1 hj _ hl hkp hrec hv
  have q1 := hv.get (c := H.length + 1) (T := T.int) (f := fun j => .int .i64 ((bodyB m (L.take j)).length : Nat)) (by simp)
  have hst := bodyB_step m hj
  have hb := hbl j (by omega)
  have hp := hps _ (getD_mem hj)
  have hitem : partArgs m L j = [.str (L.getD j fld0).name, nums .u8 false (partB m (L.getD j fld0))] := rfl
  rw [hitem]
  generalize L.getD j fld0 = x at *
  refine run_V0 60 ?_
  simp (disch := first | omega | (simp only [lnx]; omega)) only [stdh, stdx, ↓reduceIte, seval, body_Size.a0, body_Size.b0, hrec, q1, List.zip_cons_cons, List.zip_nil_left, List.reverse_cons, List.reverse_nil, List.getElem?_set_self, List.getElem?_set_ne, at_low]
  refine round_fin (n := H2.length) (L := lrec _ _ _ a' b' .busy none) rfl (by simp (disch := first | omega | (simp only [lnx]; omega)) only [List.getElem?_set_ne, List.getElem?_set_self, List.length_set, ne_eq, not_false_eq_true]; rfl) ?_
  refine varsQ_mk rfl (by (first | omega | (simp only [lnx]; omega))) (fun m m1 m2 m3 => ?_) (vars_cons ?_ vars_nil) (by simp (disch := first | omega | (simp only [lnx]; omega)) only [List.getElem?_set_ne, List.getElem?_set_self, List.length_set, ne_eq, not_false_eq_true]; rfl)
  ·simp only [List.map_cons, List.map_nil, List.mem_cons, List.not_mem_nil, or_false] at m3
   simp (disch := first | omega | (simp only [lnx]; omega)) only [List.getElem?_set_ne, List.getElem?_set_self, List.length_set, ne_eq, not_false_eq_true]
  ·show _ = some (ABlk.cells [AVal.int .i64 ((bodyB m (L.take (j + 1))).length : Nat)] T.int)
   rw [hst, List.length_append]
   simp (disch := first | omega | (simp only [lnx]; omega)) only [List.getElem?_set_ne, List.getElem?_set_self, List.length_set, ne_eq, not_false_eq_true]
   simp
 intro H' hl hkp _ hv
 have q1 := hv.get (c := H.length + 1) (T := T.int) (f := fun j => .int .i64 ((bodyB m (L.take j)).length : Nat)) (by simp)
 rw [← hfin] at q1
 have hk3 : Keeps H H' := ⟨by omega, fun n hn => (hkp n (by omega) (by simp; omega)).trans (hk2.2 n hn)⟩
 refine run_V0 60 ?_
 simp (disch := first | omega | (simp only [lnx]; omega)) only [stdh, stdx, ↓reduceIte, seval, q1]
 exact ice_keeps hk3 trivial h
structure RD where
 a : Nat
 e : Nat
 w : Nat
section
variable {H : AHeap} {q p : Nat} {ys : List Nat} {s : RD}
end
end Go.Proofs.Ytiepeiconkjmeaa

namespace Go.Proofs.Ytiepeiconkjmeaa
open Go Go.Am
end Go.Proofs.Ytiepeiconkjmeaa

namespace Go.Proofs.Ytiepeiconkjmeaa
open Go Go.Am
end Go.Proofs.Ytiepeiconkjmeaa

namespace Go.Proofs.Ytiepeiconkjmeaa
open Go Go.Am
def Fld.ok6 (f : Fld) : Prop := 0 ≤ f.most ∧ f.most ≤ 1000000 ∧ -1000000 ≤ f.least ∧ f.least ≤ 1000000
instance (f : Fld) : Decidable f.ok6 := by unfold Fld.ok6; infer_instance
theorem fieldsOf_ok6 {k : Int} : ∀ f ∈ fieldsOf k, f.ok6 := by
 unfold fieldsOf
 split
 ·decide +kernel
 split
 ·decide +kernel
 split
 ·decide +kernel
 split
 ·decide +kernel
 split
 ·decide +kernel
 ·simp
end Go.Proofs.Ytiepeiconkjmeaa

namespace Go.Proofs.Ytiepeiconkjmeaa
open Go Go.Am
end Go.Proofs.Ytiepeiconkjmeaa

namespace Go.Proofs.Ytiepeiconkjmeaa
open Go Go.Am
end Go.Proofs.Ytiepeiconkjmeaa

namespace Go.Proofs.Ytiepeiconkjmeaa
open Go Go.Am
end Go.Proofs.Ytiepeiconkjmeaa

namespace Go.Proofs.Ytiepeiconkjmeaa
open Go Go.Am
end Go.Proofs.Ytiepeiconkjmeaa

namespace Go.Proofs.Ytiepeiconkjmeaa
open Go Go.Am
theorem encB_eq {m : Mg} {v : Int} (h : checkM m = 0) (hv : v = 1 ∨ v = 2) : encB m v = bodyB m (versionFields m.k v) := by
 rw [encB, partFields, if_pos (by rw [bcheckE, if_neg (by omega), h])]
def in64 (x : Int) : Prop := -9223372036854775808 ≤ x ∧ x ≤ 9223372036854775807
theorem wf_i64 {z : Int} (wz : (Lit.int .i64 z).wf = true) : in64 z := by
 simp only [Lit.wf, Bool.and_eq_true, decide_eq_true_eq, IntKind.min, IntKind.max, IntKind.signed, IntKind.bits] at wz
 simp at wz
 exact ⟨by omega, by omega⟩
theorem slice_one2 {s : Sh} {l : List AVal} (h : Fits (.slice s) l) : ∃ p : AVal, l = [p] ∧ Fits (.slice s) [p] := by
 rcases h with rfl | ⟨gs, t, hg, rfl, hl⟩
 ·exact ⟨_, rfl, .inl rfl⟩
 ·exact ⟨_, rfl, .inr ⟨gs, t, hg, rfl, hl⟩⟩
theorem ints_fits2 {a : AVal} (h : Fits (.slice (.int .i64)) [a]) : ∃ zs : List Int, Sees a (ints false zs) ∧ (∀ z ∈ zs, in64 z) ∧ zs.length ≤ 9223372036854775807 := by
 rcases h with h | ⟨gs, t, hg, h, hl⟩
 ·cases h
  exact ⟨[], Sees.nils false, by simp, by simp⟩
 ·cases h
  have : ∃ zs : List Int, gs = zs.map (fun z => [AVal.int .i64 z]) ∧ ∀ z ∈ zs, in64 z := by
   clear hl
   induction gs with
   | nil => exact ⟨[], rfl, by simp⟩
   | cons g gs ih =>
    obtain ⟨zs, rfl, hz⟩ := ih fun x hx => hg x (by simp [hx])
    obtain ⟨z, rfl, hw⟩ := hg g (by simp)
    refine ⟨z :: zs, rfl, fun y hy => ?_⟩
    rcases List.mem_cons.1 hy with rfl | hy
    ·exact wf_i64 hw
    ·exact hz y hy
  obtain ⟨zs, rfl, hz⟩ := this
  refine ⟨zs, ?_, hz, by simpa using hl⟩
  have e : (zs.map fun z => [AVal.int .i64 z]).flatten = zs.map fun z : Int => AVal.int .i64 z := by
   clear hl hg hz
   induction zs with
   | nil => rfl
   | cons z zs ih => simp only [List.map_cons, List.flatten_cons, ih]; rfl
  rw [e]
  have : ints false zs = .imm (zs.map fun z : Int => AVal.int .i64 z) (zs.map fun z => [AVal.int .i64 z]).length false := by simp [ints]
  rw [this]
  exact Sees.loose _ _ _
theorem pts_fits {a : AVal} (h : Fits (.slice (.struct [.int .i64, .int .i64])) [a]) : ∃ zs : List (Int × Int), Sees a (recs encP false zs) ∧ (∀ z ∈ zs, in64 z.1 ∧ in64 z.2) ∧ zs.length ≤ 9223372036854775807 := by
 rcases h with h | ⟨gs, t, hg, h, hl⟩
 ·cases h
  exact ⟨[], Sees.nils false, by simp, by simp⟩
 ·cases h
  have : ∃ zs : List (Int × Int), gs = zs.map encP ∧ ∀ z ∈ zs, in64 z.1 ∧ in64 z.2 := by
   clear hl
   induction gs with
   | nil => exact ⟨[], rfl, by simp⟩
   | cons g gs ih =>
    obtain ⟨zs, rfl, hz⟩ := ih fun x hx => hg x (by simp [hx])
    obtain ⟨_, _, rfl, ⟨x, rfl, hx⟩, h2⟩ := hg g (by simp)
    obtain ⟨_, _, rfl, ⟨y, rfl, hy⟩, h3⟩ := h2
    have h3' : _ = ([] : List AVal) := h3
    subst h3'
    refine ⟨(x, y) :: zs, rfl, fun y hy' => ?_⟩
    rcases List.mem_cons.1 hy' with rfl | hy'
    ·exact ⟨wf_i64 hx, wf_i64 hy⟩
    ·exact hz y hy'
  obtain ⟨zs, rfl, hz⟩ := this
  refine ⟨zs, ?_, hz, by simpa using hl⟩
  have : recs encP false zs = .imm (zs.map encP).flatten (zs.map encP).length false := by simp [recs, List.flatMap]
  rw [this]
  exact Sees.loose _ _ _
structure Mg.rng (m : Mg) : Prop where
 k : in64 m.k
 n : in64 m.n0 ∧ in64 m.n1 ∧ in64 m.n2 ∧ in64 m.n3 ∧ in64 m.n4 ∧ in64 m.n5
 p : ∀ z ∈ m.p, in64 z.1 ∧ in64 z.2
 c : ∀ z ∈ m.c, in64 z
structure Mg.lens (m : Mg) : Prop where
 p : m.p.length ≤ 9223372036854775807
 c : m.c.length ≤ 9223372036854775807
 t : m.t.size ≤ 9223372036854775807
 g : m.g.size ≤ 9223372036854775807
theorem arr6_wf {l : List AVal} (h : Fits (.arr 6 .i64) l) : ∃ a b c d e f : Int, l = [.int .i64 a, .int .i64 b, .int .i64 c, .int .i64 d, .int .i64 e, .int .i64 f] ∧ in64 a ∧ in64 b ∧ in64 c ∧ in64 d ∧ in64 e ∧ in64 f := by
 obtain ⟨hl, h⟩ := h
 obtain ⟨a, ha, wa⟩ := h 0 (by omega)
 obtain ⟨b, hb, wb⟩ := h 1 (by omega)
 obtain ⟨c, hc, wc⟩ := h 2 (by omega)
 obtain ⟨d, hd, wd⟩ := h 3 (by omega)
 obtain ⟨e, he, we⟩ := h 4 (by omega)
 obtain ⟨f, hf, wf⟩ := h 5 (by omega)
 match l, hl with
 | [x0, x1, x2, x3, x4, x5], _ =>
  simp only [List.getElem?_cons_zero, List.getElem?_cons_succ, Option.some.injEq] at ha hb hc hd he hf
  exact ⟨a, b, c, d, e, f, by rw [ha, hb, hc, hd, he, hf], wf_i64 wa, wf_i64 wb, wf_i64 wc, wf_i64 wd, wf_i64 we, wf_i64 wf⟩
theorem msg_fits2 {a : AVal} (h : FitsA shMsg a) : ∃ m : Mg, Sees a (.agg (encM m)) ∧ m.lens ∧ m.rng := by
 obtain ⟨l, rfl, h⟩ := h
 obtain ⟨_, _, rfl, ⟨k, rfl, wk⟩, h⟩ := h
 obtain ⟨l2, _, rfl, h2, h⟩ := h
 obtain ⟨n0, n1, n2, n3, n4, n5, rfl, w⟩ := arr6_wf h2
 obtain ⟨l3, _, rfl, h3, h⟩ := h
 obtain ⟨p, rfl, hp⟩ := slice_one2 h3
 obtain ⟨ps, p1, p2, p3⟩ := pts_fits hp
 obtain ⟨l4, _, rfl, h4, h⟩ := h
 obtain ⟨c, rfl, hc⟩ := slice_one2 h4
 obtain ⟨cs, c1, c2, c3⟩ := ints_fits2 hc
 obtain ⟨_, _, rfl, ⟨t, rfl, ht⟩, h⟩ := h
 obtain ⟨_, _, rfl, ⟨g, rfl, hg⟩, h⟩ := h
 have h' : _ = ([] : List AVal) := h
 subst h'
 refine ⟨⟨k, n0, n1, n2, n3, n4, n5, ps, cs, t, g⟩, Sees.agg ?_, ⟨p3, c3, ht, hg⟩, ⟨wf_i64 wk, w, p2, c2⟩⟩
 exact .cons (.refl _) (.cons (.refl _) (.cons (.refl _) (.cons (.refl _) (.cons (.refl _) (.cons (.refl _) (.cons (.refl _) (.cons p1 (.cons c1 (.refl _)))))))))
theorem bodyB_filter (m : Mg) (p : Fld → Bool) : ∀ L : List Fld, (bodyB m (L.filter p)).length ≤ (bodyB m L).length
 | [] => by simp [bodyB]
 | f :: L => by
  have := bodyB_filter m p L
  rw [List.filter_cons]
  unfold bodyB at *
  split <;> simp only [List.flatMap_cons, List.length_append] <;> omega
def nx (l : List Fld) (v : Int) (i : Nat) : Nat := i + ((l.drop i).takeWhile fun f => decide (v < f.since)).length
def pos (l : List Fld) (v : Int) : Nat → Nat
 | 0 => 0
 | j + 1 => nx l v (pos l v j) + 1
def Fld.cap (f : Fld) : Nat := if f.sort = 1 ∨ f.sort = 2 then 3 else if f.sort = 3 then 129 else if f.sort = 4 then 97 else if f.sort = 5 then 65 else 17
theorem partB_cap {m : Mg} {f : Fld} (hf : f ∈ fieldsOf m.k) (hm : m.fine) (hw : rwrongE m f = 0) : (partB m f).length ≤ f.cap := by
 have h3 := fieldsOf_ok3 f hf
 have hst := fieldsOf_std f hf
 obtain ⟨q1, q2, q3, q4, q5, q6⟩ := fits_of hf hm hw
 have hwe := wrong_eq (m := m) hst
 rw [hw] at hwe
 obtain ⟨s3, s4, s5, s6⟩ := hst
 obtain ⟨o1, o2, o3, o4⟩ := fieldsOf_ok6 f hf
 have three : ∀ n, n < 2097152 → (putAll [n]).length ≤ 3 := fun n hn => by
  rw [putAll_one, putOne_length]; exact sizeOf_le 2 n (by omega)
 have one : ∀ n, n < 128 → (putAll [n]).length = 1 := fun n hn => by
  rw [putAll_one, putOne_length, sizeOf_lt hn]
 have hmany : ∀ n, manyE n f = 0 → f.least ≤ n ∧ (n : Int) ≤ f.most := fun n hn => by
  unfold manyE at hn
  split at hn
  ·omega
  split at hn <;> omega
 unfold wrongE at hwe
 unfold partB Fld.cap
 by_cases z1 : f.sort = 1
 ·rw [if_pos z1, if_pos (.inl z1)]
  rw [if_neg (by omega), if_neg (by omega), if_neg (by omega), if_neg (by omega)] at hwe
  have hr : ¬ (m.num f.place < f.least ∨ f.most < m.num f.place) := fun hh => by rw [if_pos hh] at hwe; omega
  exact three _ (by omega)
 rw [if_neg z1]
 by_cases z2 : f.sort = 2
 ·rw [if_pos z2, if_pos (.inr z2)]
  rw [if_neg (by omega), if_neg (by omega), if_neg (by omega), if_neg (by omega)] at hwe
  have hr : ¬ (m.num f.place < f.least ∨ f.most < m.num f.place) := fun hh => by rw [if_pos hh] at hwe; omega
  exact three _ (by unfold zig; split <;> omega)
 rw [if_neg z2, if_neg (show ¬ (f.sort = 1 ∨ f.sort = 2) by omega)]
 by_cases z3 : f.sort = 3
 ·rw [if_pos z3, if_pos z3]
  have := pathB_len m.p (0, 0) rfl (q3 z3).2
  have h16 := (q3 z3).1
  rw [List.length_append, one _ (by omega)]
  omega
 rw [if_neg z3, if_neg z3]
 by_cases z4 : f.sort = 4
 ·rw [if_pos z4, if_pos z4]
  have := cellsB_len (q4 z4).2 m.c.length (Nat.le_refl _)
  rw [List.take_length] at this
  have h32 := (q4 z4).1
  rw [List.length_append, one _ (by omega)]
  omega
 rw [if_neg z4, if_neg z4]
 rw [if_neg z3, if_neg z4] at hwe
 have htx : ∀ t : ByteArray, textE t f = 0 → f.least ≤ t.size ∧ (t.size : Int) ≤ f.most := fun t ht => by
  unfold textE at ht
  exact hmany _ (Classical.byContradiction fun hh => by rw [if_pos hh] at ht; exact hh ht)
 by_cases z5 : f.sort = 5
 ·rw [if_pos z5] at hwe
  rw [if_pos z5, if_pos z5]
  have h1 := htx _ hwe
  have h2 := s5 z5
  have hl : (bytesOf m.t).length = m.t.size := bytesOf_len _
  rw [List.length_append, one _ (by omega)]
  omega
 ·have z6 : f.sort = 6 := by rcases h3 with ⟨_, z⟩ | ⟨z, _⟩ <;> omega
  rw [if_neg z5, if_pos z6] at hwe
  rw [if_neg z5, if_neg z5]
  have h1 := htx _ hwe
  have h2 := s6 z6
  have hl : (bytesOf m.g).length = m.g.size := bytesOf_len _
  rw [List.length_append, one _ (by omega)]
  omega
theorem bodyB_cap {m : Mg} (hm : m.fine) : ∀ L : List Fld, (∀ f ∈ L, f ∈ fieldsOf m.k ∧ rwrongE m f = 0) → (bodyB m L).length ≤ (L.map Fld.cap).sum
 | [], _ => by simp [bodyB]
 | f :: L, h => by
  have h1 := bodyB_cap hm L fun x hx => h x (List.mem_cons_of_mem _ hx)
  obtain ⟨a, b⟩ := h f (List.mem_cons_self ..)
  have h2 := partB_cap a hm b
  unfold bodyB at *
  rw [List.flatMap_cons, List.length_append, List.map_cons, List.sum_cons]
  omega
theorem caps (k : Int) : ((fieldsOf k).map Fld.cap).sum ≤ 192 := by
 by_cases h1 : k = 1
 ·subst h1; decide +kernel
 by_cases h2 : k = 2
 ·subst h2; decide +kernel
 by_cases h3 : k = 3
 ·subst h3; decide +kernel
 by_cases h4 : k = 4
 ·subst h4; decide +kernel
 by_cases h5 : k = 5
 ·subst h5; decide +kernel
 simp [fieldsOf, h1, h2, h3, h4, h5]
theorem encB_192 {m : Mg} (hm : m.fine) (v : Int) : (encB m v).length ≤ 192 := by
 by_cases h : bcheckE m v = 0
 ·have hb := bcheck_zero h
  rw [encB_eq hb.2 hb.1]
  have h1 := bodyB_filter m (fun f => decide (f.since ≤ v)) (fieldsOf m.k)
  have h2 := bodyB_cap hm (fieldsOf m.k) fun f hf => ⟨hf, ((checkM_zero m).1 hb.2).2.1 f hf⟩
  have := caps m.k
  unfold versionFields
  omega
 ·rw [encB, partFields, if_neg h]; simp [bodyB]
end Go.Proofs.Ytiepeiconkjmeaa
