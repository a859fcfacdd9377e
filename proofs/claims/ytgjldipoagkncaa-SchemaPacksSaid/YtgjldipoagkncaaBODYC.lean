/-
  Lemmas on the way to the statements of this seat. By an AI agent. No person has read it.
-/
import Derived.Test.YtgjldipoagkncaaBODYA
import Derived.Test.YtgjldipoagkncaaBODYB
import Derived.Test.YtgjldipoagkncaaAm6
set_option linter.unusedSimpArgs false
set_option linter.unusedVariables false

namespace Go.Proofs.Ytgjldipoagkncaa
open Go Go.Am
structure IntsV (H : AHeap) (a : AVal) (zs : List Int) : Prop where
 len : slen a = some zs.length
 view : Am.view H a = some (zs.map fun n : Int => AVal.int .i64 n)
theorem IntsV.keep {H H' : AHeap} {a : AVal} {zs : List Int} (h : IntsV H a zs) (hk : Keeps H H') : IntsV H' a zs := ⟨h.len, hk.view h.view⟩
theorem IntsV.load {H : AHeap} {a : AVal} {zs : List Int} (h : IntsV H a zs) {j : Nat} (hj : j < zs.length) : loadA H none (.sptr a j) = some (True, .int .i64 (zs.getD j 0)) := by
 simp only [loadA, cellsAt, h.view, Option.map_some]
 congr 2
 ·simp; omega
 ·rw [List.headD_eq_head?_getD, List.head?_drop]
  simp [hj]
theorem IntsV.isSome {H : AHeap} {a : AVal} {zs : List Int} (h : IntsV H a zs) : (Am.view H a).isSome = true := by rw [h.view]; rfl
theorem signedV_loop (K : List AItem) (Q : AVal → AHeap → Prop) {zs : List Int} {l : AVal} (hz : ∀ z ∈ zs, inI64 z) (hlen : zs.length ≤ 1000) {H0 : AHeap} (hl : IntsV H0 l zs) {pv : AVal}
  (hQ : ∀ r H a, rget r 0 = pv → rget r 5 = a → Mine .u64 T.uint64 H0.length H a (zs.map zig) → Keeps H0 H → Run Try.prog sgnC K r H Q) :
  ∀ (m i : Nat) (H : AHeap) (a : AVal), zs.length - i = m → i ≤ zs.length → Mine .u64 T.uint64 H0.length H a ((zs.take i).map zig) → Keeps H0 H →
  Rounds Try.prog sgnC pen_Pen_Signed.b0 [.inBlock 0] K [(0, pv), (5, a), (8, l), (9, .int .i64 (zs.length : Nat)), (10, .int .i64 (i : Nat))] H Q := by
 intro m
 induction m using Nat.strongRecOn with
 | _ m ih =>
  intro i H a h1 h2 hm hk
  refine loop_V 100 pen_Pen_Signed.b0.eq_1 ?_
  by_cases hi : i < zs.length
  ·have hzi : inI64 (zs.getD i 0) := by
    rw [List.getD_eq_getElem?_getD]; simp [hi]; exact hz _ (List.getElem_mem hi)
   have l1 := (hl.keep hk).load hi
   have l2 := hl.len
   have l3 := (hl.keep hk).isSome
   simp (disch := first | omega | (simp only [lnx]; omega)) only [stdh, stdx, ↓reduceIte, seval, l1, l2, l3]
   refine callK_fn (zig_ok _ _ hzi.1 hzi.2 _ ?_)
   refine runL_V 60 ?_
   simp (disch := first | omega | (simp only [lnx]; omega)) only [stdh, stdx, ↓reduceIte, seval]
   obtain ⟨v, H2, q, e1, hq, hm2, hk2⟩ := Mine.append (H := H ++ [_]) (hm.keep (keeps_append H [_])) (nats_one (k := .u64) (H := H) (el := T.uint64) (n := zig (zs.getD i 0))) (bytes := 8) (hk.trans (keeps_append H _)) rfl (by simp; omega) (by simp; omega) (by simp)
   simp (disch := first | omega | (simp only [lnx]; omega)) only [stdh, stdx, ↓reduceIte, seval, e1, hq]
   refine ih (zs.length - (i + 1)) (by omega) (i + 1) H2 v rfl (by omega) ?_ hk2
   have : (zs.take (i + 1)).map zig = (zs.take i).map zig ++ [zig (zs.getD i 0)] := by
    rw [List.take_succ_eq_append_getElem hi, List.map_append, List.map_cons, List.map_nil, List.getD_eq_getElem?_getD, List.getElem?_eq_getElem hi, Option.getD_some]
   rw [this]; exact hm2
  ·simp (disch := first | omega | (simp only [lnx]; omega)) only [stdh, stdx, ↓reduceIte, seval]
   rw [List.take_of_length_le (by omega)] at hm
   exact hQ _ _ _ rfl rfl hm hk
theorem signedV_ok {H : AHeap} {p : Nat} {a : AVal} {xs : List Nat} {room : Nat} {full : Bool} (hp : PenAt H p a xs room full) (hsm : xs.length ≤ 500000) {zs : List Int} {l : AVal} (hl : IntsV H l zs) (hz : ∀ z ∈ zs, inI64 z) (hlen : zs.length ≤ 1000) (Q : AVal → AHeap → Prop) (h : Wrote p a H xs room full (putAll (zs.map zig)) Q) :
  FunOK Try.prog F.pen_Pen_Signed [.ptr p 0, l] H Q := by
 refine fun_V 60 pen_Pen_Signed_code rfl ?_
 have l2 := hl.len
 simp (disch := first | omega | (simp only [lnx]; omega)) only [stdh, stdx, ↓reduceIte, seval, pen_Pen_Signed, pen_Pen_Signed.body, l2]
 refine signedV_loop _ _ hz hlen hl ?_ _ 0 H .nils rfl (by omega) ⟨.inl ⟨rfl, rfl⟩⟩ (Keeps.refl H)
 intro r H1 b f0 f5 hm hk
 refine run_V0 60 ?_
 simp (disch := first | omega | (simp only [lnx]; omega)) only [stdh, stdx, ↓reduceIte, seval, f0, f5]
 refine callK_fn (number_ok (hp.keep hk) hsm hm.nats ?_ (by simp; omega) _ ?_)
 ·intro n hn
  obtain ⟨z, hz1, rfl⟩ := List.mem_map.1 hn
  exact zig_lt (hz z hz1).1 (hz z hz1).2
 ·intro a' H' g1 g2 g3
  refine runL_V 60 ?_
  simp (disch := first | omega | (simp only [lnx]; omega)) only [stdh, stdx, ↓reduceIte, seval]
  exact h.keep hk a' H' g1 g2 g3
theorem raw_fit {xs ys : List Nat} {room : Nat} (h : xs.length + ys.length ≤ room) : rawXs xs room false ys = xs ++ ys ∧ rawFull xs room false ys = false ∧ rawErr xs room false ys = 0 := by
 unfold rawXs rawFull rawErr
 have : ¬ room < xs.length + ys.length := by omega
 simp [this]
structure Grew (H0 : AHeap) (p : Nat) (a0 : AVal) (H : AHeap) (a : AVal) (xs : List Nat) : Prop where
 pen : PenAt H p a xs 192 false
 keeps : PenKeeps H0 p a0 H
 names : ∀ m ∈ a.names, m ∈ a0.names ∨ H0.length ≤ m
theorem Grew.refl {H : AHeap} {p : Nat} {a : AVal} {xs : List Nat} (h : PenAt H p a xs 192 false) : Grew H p a H a xs := ⟨h, ⟨Nat.le_refl _, fun _ _ _ _ => rfl⟩, fun m hm => .inl hm⟩
theorem Grew.trans {H0 H1 H2 : AHeap} {p : Nat} {a0 a1 a2 : AVal} {xs ys : List Nat} (h : Grew H0 p a0 H1 a1 xs) (h' : Grew H1 p a1 H2 a2 ys) : Grew H0 p a0 H2 a2 ys where
 pen := h'.pen
 keeps := ⟨Nat.le_trans h.keeps.1 h'.keeps.1, fun m hm h1 h2 => (h'.keeps.2 m (Nat.lt_of_lt_of_le hm h.keeps.1) h1 fun hh => by
  rcases h.names m hh with hh | hh
  ·exact h2 hh
  ·omega).trans (h.keeps.2 m hm h1 h2)⟩
 names m hm := by
  rcases h'.names m hm with hh | hh
  ·exact h.names m hh
  ·exact .inr (Nat.le_trans h.keeps.1 hh)
theorem Grew.push {H0 H1 L : AHeap} {p : Nat} {a0 a1 : AVal} {xs : List Nat} (h : Grew H0 p a0 H1 a1 xs) : Grew H0 p a0 (H1 ++ L) a1 xs where
 pen := h.pen.keep (keeps_append _ _)
 keeps := ⟨by have := h.keeps.1; simp; omega, fun m hm h1 h2 => (List.getElem?_append_left (Nat.lt_of_lt_of_le hm h.keeps.1)).trans (h.keeps.2 m hm h1 h2)⟩
 names := h.names
theorem Grew.set {H0 H1 : AHeap} {p c : Nat} {a0 a1 : AVal} {xs : List Nat} {b : ABlk} (h : Grew H0 p a0 H1 a1 xs) (hc : H0.length ≤ c) {cs : List AVal} {T : TypeId} (hb : H1[c]? = some (.cells cs T)) (hpc : p ≠ c) : Grew H0 p a0 (H1.set c b) a1 xs where
 pen := h.pen.moved (by rw [List.getElem?_set_ne (fun hh => hpc hh.symm)]) fun m hm => by
  rw [List.getElem?_set_ne]
  rintro rfl
  exact (h.pen.own.ne hb) hm
 keeps := ⟨by rw [List.length_set]; exact h.keeps.1, fun m hm h1 h2 => by rw [List.getElem?_set_ne (by omega)]; exact h.keeps.2 m hm h1 h2⟩
 names := h.names
theorem Grew.at_ {H0 H1 : AHeap} {p c : Nat} {a0 a1 : AVal} {xs : List Nat} (h : Grew H0 p a0 H1 a1 xs) {cs : List AVal} {T : TypeId} (hb : H0[c]? = some (.cells cs T)) (hpc : p ≠ c) (ha : c ∉ a0.names) : H1[c]? = some (.cells cs T) :=
 (h.keeps.2 c (List.getElem?_eq_some_iff.1 hb).1 (fun hh => hpc hh.symm) ha).trans hb
def Writes (p : Nat) (a : AVal) (H : AHeap) (xs ys : List Nat) (Q : AVal → AHeap → Prop) : Prop := ∀ a' H', Grew H p a H' a' (xs ++ ys) → Q (.tup []) H'
theorem wrote_of {p : Nat} {a : AVal} {H : AHeap} {xs ys : List Nat} {Q : AVal → AHeap → Prop} (hl : xs.length + ys.length ≤ 192) (h : ∀ a' H', Grew H p a H' a' (xs ++ ys) → Q (.int .i64 0) H') : Wrote p a H xs 192 false ys Q := by
 intro a' H' g1 g2 g3
 obtain ⟨e1, e2, e3⟩ := raw_fit (xs := xs) (ys := ys) hl
 rw [e1, e2] at g1
 rw [e3]
 exact h a' H' ⟨g1, g2, g3⟩
def pathB : Int × Int → List (Int × Int) → List Nat
 | _, [] => []
 | last, x :: l => putAll [zig (x.1 - last.1), zig (x.2 - last.2)] ++ pathB x l
def cellsB : Int → List Int → List Nat
 | _, [] => []
 | last, c :: l => putAll [(c - last - 1).toNat] ++ cellsB c l
theorem zig_small {d : Int} (h1 : -2000000 ≤ d) (h2 : d ≤ 2000000) : zig d ≤ 4000001 := by unfold zig; split <;> omega
theorem size_small {n : Nat} (h : n ≤ 4000001) : sizeOf n ≤ 4 := sizeOf_le 3 n (by omega)
theorem putAll_one (n : Nat) : putAll [n] = putOne n := by simp [putAll]
theorem near_of {x : Int × Int} (h : farP x = false) : -1000000 ≤ x.1 ∧ x.1 ≤ 1000000 ∧ -1000000 ≤ x.2 ∧ x.2 ≤ 1000000 := by
 have := of_decide_eq_false h
 omega
theorem pathB_len : ∀ (l : List (Int × Int)) (last : Int × Int), farP last = false → l.any farP = false → (pathB last l).length ≤ 8 * l.length
 | [], _, _, _ => by simp [pathB]
 | x :: l, last, h1, h2 => by
  rw [List.any_cons, Bool.or_eq_false_iff] at h2
  have ih := pathB_len l x h2.1 h2.2
  have n1 := near_of h1
  have n2 := near_of h2.1
  have z1 := size_small (zig_small (d := x.1 - last.1) (by omega) (by omega))
  have z2 := size_small (zig_small (d := x.2 - last.2) (by omega) (by omega))
  simp only [pathB, List.length_append, List.length_cons, putAll, List.flatMap_cons, List.flatMap_nil, List.append_nil, putOne_length] at ih ⊢
  omega
theorem pathB_take {l : List (Int × Int)} : ∀ {i : Nat} {last : Int × Int}, i < l.length → pathB last (l.take (i + 1)) = pathB last (l.take i) ++ putAll [zig ((l.getD i default).1 - (if i = 0 then last else l.getD (i - 1) default).1), zig ((l.getD i default).2 - (if i = 0 then last else l.getD (i - 1) default).2)] := by
 induction l with
 | nil => intro i last h; simp at h
 | cons x l ih =>
  intro i last h
  cases i with
  | zero => simp [pathB]
  | succ i =>
   have hi : i < l.length := by simpa using h
   rw [List.take_succ_cons, List.take_succ_cons, pathB, pathB, ih hi]
   simp only [List.getD_cons_succ, Nat.add_sub_cancel, if_neg (Nat.succ_ne_zero i), List.append_assoc]
   cases i with
   | zero => simp
   | succ i => simp
abbrev bptC : Ctx := ⟨F.body_points, 34, [], none⟩
theorem getD_near {l : List (Int × Int)} (h : l.any farP = false) {i : Nat} (hi : i < l.length) : farP (l.getD i default) = false := by
 rw [List.any_eq_false] at h
 have := h (l.getD i default) (by simp [hi])
 simpa using this
set_option maxHeartbeats 1000000 in
theorem points_loop {l : List (Int × Int)} (hlen : l.length ≤ 16) (hf : l.any farP = false) {t : Bool} {H0 : AHeap} {p c : Nat} {a0 : AVal} {xs : List Nat} (hxs : xs.length ≤ 2) (hc : H0.length ≤ c) (hp0 : p < H0.length) (K : List AItem) (Q : AVal → AHeap → Prop)
  (hQ : ∀ r H a, Grew H0 p a0 H a (xs ++ pathB (0, 0) l) → Run Try.prog bptC K r H Q) :
  ∀ (z i : Nat) (H : AHeap) (a : AVal), l.length - i = z → i ≤ l.length → Grew H0 p a0 H a (xs ++ pathB (0, 0) (l.take i)) → H[c]? = some (.cells (encP (if i = 0 then (0, 0) else l.getD (i - 1) default)) T.msg_Point) →
  Rounds Try.prog bptC body_points.b0 [.inBlock 0] K [(0, .ptr p 0), (4, .ptr c 0), (13, recs encP t l), (14, .int .i64 l.length), (15, .int .i64 i)] H Q
 | z, i, H, a, h1, h2, hg, hcc => by
  refine loop_V 100 body_points.b0.eq_1 ?_
  by_cases hi : i < l.length
  ·have hld : ∀ H, loadA H (some 2) (.sptr (recs encP t l) (i * 2)) = some (True, .agg (encP (l.getD i default))) := fun H => load_recs encP_len hi
   have hcl : c < H.length := (List.getElem?_eq_some_iff.1 hcc).1
   have hb1 := pathB_len (l.take i) (0, 0) rfl (by
    rw [List.any_eq_false] at hf ⊢
    exact fun x hx => hf x (List.mem_of_mem_take hx))
   have hb2 := pathB_take (l := l) (i := i) (last := (0, 0)) hi
   have nx := near_of (getD_near hf hi)
   have nl : farP (if i = 0 then (0, 0) else l.getD (i - 1) default) = false := by
    split
    ·rfl
    ·exact getD_near hf (by omega)
   have nl := near_of nl
   rw [List.length_take] at hb1
   have hnext : (if i + 1 = 0 then ((0, 0) : Int × Int) else l.getD (i + 1 - 1) default) = l.getD i default := by simp
   generalize (if i = 0 then ((0, 0) : Int × Int) else l.getD (i - 1) default) = la at *
   generalize hx : l.getD i default = x at *
   obtain ⟨x1, x2⟩ := x
   obtain ⟨y1, y2⟩ := la
   simp only at nx nl hb2
   have w1 : IntKind.i64.wrap (x1 - y1) = x1 - y1 := wrap_i64 (by omega)
   have w2 : IntKind.i64.wrap (x2 - y2) = x2 - y2 := wrap_i64 (by omega)
   have e1 : H[c]? = some (ABlk.cells [.int .i64 y1, .int .i64 y2] T.msg_Point) := hcc
   simp (disch := first | omega | (simp only [lnx]; omega)) only [stdh, stdx, ↓reduceIte, seval, hld, encP, at_low, e1, w1, w2]
   have hs1 := size_small (zig_small (d := x1 - y1) (by omega) (by omega))
   have hs2 := size_small (zig_small (d := x2 - y2) (by omega) (by omega))
   have hy : putAll ([x1 - y1, x2 - y2].map zig) = putAll [zig (x1 - y1), zig (x2 - y2)] := rfl
   have hyl : (putAll [zig (x1 - y1), zig (x2 - y2)]).length ≤ 8 := by
    simp only [putAll, List.flatMap_cons, List.flatMap_nil, List.append_nil, List.length_append, putOne_length]; omega
   have hxl : (xs ++ pathB (0, 0) (l.take i)).length ≤ 130 := by rw [List.length_append]; omega
   have hg1 := hg.push (L := [ABlk.cells [AVal.int IntKind.i64 x1, AVal.int IntKind.i64 x2] T.msg_Point, ABlk.vec [AVal.int IntKind.i64 (x1 - y1), AVal.int IntKind.i64 (x2 - y2)] T.int64 1])
   have hpl : p < H.length := by have := hg.keeps.1; omega
   refine callK_fn (signedV_ok hg1.pen (by omega) (zs := [x1 - y1, x2 - y2]) ⟨rfl, ?_⟩ ?_ (by simp) _ (wrote_of (by rw [hy]; omega) fun a' H' hg' => ?_))
   ·simp [view, content, at_k]
   ·intro z hz
    simp only [List.mem_cons, List.not_mem_nil, or_false] at hz
    rcases hz with rfl | rfl
    ·exact ⟨by omega, by omega⟩
    ·exact ⟨by omega, by omega⟩
   ·refine runL_V 60 ?_
    have hX := hg'.at_ (c := H.length) (cs := [.int .i64 x1, .int .i64 x2]) (T := T.msg_Point) at_0 (by omega) fun hh => by
     exact hg1.pen.own.ne (c := H.length) at_0 hh
    have hC := hg'.at_ (c := c) (cs := [.int .i64 y1, .int .i64 y2]) (T := T.msg_Point) (by rw [at_low hcl]; exact e1) (by omega) fun hh => by
     exact hg1.pen.own.ne (c := c) (by rw [at_low hcl]; exact e1) hh
    have hg2 := hg1.trans hg'
    simp (disch := first | omega | (simp only [lnx]; omega)) only [stdh, stdx, ↓reduceIte, seval, hX, hC]
    rw [show (i : Int) + 1 = ((i + 1 : Nat) : Int) by omega]
    refine points_loop hlen hf hxs hc hp0 K Q hQ _ (i + 1) _ a' rfl (by omega) ?_ ?_
    ·rw [hb2, ← List.append_assoc]
     exact hg2.set hc hC (by omega)
    ·rw [hnext, List.getElem?_set_self (List.getElem?_eq_some_iff.1 hC).1]; rfl
  ·simp (disch := first | omega | (simp only [lnx]; omega)) only [stdh, stdx, ↓reduceIte, seval]
   rw [List.take_of_length_le (by omega)] at hg
   exact hQ _ H a hg
 termination_by z => z
theorem pt_p {H : AHeap} {p : Nat} {a : AVal} {xs : List Nat} {room : Nat} {full : Bool} (h : PenAt H p a xs room full) : p < H.length := (List.getElem?_eq_some_iff.1 h.is).1
theorem points_ok {H : AHeap} {p : Nat} {a : AVal} {l : List (Int × Int)} (hlen : l.length ≤ 16) (hf : l.any farP = false) {t : Bool} (hp : PenAt H p a [] 192 false) (Q : AVal → AHeap → Prop) (h : Writes p a H [] (putAll [l.length] ++ pathB (0, 0) l) Q) :
  FunOK Try.prog F.body_points [.ptr p 0, recs encP t l] H Q := by
 refine fun_V 60 body_points_code rfl ?_
 have hw : IntKind.u64.wrap (l.length : Int) = ((l.length : Nat) : Int) := wrap_u64 (by omega)
 have hs : (putAll [l.length]).length ≤ 1 := by simp only [putAll, List.flatMap_cons, List.flatMap_nil, List.append_nil, putOne_length]; rw [sizeOf_lt (by omega)]; omega
 simp (disch := first | omega | (simp only [lnx]; omega)) only [stdh, stdx, ↓reduceIte, seval, body_points, body_points.body, hw]
 have hg0 := (Grew.refl hp).push (L := [ABlk.vec [AVal.int IntKind.u64 (l.length : Nat)] T.uint64 1])
 refine callK_fn (number_ok hg0.pen (by simp) nats_one (by intro n hn; simp only [List.mem_cons, List.not_mem_nil, or_false] at hn; omega) (by simp) _ (wrote_of (by simp; omega) fun a' H' hg' => ?_))
 refine runL_V 60 ?_
 have hg1 := (hg0.trans hg').push (L := [ABlk.cells [AVal.int IntKind.i64 0, AVal.int IntKind.i64 0] T.msg_Point])
 simp (disch := first | omega | (simp only [lnx]; omega)) only [stdh, stdx, ↓reduceIte, seval]
 have hpl := pt_p hp
 have hle := (hg0.trans hg').keeps.1
 rw [List.nil_append] at hg1
 refine points_loop (c := H'.length) hlen hf (t := t) (xs := putAll [l.length]) (by omega) (H0 := H) hle hpl _ Q ?_ _ 0 _ a' rfl (by omega) (by simpa [pathB] using hg1) (by rw [at_0]; rfl)
 intro r H2 a2 hg2
 exact run_fin rfl rfl trivial (h a2 H2 (by simpa using hg2))
theorem cellsGo_zero : ∀ {l : List Int} {last : Int}, cellsGo last l = 0 → ∀ i, i < l.length → 0 ≤ l.getD i 0 ∧ l.getD i 0 ≤ 65535 ∧ (if i = 0 then last else l.getD (i - 1) 0) < l.getD i 0
 | [], _, _, i, h => by simp at h
 | c :: l, last, h, i, hi => by
  rw [cellsGo] at h
  by_cases h1 : c < 0 ∨ 65535 < c
  ·rw [if_pos h1] at h; omega
  rw [if_neg h1] at h
  by_cases h2 : c ≤ last
  ·rw [if_pos h2] at h; omega
  rw [if_neg h2] at h
  cases i with
  | zero => simp; omega
  | succ i =>
   have := cellsGo_zero h i (by simpa using hi)
   cases i with
   | zero => simpa using this
   | succ i => simpa using this
theorem cellsB_take {l : List Int} : ∀ {i : Nat} {last : Int}, i < l.length → cellsB last (l.take (i + 1)) = cellsB last (l.take i) ++ putAll [(l.getD i 0 - (if i = 0 then last else l.getD (i - 1) 0) - 1).toNat] := by
 induction l with
 | nil => intro i last h; simp at h
 | cons x l ih =>
  intro i last h
  cases i with
  | zero => simp [cellsB]
  | succ i =>
   have hi : i < l.length := by simpa using h
   rw [List.take_succ_cons, List.take_succ_cons, cellsB, cellsB, ih hi]
   simp only [List.getD_cons_succ, Nat.add_sub_cancel, if_neg (Nat.succ_ne_zero i), List.append_assoc]
   cases i with
   | zero => simp
   | succ i => simp
theorem cellsB_len {l : List Int} (h : cellsGo (-1) l = 0) : ∀ i, i ≤ l.length → (cellsB (-1) (l.take i)).length ≤ 3 * i
 | 0, _ => by simp [cellsB]
 | i + 1, hi => by
  have h1 := cellsGo_zero h i (by omega)
  have ih := cellsB_len h i (by omega)
  rw [cellsB_take (by omega)]
  have hl : -1 ≤ (if i = 0 then (-1 : Int) else l.getD (i - 1) 0) := by
   split
   ·omega
   ·have := cellsGo_zero h (i - 1) (by omega); omega
  have := sizeOf_le 2 (l.getD i 0 - (if i = 0 then (-1 : Int) else l.getD (i - 1) 0) - 1).toNat (by omega)
  simp only [List.length_append, putAll, List.flatMap_cons, List.flatMap_nil, List.append_nil, putOne_length] at ih ⊢
  omega
abbrev bclC : Ctx := ⟨F.body_cells, 29, [], none⟩
set_option maxHeartbeats 1000000 in
theorem bcells_loop {l : List Int} (hlen : l.length ≤ 32) (hf : cellsGo (-1) l = 0) {t : Bool} {H0 : AHeap} {p : Nat} {a0 : AVal} {xs : List Nat} (hxs : xs.length ≤ 2) (hp0 : p < H0.length) (K : List AItem) (Q : AVal → AHeap → Prop)
  (hQ : ∀ r H a, Grew H0 p a0 H a (xs ++ cellsB (-1) l) → Run Try.prog bclC K r H Q) :
  ∀ (z i : Nat) (H : AHeap) (a : AVal) (last : Int), l.length - i = z → i ≤ l.length → Grew H0 p a0 H a (xs ++ cellsB (-1) (l.take i)) → last = (if i = 0 then (-1 : Int) else l.getD (i - 1) 0) →
  Rounds Try.prog bclC body_cells.b0 [.inBlock 0] K [(0, .ptr p 0), (4, .int .i64 last), (13, ints t l), (14, .int .i64 l.length), (15, .int .i64 i)] H Q
 | z, i, H, a, last, h1, h2, hg, hla => by
  refine loop_V 100 body_cells.b0.eq_1 ?_
  by_cases hi : i < l.length
  ·have hb1 := cellsB_len hf i (by omega)
   have hb2 := cellsB_take (l := l) (i := i) (last := -1) hi
   have nx := cellsGo_zero hf i hi
   have nl : -1 ≤ last := by
    rw [hla]
    split
    ·omega
    ·have := cellsGo_zero hf (i - 1) (by omega); omega
   rw [← hla] at nx hb2
   have hnext : (if i + 1 = 0 then (-1 : Int) else l.getD (i + 1 - 1) 0) = l.getD i 0 := by simp
   have hld : ∀ H, loadA H none (.sptr (ints t l) i) = some (True, .int .i64 (l.getD i 0)) := fun H => load_ints hi
   generalize l.getD i 0 = x at *
   have w1 : IntKind.i64.wrap (x - last) = x - last := wrap_i64 (by omega)
   have w2 : IntKind.i64.wrap (x - last - 1) = x - last - 1 := wrap_i64 (by omega)
   have w3 : IntKind.u64.wrap (x - last - 1) = (((x - last - 1).toNat : Nat) : Int) := by rw [wrap_u64 (by omega)]; omega
   simp (disch := first | omega | (simp only [lnx]; omega)) only [stdh, stdx, ↓reduceIte, seval, w1, w2, w3, hld]
   have hs1 := sizeOf_le 2 (x - last - 1).toNat (by omega)
   have hyl : (putAll [(x - last - 1).toNat]).length ≤ 3 := by
    simp only [putAll, List.flatMap_cons, List.flatMap_nil, List.append_nil, putOne_length]; omega
   have hxl : (xs ++ cellsB (-1) (l.take i)).length ≤ 130 := by rw [List.length_append]; omega
   have hg1 := hg.push (L := [ABlk.vec [AVal.int IntKind.u64 ((x - last - 1).toNat : Nat)] T.uint64 1])
   have hpl : p < H.length := by have := hg.keeps.1; omega
   refine callK_fn (number_ok hg1.pen (by omega) nats_one (by intro n hn; simp only [List.mem_cons, List.not_mem_nil, or_false] at hn; omega) (by simp) _ (wrote_of (by omega) fun a' H' hg' => ?_))
   refine runL_V 60 ?_
   have hg2 := hg1.trans hg'
   simp (disch := first | omega | (simp only [lnx]; omega)) only [stdh, stdx, ↓reduceIte, seval]
   rw [show (i : Int) + 1 = ((i + 1 : Nat) : Int) by omega]
   refine bcells_loop hlen hf hxs hp0 K Q hQ _ (i + 1) _ a' x rfl (by omega) ?_ hnext.symm
   rw [hb2, ← List.append_assoc]
   exact hg2
  ·simp (disch := first | omega | (simp only [lnx]; omega)) only [stdh, stdx, ↓reduceIte, seval]
   rw [List.take_of_length_le (by omega)] at hg
   exact hQ _ H a hg
 termination_by z => z
theorem bcells_ok {H : AHeap} {p : Nat} {a : AVal} {l : List Int} (hlen : l.length ≤ 32) (hf : cellsGo (-1) l = 0) {t : Bool} (hp : PenAt H p a [] 192 false) (Q : AVal → AHeap → Prop) (h : Writes p a H [] (putAll [l.length] ++ cellsB (-1) l) Q) :
  FunOK Try.prog F.body_cells [.ptr p 0, ints t l] H Q := by
 refine fun_V 60 body_cells_code rfl ?_
 have hw : IntKind.u64.wrap (l.length : Int) = ((l.length : Nat) : Int) := wrap_u64 (by omega)
 have hs : (putAll [l.length]).length ≤ 1 := by simp only [putAll, List.flatMap_cons, List.flatMap_nil, List.append_nil, putOne_length]; rw [sizeOf_lt (by omega)]; omega
 simp (disch := first | omega | (simp only [lnx]; omega)) only [stdh, stdx, ↓reduceIte, seval, body_cells, body_cells.body, hw]
 have hg0 := (Grew.refl hp).push (L := [ABlk.vec [AVal.int IntKind.u64 (l.length : Nat)] T.uint64 1])
 refine callK_fn (number_ok hg0.pen (by simp) nats_one (by intro n hn; simp only [List.mem_cons, List.not_mem_nil, or_false] at hn; omega) (by simp) _ (wrote_of (by simp; omega) fun a' H' hg' => ?_))
 refine runL_V 60 ?_
 have hg1 := hg0.trans hg'
 simp (disch := first | omega | (simp only [lnx]; omega)) only [stdh, stdx, ↓reduceIte, seval]
 have hpl := pt_p hp
 rw [List.nil_append] at hg1
 refine bcells_loop hlen hf (t := t) (xs := putAll [l.length]) (by omega) (H0 := H) hpl _ Q ?_ _ 0 _ a' (-1) rfl (by omega) (by simpa [cellsB] using hg1) rfl
 intro r H2 a2 hg2
 exact run_fin rfl rfl trivial (h a2 H2 (by simpa using hg2))
def partB (m : Mg) (f : Fld) : List Nat :=
 if f.sort = 1 then putAll [(m.num f.place).toNat] else if f.sort = 2 then putAll [zig (m.num f.place)]
 else if f.sort = 3 then putAll [m.p.length] ++ pathB (0, 0) m.p else if f.sort = 4 then putAll [m.c.length] ++ cellsB (-1) m.c
 else if f.sort = 5 then putAll [(bytesOf m.t).length] ++ bytesOf m.t else putAll [(bytesOf m.g).length] ++ bytesOf m.g
def Fits192 (m : Mg) (f : Fld) : Prop :=
 (f.sort = 1 → 0 ≤ m.num f.place ∧ m.num f.place ≤ 9223372036854775807) ∧ (f.sort = 2 → inI64 (m.num f.place)) ∧ (f.sort = 3 → m.p.length ≤ 16 ∧ m.p.any farP = false) ∧ (f.sort = 4 → m.c.length ≤ 32 ∧ cellsGo (-1) m.c = 0) ∧
 (f.sort = 5 → m.t.size ≤ 64) ∧ (f.sort = 6 → m.g.size ≤ 64)
theorem partB_len {m : Mg} {f : Fld} (hf : f.ok3) (hm : Fits192 m f) : (partB m f).length ≤ 192 := by
 obtain ⟨h1, h2, h3, h4, h5, h6⟩ := hm
 unfold partB
 have one : ∀ n : Nat, n < 18446744073709551616 → (putAll [n]).length ≤ 10 := fun n hn => by
  simp only [putAll, List.flatMap_cons, List.flatMap_nil, List.append_nil, putOne_length]; exact sizeOf_le10 hn
 have small : ∀ n : Nat, n < 128 → (putAll [n]).length ≤ 1 := fun n hn => by
  simp only [putAll, List.flatMap_cons, List.flatMap_nil, List.append_nil, putOne_length]; rw [sizeOf_lt hn]; omega
 by_cases s1 : f.sort = 1
 ·rw [if_pos s1]; have := h1 s1; have := one (m.num f.place).toNat (by omega); omega
 rw [if_neg s1]
 by_cases s2 : f.sort = 2
 ·rw [if_pos s2]; have := h2 s2; have := one (zig (m.num f.place)) (zig_lt this.1 this.2); omega
 rw [if_neg s2]
 by_cases s3 : f.sort = 3
 ·rw [if_pos s3]
  obtain ⟨a, b⟩ := h3 s3
  have := small m.p.length (by omega)
  have := pathB_len m.p (0, 0) rfl b
  rw [List.length_append]; omega
 rw [if_neg s3]
 by_cases s4 : f.sort = 4
 ·rw [if_pos s4]
  obtain ⟨a, b⟩ := h4 s4
  have := small m.c.length (by omega)
  have := cellsB_len b m.c.length (Nat.le_refl _)
  rw [List.take_length] at this
  rw [List.length_append]; omega
 rw [if_neg s4]
 by_cases s5 : f.sort = 5
 ·rw [if_pos s5]
  have a := h5 s5
  have := bytesOf_len m.t
  have := small (bytesOf m.t).length (by omega)
  rw [List.length_append]; omega
 rw [if_neg s5]
 have s6 : f.sort = 6 := by
  rcases hf with ⟨_, h | h | h | h⟩ | ⟨h | h, _⟩
  ·exact absurd h s3
  ·exact absurd h s4
  ·exact absurd h s5
  ·exact h
  ·exact absurd h s1
  ·exact absurd h s2
 have a := h6 s6
 have := bytesOf_len m.g
 have := small (bytesOf m.g).length (by omega)
 rw [List.length_append]; omega
theorem grew_keeps {H H1 H' : AHeap} {p : Nat} {a' : AVal} {xs : List Nat} (h : Grew H1 p .nils H' a' xs) (hp : H.length ≤ p) (hk : Keeps H H1) : Keeps H H' :=
 ⟨Nat.le_trans hk.1 h.keeps.1, fun n hn => (h.keeps.2 n (Nat.lt_of_lt_of_le hn hk.1) (by omega) (by simp [AVal.names])).trans (hk.2 n hn)⟩
theorem nums_nostr (k : IntKind) (t : Bool) (xs : List Nat) : ∀ s, nums k t xs ≠ .str s := by intro s h; simp [nums] at h
set_option maxRecDepth 10000 in
set_option maxHeartbeats 4000000 in
theorem part_ok (H : AHeap) (m : Mg) (f : Fld) (hf : f.ok3) (hm : Fits192 m f) (Q : AVal → AHeap → Prop) (h : Q (nums .u8 false (partB m f)) H) : FunOK Try.prog F.body_part [.agg (encM m), .agg (encF f)] H Q := by
 have hpl := partB_len hf hm
 refine fun_iced body_part_code fun _ => ?_
 refine fun_V 60 body_part_code rfl ?_
 simp (disch := first | omega | (simp only [lnx]; omega)) only [stdh, stdx, ↓reduceIte, seval, body_part, body_part.body, encM, encF]
 rw [show (192 : Int) = ((192 : Nat) : Int) from rfl]
 refine callK_fn (pnew_ok _ (by omega) _ ?_)
 refine runL_V 100 ?_
 have hpen := pnew_at (H ++ [ABlk.cells [AVal.int IntKind.i64 m.k, AVal.int IntKind.i64 m.n0, AVal.int IntKind.i64 m.n1, AVal.int IntKind.i64 m.n2, AVal.int IntKind.i64 m.n3, AVal.int IntKind.i64 m.n4, AVal.int IntKind.i64 m.n5, recs encP false m.p, ints false m.c, AVal.str m.t, AVal.str m.g] T.msg_Msg, ABlk.cells [AVal.str f.name, AVal.int IntKind.i64 f.sort, AVal.int IntKind.i64 f.place, AVal.int IntKind.i64 f.least, AVal.int IntKind.i64 f.most, AVal.int IntKind.i64 f.since, AVal.int IntKind.i64 f.absent] T.field_Field]) (room := 192) (by omega)
 generalize hH1 : H ++ [ABlk.cells [AVal.int IntKind.i64 m.k, AVal.int IntKind.i64 m.n0, AVal.int IntKind.i64 m.n1, AVal.int IntKind.i64 m.n2, AVal.int IntKind.i64 m.n3, AVal.int IntKind.i64 m.n4, AVal.int IntKind.i64 m.n5, recs encP false m.p, ints false m.c, AVal.str m.t, AVal.str m.g] T.msg_Msg, ABlk.cells [AVal.str f.name, AVal.int IntKind.i64 f.sort, AVal.int IntKind.i64 f.place, AVal.int IntKind.i64 f.least, AVal.int IntKind.i64 f.most, AVal.int IntKind.i64 f.since, AVal.int IntKind.i64 f.absent] T.field_Field] = H1 at *
 have hkH : Keeps H H1 := by rw [← hH1]; exact keeps_append _ _
 have b0 : H1[H.length]? = some (ABlk.cells [AVal.int IntKind.i64 m.k, AVal.int IntKind.i64 m.n0, AVal.int IntKind.i64 m.n1, AVal.int IntKind.i64 m.n2, AVal.int IntKind.i64 m.n3, AVal.int IntKind.i64 m.n4, AVal.int IntKind.i64 m.n5, recs encP false m.p, ints false m.c, AVal.str m.t, AVal.str m.g] T.msg_Msg) := by rw [← hH1]; exact at_0
 have b1 : H1[H.length + 1]? = some (ABlk.cells [AVal.str f.name, AVal.int IntKind.i64 f.sort, AVal.int IntKind.i64 f.place, AVal.int IntKind.i64 f.least, AVal.int IntKind.i64 f.most, AVal.int IntKind.i64 f.since, AVal.int IntKind.i64 f.absent] T.field_Field) := by rw [← hH1]; exact at_k
 have hl1 : H1.length = H.length + 2 := by rw [← hH1]; simp
 clear hH1
 have hk2 : Keeps H (H1 ++ [ABlk.cells [.nils, .int .i64 ((192 : Nat) : Int), .bool false] T.pen_Pen]) := hkH.trans (keeps_append _ _)
 have c0 := (at_low (L := [ABlk.cells [.nils, .int .i64 ((192 : Nat) : Int), .bool false] T.pen_Pen]) (show H.length < H1.length by omega)).trans b0
 have c1 := (at_low (L := [ABlk.cells [.nils, .int .i64 ((192 : Nat) : Int), .bool false] T.pen_Pen]) (show H.length + 1 < H1.length by omega)).trans b1
 have hgl : (H1 ++ [ABlk.cells [.nils, .int .i64 ((192 : Nat) : Int), .bool false] T.pen_Pen]).length = H.length + 3 := by simp [hl1]
 generalize H1 ++ [ABlk.cells [.nils, .int .i64 ((192 : Nat) : Int), .bool false] T.pen_Pen] = G at *
 rw [hl1] at hpen ⊢
 clear b0 b1 hl1 hkH
 obtain ⟨g1, g2, g3, g4, g5, g6⟩ := hm
 have fin : ∀ (ys : List Nat), ys = partB m f → ∀ {L : AHeap} a' H', Grew (G ++ L) (H.length + 2) .nils H' a' ([] ++ ys) → Keeps H H' ∧ PenAt H' (H.length + 2) a' (partB m f) 192 false := by
  rintro ys rfl L a' H' hg
  exact ⟨grew_keeps hg (by omega) (hk2.trans (keeps_append _ _)), by simpa using hg.pen⟩
 have fin0 : ∀ (ys : List Nat), ys = partB m f → ∀ a' H', Grew G (H.length + 2) .nils H' a' ([] ++ ys) → Keeps H H' ∧ PenAt H' (H.length + 2) a' (partB m f) 192 false := by
  rintro ys rfl a' H' hg
  exact ⟨grew_keeps hg (by omega) hk2, by simpa using hg.pen⟩
 by_cases s1 : f.sort = 1
 ·have hn := g1 s1
  have e : partB m f = putAll [(m.num f.place).toNat] := by rw [partB, if_pos s1]
  have hw : IntKind.u64.wrap (m.num f.place) = (((m.num f.place).toNat : Nat) : Int) := by rw [wrap_u64 (by omega)]; omega
  have hp6 : f.place = 0 ∨ f.place = 1 ∨ f.place = 2 ∨ f.place = 3 ∨ f.place = 4 ∨ f.place = 5 := by
   rcases hf with ⟨_, q | q | q | q⟩ | ⟨_, q⟩ <;> first | exact q | omega
  rcases hp6 with p | p | p | p | p | p
  ·simp only [p, Mg.num, if_true, if_false, Int.reduceEq] at hw hn e
   simp (disch := first | omega | (simp only [lnx]; omega)) only [stdh, stdx, ↓reduceIte, seval, c0, c1, at_low, s1, p, hw]
   refine callK_fn (number_ok (hpen.keep (keeps_append _ _)) (by simp) nats_one (by intro n hn; simp only [List.mem_cons, List.not_mem_nil, or_false] at hn; omega) (by simp) _ (wrote_of (by rw [← e]; simpa using hpl) fun a' H' hg => ?_))
   obtain ⟨q1, q2⟩ := fin _ e.symm a' H' hg
   refine runL_V 60 ?_
   simp (disch := first | omega | (simp only [lnx]; omega)) only [stdh, stdx, ↓reduceIte, seval]
   refine callK_fn (pbytes_ok q2 _ ?_)
   refine runL_V 60 ?_
   simp (disch := first | omega | (simp only [lnx]; omega)) only [stdh, stdx, ↓reduceIte, seval]
   exact ice_keeps q1 (closed_nums _ _ _) h
  ·simp only [p, Mg.num, if_true, if_false, Int.reduceEq] at hw hn e
   simp (disch := first | omega | (simp only [lnx]; omega)) only [stdh, stdx, ↓reduceIte, seval, c0, c1, at_low, s1, p, hw]
   refine callK_fn (number_ok (hpen.keep (keeps_append _ _)) (by simp) nats_one (by intro n hn; simp only [List.mem_cons, List.not_mem_nil, or_false] at hn; omega) (by simp) _ (wrote_of (by rw [← e]; simpa using hpl) fun a' H' hg => ?_))
   obtain ⟨q1, q2⟩ := fin _ e.symm a' H' hg
   refine runL_V 60 ?_
   simp (disch := first | omega | (simp only [lnx]; omega)) only [stdh, stdx, ↓reduceIte, seval]
   refine callK_fn (pbytes_ok q2 _ ?_)
   refine runL_V 60 ?_
   simp (disch := first | omega | (simp only [lnx]; omega)) only [stdh, stdx, ↓reduceIte, seval]
   exact ice_keeps q1 (closed_nums _ _ _) h
  ·simp only [p, Mg.num, if_true, if_false, Int.reduceEq] at hw hn e
   simp (disch := first | omega | (simp only [lnx]; omega)) only [stdh, stdx, ↓reduceIte, seval, c0, c1, at_low, s1, p, hw]
   refine callK_fn (number_ok (hpen.keep (keeps_append _ _)) (by simp) nats_one (by intro n hn; simp only [List.mem_cons, List.not_mem_nil, or_false] at hn; omega) (by simp) _ (wrote_of (by rw [← e]; simpa using hpl) fun a' H' hg => ?_))
   obtain ⟨q1, q2⟩ := fin _ e.symm a' H' hg
   refine runL_V 60 ?_
   simp (disch := first | omega | (simp only [lnx]; omega)) only [stdh, stdx, ↓reduceIte, seval]
   refine callK_fn (pbytes_ok q2 _ ?_)
   refine runL_V 60 ?_
   simp (disch := first | omega | (simp only [lnx]; omega)) only [stdh, stdx, ↓reduceIte, seval]
   exact ice_keeps q1 (closed_nums _ _ _) h
  ·simp only [p, Mg.num, if_true, if_false, Int.reduceEq] at hw hn e
   simp (disch := first | omega | (simp only [lnx]; omega)) only [stdh, stdx, ↓reduceIte, seval, c0, c1, at_low, s1, p, hw]
   refine callK_fn (number_ok (hpen.keep (keeps_append _ _)) (by simp) nats_one (by intro n hn; simp only [List.mem_cons, List.not_mem_nil, or_false] at hn; omega) (by simp) _ (wrote_of (by rw [← e]; simpa using hpl) fun a' H' hg => ?_))
   obtain ⟨q1, q2⟩ := fin _ e.symm a' H' hg
   refine runL_V 60 ?_
   simp (disch := first | omega | (simp only [lnx]; omega)) only [stdh, stdx, ↓reduceIte, seval]
   refine callK_fn (pbytes_ok q2 _ ?_)
   refine runL_V 60 ?_
   simp (disch := first | omega | (simp only [lnx]; omega)) only [stdh, stdx, ↓reduceIte, seval]
   exact ice_keeps q1 (closed_nums _ _ _) h
  ·simp only [p, Mg.num, if_true, if_false, Int.reduceEq] at hw hn e
   simp (disch := first | omega | (simp only [lnx]; omega)) only [stdh, stdx, ↓reduceIte, seval, c0, c1, at_low, s1, p, hw]
   refine callK_fn (number_ok (hpen.keep (keeps_append _ _)) (by simp) nats_one (by intro n hn; simp only [List.mem_cons, List.not_mem_nil, or_false] at hn; omega) (by simp) _ (wrote_of (by rw [← e]; simpa using hpl) fun a' H' hg => ?_))
   obtain ⟨q1, q2⟩ := fin _ e.symm a' H' hg
   refine runL_V 60 ?_
   simp (disch := first | omega | (simp only [lnx]; omega)) only [stdh, stdx, ↓reduceIte, seval]
   refine callK_fn (pbytes_ok q2 _ ?_)
   refine runL_V 60 ?_
   simp (disch := first | omega | (simp only [lnx]; omega)) only [stdh, stdx, ↓reduceIte, seval]
   exact ice_keeps q1 (closed_nums _ _ _) h
  ·simp only [p, Mg.num, if_true, if_false, Int.reduceEq] at hw hn e
   simp (disch := first | omega | (simp only [lnx]; omega)) only [stdh, stdx, ↓reduceIte, seval, c0, c1, at_low, s1, p, hw]
   refine callK_fn (number_ok (hpen.keep (keeps_append _ _)) (by simp) nats_one (by intro n hn; simp only [List.mem_cons, List.not_mem_nil, or_false] at hn; omega) (by simp) _ (wrote_of (by rw [← e]; simpa using hpl) fun a' H' hg => ?_))
   obtain ⟨q1, q2⟩ := fin _ e.symm a' H' hg
   refine runL_V 60 ?_
   simp (disch := first | omega | (simp only [lnx]; omega)) only [stdh, stdx, ↓reduceIte, seval]
   refine callK_fn (pbytes_ok q2 _ ?_)
   refine runL_V 60 ?_
   simp (disch := first | omega | (simp only [lnx]; omega)) only [stdh, stdx, ↓reduceIte, seval]
   exact ice_keeps q1 (closed_nums _ _ _) h
 by_cases s2 : f.sort = 2
 ·have hn := g2 s2
  have e : partB m f = putAll ([m.num f.place].map zig) := by rw [partB, if_neg s1, if_pos s2]; rfl
  have hp6 : f.place = 0 ∨ f.place = 1 ∨ f.place = 2 ∨ f.place = 3 ∨ f.place = 4 ∨ f.place = 5 := by
   rcases hf with ⟨_, q | q | q | q⟩ | ⟨_, q⟩ <;> first | exact q | omega
  rcases hp6 with p | p | p | p | p | p
  ·simp only [p, Mg.num, if_true, if_false, Int.reduceEq] at hn e
   simp (disch := first | omega | (simp only [lnx]; omega)) only [stdh, stdx, ↓reduceIte, seval, c0, c1, at_low, s2, p, Int.reduceEq]
   refine callK_fn (signedV_ok (zs := [m.n0]) (hpen.keep (keeps_append _ _)) (by simp) ⟨rfl, by simp [view, content, at_0]⟩ (by intro n hn'; simp only [List.mem_cons, List.not_mem_nil, or_false] at hn'; rw [hn']; exact hn) (by simp) _ (wrote_of (by rw [← e]; simpa using hpl) fun a' H' hg => ?_))
   obtain ⟨q1, q2⟩ := fin _ e.symm a' H' hg
   refine runL_V 60 ?_
   simp (disch := first | omega | (simp only [lnx]; omega)) only [stdh, stdx, ↓reduceIte, seval]
   refine callK_fn (pbytes_ok q2 _ ?_)
   refine runL_V 60 ?_
   simp (disch := first | omega | (simp only [lnx]; omega)) only [stdh, stdx, ↓reduceIte, seval]
   exact ice_keeps q1 (closed_nums _ _ _) h
  ·simp only [p, Mg.num, if_true, if_false, Int.reduceEq] at hn e
   simp (disch := first | omega | (simp only [lnx]; omega)) only [stdh, stdx, ↓reduceIte, seval, c0, c1, at_low, s2, p, Int.reduceEq]
   refine callK_fn (signedV_ok (zs := [m.n1]) (hpen.keep (keeps_append _ _)) (by simp) ⟨rfl, by simp [view, content, at_0]⟩ (by intro n hn'; simp only [List.mem_cons, List.not_mem_nil, or_false] at hn'; rw [hn']; exact hn) (by simp) _ (wrote_of (by rw [← e]; simpa using hpl) fun a' H' hg => ?_))
   obtain ⟨q1, q2⟩ := fin _ e.symm a' H' hg
   refine runL_V 60 ?_
   simp (disch := first | omega | (simp only [lnx]; omega)) only [stdh, stdx, ↓reduceIte, seval]
   refine callK_fn (pbytes_ok q2 _ ?_)
   refine runL_V 60 ?_
   simp (disch := first | omega | (simp only [lnx]; omega)) only [stdh, stdx, ↓reduceIte, seval]
   exact ice_keeps q1 (closed_nums _ _ _) h
  ·simp only [p, Mg.num, if_true, if_false, Int.reduceEq] at hn e
   simp (disch := first | omega | (simp only [lnx]; omega)) only [stdh, stdx, ↓reduceIte, seval, c0, c1, at_low, s2, p, Int.reduceEq]
   refine callK_fn (signedV_ok (zs := [m.n2]) (hpen.keep (keeps_append _ _)) (by simp) ⟨rfl, by simp [view, content, at_0]⟩ (by intro n hn'; simp only [List.mem_cons, List.not_mem_nil, or_false] at hn'; rw [hn']; exact hn) (by simp) _ (wrote_of (by rw [← e]; simpa using hpl) fun a' H' hg => ?_))
   obtain ⟨q1, q2⟩ := fin _ e.symm a' H' hg
   refine runL_V 60 ?_
   simp (disch := first | omega | (simp only [lnx]; omega)) only [stdh, stdx, ↓reduceIte, seval]
   refine callK_fn (pbytes_ok q2 _ ?_)
   refine runL_V 60 ?_
   simp (disch := first | omega | (simp only [lnx]; omega)) only [stdh, stdx, ↓reduceIte, seval]
   exact ice_keeps q1 (closed_nums _ _ _) h
  ·simp only [p, Mg.num, if_true, if_false, Int.reduceEq] at hn e
   simp (disch := first | omega | (simp only [lnx]; omega)) only [stdh, stdx, ↓reduceIte, seval, c0, c1, at_low, s2, p, Int.reduceEq]
   refine callK_fn (signedV_ok (zs := [m.n3]) (hpen.keep (keeps_append _ _)) (by simp) ⟨rfl, by simp [view, content, at_0]⟩ (by intro n hn'; simp only [List.mem_cons, List.not_mem_nil, or_false] at hn'; rw [hn']; exact hn) (by simp) _ (wrote_of (by rw [← e]; simpa using hpl) fun a' H' hg => ?_))
   obtain ⟨q1, q2⟩ := fin _ e.symm a' H' hg
   refine runL_V 60 ?_
   simp (disch := first | omega | (simp only [lnx]; omega)) only [stdh, stdx, ↓reduceIte, seval]
   refine callK_fn (pbytes_ok q2 _ ?_)
   refine runL_V 60 ?_
   simp (disch := first | omega | (simp only [lnx]; omega)) only [stdh, stdx, ↓reduceIte, seval]
   exact ice_keeps q1 (closed_nums _ _ _) h
  ·simp only [p, Mg.num, if_true, if_false, Int.reduceEq] at hn e
   simp (disch := first | omega | (simp only [lnx]; omega)) only [stdh, stdx, ↓reduceIte, seval, c0, c1, at_low, s2, p, Int.reduceEq]
   refine callK_fn (signedV_ok (zs := [m.n4]) (hpen.keep (keeps_append _ _)) (by simp) ⟨rfl, by simp [view, content, at_0]⟩ (by intro n hn'; simp only [List.mem_cons, List.not_mem_nil, or_false] at hn'; rw [hn']; exact hn) (by simp) _ (wrote_of (by rw [← e]; simpa using hpl) fun a' H' hg => ?_))
   obtain ⟨q1, q2⟩ := fin _ e.symm a' H' hg
   refine runL_V 60 ?_
   simp (disch := first | omega | (simp only [lnx]; omega)) only [stdh, stdx, ↓reduceIte, seval]
   refine callK_fn (pbytes_ok q2 _ ?_)
   refine runL_V 60 ?_
   simp (disch := first | omega | (simp only [lnx]; omega)) only [stdh, stdx, ↓reduceIte, seval]
   exact ice_keeps q1 (closed_nums _ _ _) h
  ·simp only [p, Mg.num, if_true, if_false, Int.reduceEq] at hn e
   simp (disch := first | omega | (simp only [lnx]; omega)) only [stdh, stdx, ↓reduceIte, seval, c0, c1, at_low, s2, p, Int.reduceEq]
   refine callK_fn (signedV_ok (zs := [m.n5]) (hpen.keep (keeps_append _ _)) (by simp) ⟨rfl, by simp [view, content, at_0]⟩ (by intro n hn'; simp only [List.mem_cons, List.not_mem_nil, or_false] at hn'; rw [hn']; exact hn) (by simp) _ (wrote_of (by rw [← e]; simpa using hpl) fun a' H' hg => ?_))
   obtain ⟨q1, q2⟩ := fin _ e.symm a' H' hg
   refine runL_V 60 ?_
   simp (disch := first | omega | (simp only [lnx]; omega)) only [stdh, stdx, ↓reduceIte, seval]
   refine callK_fn (pbytes_ok q2 _ ?_)
   refine runL_V 60 ?_
   simp (disch := first | omega | (simp only [lnx]; omega)) only [stdh, stdx, ↓reduceIte, seval]
   exact ice_keeps q1 (closed_nums _ _ _) h
 by_cases s3 : f.sort = 3
 ·obtain ⟨n1, n2⟩ := g3 s3
  have e : partB m f = putAll [m.p.length] ++ pathB (0, 0) m.p := by rw [partB, if_neg s1, if_neg s2, if_pos s3]
  simp (disch := first | omega | (simp only [lnx]; omega)) only [stdh, stdx, ↓reduceIte, seval, c0, c1, at_low, s3, Int.reduceEq]
  refine callK_fn (points_ok n1 n2 hpen _ fun a' H' hg => ?_)
  obtain ⟨q1, q2⟩ := fin0 _ e.symm a' H' hg
  refine runL_V 60 ?_
  simp (disch := first | omega | (simp only [lnx]; omega)) only [stdh, stdx, ↓reduceIte, seval]
  refine callK_fn (pbytes_ok q2 _ ?_)
  refine runL_V 60 ?_
  simp (disch := first | omega | (simp only [lnx]; omega)) only [stdh, stdx, ↓reduceIte, seval]
  exact ice_keeps q1 (closed_nums _ _ _) h
 by_cases s4 : f.sort = 4
 ·obtain ⟨n1, n2⟩ := g4 s4
  have e : partB m f = putAll [m.c.length] ++ cellsB (-1) m.c := by rw [partB, if_neg s1, if_neg s2, if_neg s3, if_pos s4]
  simp (disch := first | omega | (simp only [lnx]; omega)) only [stdh, stdx, ↓reduceIte, seval, c0, c1, at_low, s4, Int.reduceEq]
  refine callK_fn (bcells_ok n1 n2 hpen _ fun a' H' hg => ?_)
  obtain ⟨q1, q2⟩ := fin0 _ e.symm a' H' hg
  refine runL_V 60 ?_
  simp (disch := first | omega | (simp only [lnx]; omega)) only [stdh, stdx, ↓reduceIte, seval]
  refine callK_fn (pbytes_ok q2 _ ?_)
  refine runL_V 60 ?_
  simp (disch := first | omega | (simp only [lnx]; omega)) only [stdh, stdx, ↓reduceIte, seval]
  exact ice_keeps q1 (closed_nums _ _ _) h
 by_cases s5 : f.sort = 5
 ·have n1 := g5 s5
  have n2 := bytesOf_len m.t
  have e : partB m f = putAll [(bytesOf m.t).length] ++ bytesOf m.t := by rw [partB, if_neg s1, if_neg s2, if_neg s3, if_neg s4, if_pos s5]
  simp (disch := first | omega | (simp only [lnx]; omega)) only [stdh, stdx, ↓reduceIte, seval, c0, c1, at_low, s5, Int.reduceEq]
  refine callK_fn (pfield_ok hpen (by simp) (nums_nats _ _ _ _) (nums_nostr _ _ _) (by omega) _ (wrote_of (by rw [← e]; simpa using hpl) fun a' H' hg => ?_))
  obtain ⟨q1, q2⟩ := fin0 _ e.symm a' H' hg
  refine runL_V 60 ?_
  simp (disch := first | omega | (simp only [lnx]; omega)) only [stdh, stdx, ↓reduceIte, seval]
  refine callK_fn (pbytes_ok q2 _ ?_)
  refine runL_V 60 ?_
  simp (disch := first | omega | (simp only [lnx]; omega)) only [stdh, stdx, ↓reduceIte, seval]
  exact ice_keeps q1 (closed_nums _ _ _) h
 ·have s6 : f.sort = 6 := by
   rcases hf with ⟨_, q | q | q | q⟩ | ⟨q | q, _⟩
   ·exact absurd q s3
   ·exact absurd q s4
   ·exact absurd q s5
   ·exact q
   ·exact absurd q s1
   ·exact absurd q s2
  have n1 := g6 s6
  have n2 := bytesOf_len m.g
  have e : partB m f = putAll [(bytesOf m.g).length] ++ bytesOf m.g := by rw [partB, if_neg s1, if_neg s2, if_neg s3, if_neg s4, if_neg s5]
  simp (disch := first | omega | (simp only [lnx]; omega)) only [stdh, stdx, ↓reduceIte, seval, c0, c1, at_low, s6, Int.reduceEq]
  refine callK_fn (pfield_ok hpen (by simp) (nums_nats _ _ _ _) (nums_nostr _ _ _) (by omega) _ (wrote_of (by rw [← e]; simpa using hpl) fun a' H' hg => ?_))
  obtain ⟨q1, q2⟩ := fin0 _ e.symm a' H' hg
  refine runL_V 60 ?_
  simp (disch := first | omega | (simp only [lnx]; omega)) only [stdh, stdx, ↓reduceIte, seval]
  refine callK_fn (pbytes_ok q2 _ ?_)
  refine runL_V 60 ?_
  simp (disch := first | omega | (simp only [lnx]; omega)) only [stdh, stdx, ↓reduceIte, seval]
  exact ice_keeps q1 (closed_nums _ _ _) h
def bcheckE (m : Mg) (v : Int) : Int := if v ≠ 1 ∧ v ≠ 2 then 10 else checkM m
theorem bcheck_ok (H : AHeap) (m : Mg) (v : Int) (hm : m.fine) (Q : AVal → AHeap → Prop) (h : Q (.int .i64 (bcheckE m v)) H) : FunOK Try.prog F.body_check [.agg (encM m), .int .i64 v] H Q := by
 refine fun_iced body_check_code fun _ => ?_
 refine fun_V 60 body_check_code rfl ?_
 unfold bcheckE at h
 by_cases h1 : v = 1
 ·rw [if_neg (by omega)] at h
  have hd : decide (v = 1) = true := decide_eq_true h1
  simp (disch := first | omega | (simp only [lnx]; omega)) only [stdh, stdx, ↓reduceIte, seval, body_check, body_check.body, encM, hd]
  refine callK_fn (check_ok _ m hm _ ?_)
  refine runL_V 60 ?_
  simp (disch := first | omega | (simp only [lnx]; omega)) only [stdh, stdx, ↓reduceIte, seval]
  exact ice_none trivial h
 by_cases h2 : v = 2
 ·rw [if_neg (by omega)] at h
  have hd : decide (v = 2) = true := decide_eq_true h2
  simp (disch := first | omega | (simp only [lnx]; omega)) only [stdh, stdx, ↓reduceIte, seval, body_check, body_check.body, encM, h1, hd]
  refine callK_fn (check_ok _ m hm _ ?_)
  refine runL_V 60 ?_
  simp (disch := first | omega | (simp only [lnx]; omega)) only [stdh, stdx, ↓reduceIte, seval]
  exact ice_none trivial h
 ·rw [if_pos ⟨h1, h2⟩] at h
  simp (disch := first | omega | (simp only [lnx]; omega)) only [stdh, stdx, ↓reduceIte, seval, body_check, body_check.body, encM, h1, h2]
  exact ice_none trivial h
def Fld.ok5 (f : Fld) : Prop := (f.sort = 1 → 0 ≤ f.least ∧ f.most ≤ 1000000) ∧ (f.sort = 2 → f.least = -1000000 ∧ f.most = 1000000)
instance (f : Fld) : Decidable f.ok5 := by unfold Fld.ok5; infer_instance
theorem fieldsOf_ok5 {k : Int} : ∀ f ∈ fieldsOf k, f.ok5 := by
 unfold fieldsOf
 split
 ·decide +kernel
 split
 ·decide +kernel
 split
 ·decide +kernel
 split
 ·decide +kernel
 split
 ·decide +kernel
 ·simp
theorem rpath_zero {l : List (Int × Int)} (h : rpathE l = 0) : 1 ≤ l.length ∧ l.length ≤ 16 ∧ l.any farP = false := by
 unfold rpathE at h
 repeat' split at h
 all_goals first | omega | skip
 rename_i h1 h2 h3
 exact ⟨by omega, by omega, by simpa using h3⟩
theorem rcells_zero {l : List Int} (h : rcellsE l = 0) : 1 ≤ l.length ∧ l.length ≤ 32 ∧ cellsGo (-1) l = 0 := by
 unfold rcellsE at h
 by_cases h1 : l.length = 0
 ·rw [if_pos h1] at h; omega
 rw [if_neg h1] at h
 by_cases h2 : 32 < l.length
 ·rw [if_pos h2] at h; omega
 rw [if_neg h2] at h
 exact ⟨by omega, by omega, h⟩
theorem rtext_zero {s : ByteArray} {most : Int} (h : rtextE s most = 0) : (s.size : Int) ≤ most ∧ (bytesOf s).any badB = false := by
 unfold rtextE at h
 by_cases h1 : most < (s.size : Int)
 ·rw [if_pos h1] at h; omega
 rw [if_neg h1] at h
 refine ⟨by omega, ?_⟩
 cases hb : (bytesOf s).any badB with
 | false => rfl
 | true => rw [hb] at h; simp at h
theorem fits_of {m : Mg} {f : Fld} (hf : f ∈ fieldsOf m.k) (hm : m.fine) (h : rwrongE m f = 0) : Fits192 m f := by
 have h3 := fieldsOf_ok3 f hf
 obtain ⟨h5, h6⟩ := fieldsOf_ok5 f hf
 unfold rwrongE at h
 have num : f.sort = 1 ∨ f.sort = 2 → f.least ≤ m.num f.place ∧ m.num f.place ≤ f.most := fun hs => by
  rw [if_neg (by omega), if_neg (by omega), if_neg (by omega), if_neg (by omega)] at h
  split at h <;> omega
 refine ⟨fun s => ?_, fun s => ?_, fun s => ?_, fun s => ?_, fun s => ?_, fun s => ?_⟩
 ·have := num (.inl s); have := h5 s; omega
 ·have := num (.inr s); have := h6 s; exact ⟨by omega, by omega⟩
 ·rw [if_pos s] at h; have := rpath_zero h; exact ⟨this.2.1, this.2.2⟩
 ·rw [if_neg (by omega), if_pos s] at h; have := rcells_zero h; exact ⟨this.2.1, this.2.2⟩
 ·rw [if_neg (by omega), if_neg (by omega), if_pos s] at h; have := rtext_zero h; omega
 ·rw [if_neg (by omega), if_neg (by omega), if_neg (by omega), if_pos s] at h; have := rtext_zero h; omega
def partFields (m : Mg) (v : Int) : List Fld := if bcheckE m v = 0 then versionFields m.k v else []
def partArgs (m : Mg) (L : List Fld) (j : Nat) : List AVal := [.str (L.getD j fld0).name, nums .u8 false (partB m (L.getD j fld0))]
theorem bcheck_zero {m : Mg} {v : Int} (h : bcheckE m v = 0) : (v = 1 ∨ v = 2) ∧ checkM m = 0 := by
 unfold bcheckE at h
 split at h
 ·omega
 ·exact ⟨by omega, h⟩
set_option maxHeartbeats 2000000 in
theorem parts1_iter {H : AHeap} {n : Nat} {m : Mg} {v : Int} (hm : m.fine) : Iter Try.prog F.body_Parts_1 [.yld n, cellN (encM m), cell (.int .i64 v)] n (partArgs m (partFields m v)) (partFields m v).length [] H := by
 intro I hI fp hi hown
 refine fun_V 100 body_Parts_1_code rfl ?_
 have hyc : (AVal.yld n).cells = [AVal.yld n] := rfl
 have hyc2 : (AVal.yld n).cellish = true := rfl
 simp (disch := first | omega | (simp only [lnx]; omega)) only [stdh, stdx, ↓reduceIte, seval, body_Parts_1, body_Parts_1.body, cellN, encM, load_imm, load_immN, hyc, hyc2]
 have hi1 : I true 0 fp (H ++ [ABlk.cells [AVal.yld n] T.func_string_sl_uint8_bool]) := (hI.foot true 0).stable _ _ _ hi (by simp) fun m hm => List.getElem?_append_left ((hI.foot true 0).lt _ _ hi m hm)
 have hfl := (hI.foot true 0).lt _ _ hi
 have hk2 := keeps_append H [ABlk.cells [AVal.yld n] T.func_string_sl_uint8_bool]
 have hl2 : (H ++ [ABlk.cells [AVal.yld n] T.func_string_sl_uint8_bool]).length = H.length + 1 := by simp
 have g0 : (H ++ [ABlk.cells [AVal.yld n] T.func_string_sl_uint8_bool])[H.length]? = some (.cells [.yld n] T.func_string_sl_uint8_bool) := at_0
 generalize H ++ [ABlk.cells [AVal.yld n] T.func_string_sl_uint8_bool] = H2 at *
 refine callK_fn (bcheck_ok _ m v hm _ ?_)
 refine runL_V 60 ?_
 by_cases hc : bcheckE m v = 0
 case neg =>
  have e0 : partFields m v = [] := by rw [partFields, if_neg hc]
  rw [e0]
  simp (disch := first | omega | (simp only [lnx]; omega)) only [stdh, stdx, ↓reduceIte, seval, hc]
  exact ⟨true, 0, fp, fun x h1 h2 => hk2.2 x h1, fun _ => rfl, hi1⟩
 have e0 : partFields m v = versionFields m.k v := by rw [partFields, if_pos hc]
 obtain ⟨hv, hchk⟩ := bcheck_zero hc
 obtain ⟨z1, z2, z3⟩ := (checkM_zero m).1 hchk
 rw [e0] at hI ⊢
 simp (disch := first | omega | (simp only [lnx]; omega)) only [stdh, stdx, ↓reduceIte, seval, hc, load_imm]
 refine callK_fn (fall_ok _ _ _ _ ?_)
 refine runL_V 60 ?_
 simp (disch := first | omega | (simp only [lnx]; omega)) only [stdh, stdx, ↓reduceIte, seval]
 refine range_of (g := F.field_All_1) (first := []) (captured := [cell (.int .i64 m.k), cell (.int .i64 v)]) rfl (by intro n hn; cases hn) (item := fldArgs (versionFields m.k v)) (len := (versionFields m.k v).length) (fun j => rfl)
  (relayJ I [H.length] H2 id) (relayS I [H.length] H2 (.exit 0)) (relayJ_foot hI _ _ _) (relayS_foot hI _ _ _) (fp0 := [H.length] ++ fp) ⟨fp, rfl, fun x hx => ?_, Nat.le_refl _, hi1⟩ ?_ [] (by simp) (fun _ _ _ => fall1_iter) ?_ ?_
 ·simp only [List.mem_singleton] at hx
  subst hx
  exact ⟨fun hh => by have := hfl _ hh; omega, by omega, rfl⟩
 ·rintro as' bd' j fp' H1 hj hn hl hrec ⟨fpI, rfl, hc1, hc2, hi'⟩
  have hn' := hn
  simp only [List.mem_append, not_or, List.mem_singleton] at hn'
  have q0 := (hc1 H.length (by simp)).2.2.trans g0
  rw [id] at hi'
  have hmem : (versionFields m.k v).getD j fld0 ∈ fieldsOf m.k := (List.mem_filter.1 (getD_mem hj)).1
  have hok := fieldsOf_ok3 _ hmem
  have hfit := fits_of hmem hm (z2 _ hmem)
  have hargs : partArgs m (versionFields m.k v) j = [.str ((versionFields m.k v).getD j fld0).name, nums .u8 false (partB m ((versionFields m.k v).getD j fld0))] := rfl
  have hfa : fldArgs (versionFields m.k v) j = [.agg (encF ((versionFields m.k v).getD j fld0))] := rfl
  have hstep := fun {b : ABlk} {L : AHeap} => relay_step (b := b) (L := L) hI (ks := [H.length]) (H0 := H2) hj (l := H2.length) (by omega) (Nat.le_refl _) hn'.2 hc1 hi'
  rw [hargs] at hstep
  rw [hfa]
  generalize (versionFields m.k v).getD j fld0 = x at *
  refine run_V0 60 ?_
  simp (disch := first | omega | (simp only [lnx]; omega)) only [stdh, stdx, ↓reduceIte, seval, body_Parts_1.a1, body_Parts_1.b1, body_Parts_1.d0, hrec, q0, encF, List.zip_cons_cons, List.zip_nil_left, List.reverse_cons, List.reverse_nil, List.getElem?_set_self, List.getElem?_set_ne, at_low, set_low, at_0s, at_ks, load_immN]
  refine callD_fn (part_ok _ m x hok hfit _ ?_)
  refine ⟨by simp (disch := first | omega | (simp only [lnx]; omega)) only [stdh, stdx, ↓reduceIte, seval, q0, List.getElem?_set_ne, at_low, at_0s, encF], ?_⟩
  refine runD_V 60 ?_
  simp (disch := first | omega | (simp only [lnx]; omega)) only [stdh, stdx, ↓reduceIte, seval]
  refine CallV.mono hstep fun av H' hh => ?_
  obtain ⟨fp', hr, hh⟩ := hh
  refine ⟨by simp (disch := first | omega | (simp only [lnx]; omega)) only [stdh, stdx, ↓reduceIte, seval], ?_⟩
  refine runD_V 60 ?_
  rcases hh with ⟨rfl, hi'⟩ | ⟨rfl, hi'⟩
  ·simp (disch := first | omega | (simp only [lnx]; omega)) only [stdh, stdx, ↓reduceIte, seval]
   refine round_fin (n := H2.length) rfl hr.loop ?_
   exact relay_next hr (Nat.le_refl _) hi'
  ·simp (disch := first | omega | (simp only [lnx]; omega)) only [stdh, stdx, ↓reduceIte, seval]
   refine exit_fin (n := H2.length) rfl hr.loop ?_
   exact relay_stop hr (Nat.le_refl _) hi'
 ·rintro fp' H' hl hk ⟨fpI, rfl, hc1, hc2, hi'⟩
  refine run_V0 60 ?_
  simp (disch := first | omega | (simp only [lnx]; omega)) only [stdh, stdx, ↓reduceIte, seval]
  refine run_fin rfl rfl trivial ?_
  refine ⟨true, _, fpI, by omega, fun m hm hf => ?_, fun _ => rfl, hi'⟩
  rw [hk m (by omega) (by simp only [List.mem_append, List.mem_singleton, not_or]; exact ⟨by omega, hf⟩), hk2.2 m hm]
 ·rintro ap j fp' H' hl hk ⟨rfl, k, fpI, rfl, hc1, hc2, hi'⟩
  refine run_V0 60 ?_
  simp (disch := first | omega | (simp only [lnx]; omega)) only [stdh, stdx, ↓reduceIte, seval, jumpItems]
  refine run_fin rfl rfl trivial ?_
  refine ⟨false, _, fpI, by omega, fun m hm hf => ?_, (fun h => by cases h), hi'⟩
  rw [hk m (by omega) (by simp only [List.mem_append, List.mem_singleton, not_or]; exact ⟨by omega, hf⟩), hk2.2 m hm]
theorem parts_ok (H : AHeap) (m : Mg) (v : Int) (Q : AVal → AHeap → Prop) (h : Q (.fn F.body_Parts_1 [] [cellN (encM m), cell (.int .i64 v)]) H) : FunOK Try.prog F.body_Parts [.agg (encM m), .int .i64 v] H Q := by
 refine fun_iced body_Parts_code fun _ => ?_
 refine fun_V 40 body_Parts_code rfl ?_
 simp (disch := first | omega | (simp only [lnx]; omega)) only [stdh, stdx, ↓reduceIte, seval, body_Parts, body_Parts.body, encM]
 refine ⟨keeps_append _ _, [(H.length, encM m), (H.length + 1, [.int .i64 v])], .fn F.body_Parts_1 [] [cellN (encM m), cell (.int .i64 v)], ?_, ?_, h⟩
 ·intro p hp
  simp only [List.mem_cons, List.not_mem_nil, or_false] at hp
  rcases hp with rfl | rfl
  ·refine ⟨encM m, by rw [at_0]; rfl, (mvs_id (L := H.length) (fun _ h => toF_low h) _ (closeds_encM m)).symm, colds_of (L := H.length) (fun _ h => toF_low h) _ (closeds_encM m)⟩
  ·refine ⟨[.int .i64 v], by rw [at_k]; rfl, rfl, ⟨trivial, trivial⟩⟩
 ·have e1 : toF H.length [] [(H.length, encM m), (H.length + 1, [.int .i64 v])] H.length = .ice (encM m) := by
   unfold toF; rw [if_neg (by omega)]; simp [findN, findI]
  have e2 : toF H.length [] [(H.length, encM m), (H.length + 1, [.int .i64 v])] (H.length + 1) = .ice [.int .i64 v] := by
   unfold toF; rw [if_neg (by omega)]; simp [findN, findI]
  simp only [mv, mvs, e1, e2, mvPtr]
  exact Sees.refl _
def bodyB (m : Mg) (L : List Fld) : List Nat := L.flatMap (partB m)
def encB (m : Mg) (v : Int) : List Nat := bodyB m (partFields m v)
theorem bodyB_step (m : Mg) {L : List Fld} {j : Nat} (hj : j < L.length) : bodyB m (L.take (j + 1)) = bodyB m (L.take j) ++ partB m (L.getD j fld0) := by
 rw [bodyB, bodyB, List.take_add_one, List.flatMap_append]
 simp [hj]
theorem partFields_mem {m : Mg} {v : Int} {f : Fld} (h : f ∈ partFields m v) : f ∈ fieldsOf m.k ∧ checkM m = 0 := by
 unfold partFields at h
 split at h
 ·rename_i hb
  exact ⟨(List.mem_filter.1 h).1, (bcheck_zero hb).2⟩
 ·simp at h
theorem partFields_len (m : Mg) (v : Int) : (partFields m v).length ≤ 6 := by
 unfold partFields
 split
 ·exact Nat.le_trans (List.length_filter_le _ _) (fieldsOf_len m.k)
 ·simp
theorem part_short {m : Mg} {v : Int} (hm : m.fine) {f : Fld} (h : f ∈ partFields m v) : (partB m f).length ≤ 192 := by
 obtain ⟨h1, h2⟩ := partFields_mem h
 exact partB_len (fieldsOf_ok3 f h1) (fits_of h1 hm (((checkM_zero m).1 h2).2.1 f h1))
theorem bodyB_len {m : Mg} {v : Int} (hm : m.fine) : ∀ j, j ≤ (partFields m v).length → (bodyB m ((partFields m v).take j)).length ≤ 192 * j
 | 0, _ => by simp [bodyB]
 | j + 1, hj => by
  have ih := bodyB_len (v := v) hm j (by omega)
  have := part_short (v := v) hm (getD_mem (show j < (partFields m v).length by omega))
  rw [bodyB_step m (by omega), List.length_append]; omega
def bytesAcc (c B : Nat) (m : Mg) (L : List Fld) : Acc := ⟨c, T.sl_uint8, 1, T.uint8, B, fun j => (bodyB m (L.take j)).length, fun j => u8s (bodyB m (L.take j))⟩
theorem u8s_append (a b : List Nat) : u8s (a ++ b) = u8s a ++ u8s b := by simp [u8s]
theorem u8s_cell (xs : List Nat) : (u8s xs).all AVal.cellish = true := by simp [u8s, AVal.cellish]
set_option maxHeartbeats 2000000 in
theorem encode_ok (H : AHeap) (m : Mg) (v : Int) (hm : m.fine) (Q : AVal → AHeap → Prop) (h : Q (.tup [nums .u8 false (encB m v), .int .i64 (bcheckE m v)]) H) : FunOK Try.prog F.body_Encode [.agg (encM m), .int .i64 v] H Q := by
 refine fun_iced body_Encode_code fun hcl => ?_
 refine fun_V 60 body_Encode_code rfl ?_
 simp (disch := first | omega | (simp only [lnx]; omega)) only [stdh, stdx, ↓reduceIte, seval, body_Encode, body_Encode.body, encM]
 refine callK_fn (bcheck_ok _ m v hm _ ?_)
 refine runL_V 60 ?_
 by_cases hc : bcheckE m v = 0
 case neg =>
  have e0 : encB m v = [] := by rw [encB, partFields, if_neg hc]; rfl
  rw [e0] at h
  simp (disch := first | omega | (simp only [lnx]; omega)) only [stdh, stdx, ↓reduceIte, seval, hc]
  exact ice_sees ⟨trivial, trivial, trivial⟩ (Sees.tup (.cons (Sees.nils false) (.cons (.refl _) .nil))) h
 rw [hc] at h
 simp (disch := first | omega | (simp only [lnx]; omega)) only [stdh, stdx, ↓reduceIte, seval, hc]
 refine callK_fn (parts_ok _ m v _ ?_)
 refine runL_V 60 ?_
 simp (disch := first | omega | (simp only [lnx]; omega)) only [stdh, stdx, ↓reduceIte, seval]
 have hlen := partFields_len m v
 have hbl := bodyB_len (v := v) hm
 have hps := fun f hf => part_short (v := v) hm (f := f) hf
 have hit := fun (H1 : AHeap) (n : Nat) => @parts1_iter H1 n m v hm
 have hfin : encB m v = bodyB m ((partFields m v).take (partFields m v).length) := by rw [List.take_length]; rfl
 generalize partFields m v = L at *
 have g1 : (H ++ [ABlk.cells [AVal.int IntKind.i64 m.k, AVal.int IntKind.i64 m.n0, AVal.int IntKind.i64 m.n1, AVal.int IntKind.i64 m.n2, AVal.int IntKind.i64 m.n3, AVal.int IntKind.i64 m.n4, AVal.int IntKind.i64 m.n5, recs encP false m.p, ints false m.c, AVal.str m.t, AVal.str m.g] T.msg_Msg, ABlk.cells [AVal.nils] T.sl_uint8])[H.length + 1]? = some (.cells [.nils] T.sl_uint8) := at_k
 have hk2 := keeps_append H [ABlk.cells [AVal.int IntKind.i64 m.k, AVal.int IntKind.i64 m.n0, AVal.int IntKind.i64 m.n1, AVal.int IntKind.i64 m.n2, AVal.int IntKind.i64 m.n3, AVal.int IntKind.i64 m.n4, AVal.int IntKind.i64 m.n5, recs encP false m.p, ints false m.c, AVal.str m.t, AVal.str m.g] T.msg_Msg, ABlk.cells [AVal.nils] T.sl_uint8]
 have hl2 : (H ++ [ABlk.cells [AVal.int IntKind.i64 m.k, AVal.int IntKind.i64 m.n0, AVal.int IntKind.i64 m.n1, AVal.int IntKind.i64 m.n2, AVal.int IntKind.i64 m.n3, AVal.int IntKind.i64 m.n4, AVal.int IntKind.i64 m.n5, recs encP false m.p, ints false m.c, AVal.str m.t, AVal.str m.g] T.msg_Msg, ABlk.cells [AVal.nils] T.sl_uint8]).length = H.length + 2 := by simp
 generalize H ++ [ABlk.cells [AVal.int IntKind.i64 m.k, AVal.int IntKind.i64 m.n0, AVal.int IntKind.i64 m.n1, AVal.int IntKind.i64 m.n2, AVal.int IntKind.i64 m.n3, AVal.int IntKind.i64 m.n4, AVal.int IntKind.i64 m.n5, recs encP false m.p, ints false m.c, AVal.str m.t, AVal.str m.g] T.msg_Msg, ABlk.cells [AVal.nils] T.sl_uint8] = H2 at *
 refine range_acc (g := F.body_Parts_1) (first := []) (captured := [cellN (encM m), cell (.int .i64 v)]) rfl (by intro n hn; cases hn) (item := partArgs m L) (len := L.length) (fun j => rfl) [] (bytesAcc (H.length + 1) H.length m L) (fun _ => none) (a0 := .nils) vars_nil ⟨g1, Own.nil⟩ ?_ (fun _ _ _ => hit _ _) ?_ (fun _ _ _ _ _ _ _ hh => by cases hh)
 ·intro a' b' j H1 a hj _ hl hkp hrec _ ha
  have q1 : H1[H.length + 1]? = some (.cells [a] T.sl_uint8) := ha.1
  have o1 : Own 1 T.uint8 H.length H1 a (bodyB m (L.take j)).length (u8s (bodyB m (L.take j))) := ha.2
  have hst := bodyB_step m hj
  have hb := hbl j (by omega)
  have hp := hps _ (getD_mem hj)
  have hitem : partArgs m L j = [.str (L.getD j fld0).name, nums .u8 false (partB m (L.getD j fld0))] := rfl
  rw [hitem]
  generalize L.getD j fld0 = x at *
  refine run_V0 60 ?_
  simp (disch := first | omega | (simp only [lnx]; omega)) only [stdh, stdx, ↓reduceIte, seval, body_Encode.a0, body_Encode.b0, hrec, q1, List.zip_cons_cons, List.zip_nil_left, List.reverse_cons, List.reverse_nil, List.getElem?_set_self, List.getElem?_set_ne, at_low]
  have hrn := o1.ne_loop hrec
  refine resK_append (k := (partB m x).length) (ys := u8s (partB m x)) ((o1.moved fun m hm => ?_)) (by (first | omega | (simp only [lnx]; omega))) rfl rfl (by simp [u8s]) (by omega) (by omega) (by omega) (u8s_cell _) fun w H3 ov ht hn => ?_
  ·have hlt := (o1.lt m hm).2
   have hmn : H2.length ≠ m := by rintro rfl; exact hrn hm
   simp (disch := first | omega | (simp only [lnx]; omega)) only [List.getElem?_append_left, List.getElem?_set_ne, List.getElem?_set_self, at_0, at_k, List.getElem?_cons_zero, List.getElem?_cons_succ, List.length_append, List.length_set, List.length_cons, List.length_nil, ne_eq, not_false_eq_true, Nat.zero_add]
  have hH2 := ht.le
  simp only [List.length_append, List.length_set, List.length_cons, List.length_nil] at hH2
  have hc1 : H3[H.length + 1]? = some (.cells [a] T.sl_uint8) := by
   rw [ht.kept (H.length + 1) (by (first | omega | (simp only [lnx]; omega))) (o1.ne q1)]; simp (disch := first | omega | (simp only [lnx]; omega)) only [List.getElem?_append_left, List.getElem?_set_ne, List.getElem?_set_self, at_0, at_k, List.getElem?_cons_zero, List.getElem?_cons_succ, List.length_append, List.length_set, List.length_cons, List.length_nil, ne_eq, not_false_eq_true, Nat.zero_add]; exact q1
  have hcl := ov.cell
  have hr2 := ht.kept H2.length (by (first | omega | (simp only [lnx]; omega))) hrn
  simp (disch := first | omega | (simp only [lnx]; omega)) only [List.getElem?_append_left, List.getElem?_set_ne, List.getElem?_set_self, at_0, at_k, List.getElem?_cons_zero, List.getElem?_cons_succ, List.length_append, List.length_set, List.length_cons, List.length_nil, ne_eq, not_false_eq_true, Nat.zero_add] at hr2
  simp (disch := first | omega | (simp only [lnx]; omega)) only [stdh, stdx, ↓reduceIte, seval, hc1, hcl.1, hcl.2]
  refine round_fin (n := H2.length) rfl (by rw [List.getElem?_set_ne (by omega)]; exact hr2) ?_
  refine ⟨by (first | omega | (simp only [lnx]; omega)), fun m m1 m2 m3 m4 m5 => ?_, vars_nil, ⟨w, ⟨?_, ?_⟩, fun m hm => .inr ?_⟩, rfl, ?_⟩
  ·have m4' : m ≠ H.length + 1 := m4
   rw [List.getElem?_set_ne (by omega), List.getElem?_set_ne (by omega), ht.kept m (by (first | omega | (simp only [lnx]; omega))) m5]; simp (disch := first | omega | (simp only [lnx]; omega)) only [List.getElem?_append_left, List.getElem?_set_ne, List.getElem?_set_self, at_0, at_k, List.getElem?_cons_zero, List.getElem?_cons_succ, List.length_append, List.length_set, List.length_cons, List.length_nil, ne_eq, not_false_eq_true, Nat.zero_add]
  ·show (List.set (List.set H3 (H.length + 1) _) H2.length _)[H.length + 1]? = _
   rw [List.getElem?_set_ne (by omega), List.getElem?_set_self (by omega)]; rfl
  ·show Own 1 T.uint8 H.length _ w (bodyB m (L.take (j + 1))).length (u8s (bodyB m (L.take (j + 1))))
   rw [hst, u8s_append, List.length_append]
   refine ov.moved fun m hm => ?_
   have := hn m hm
   simp only [List.length_append, List.length_set, List.length_cons, List.length_nil] at this
   rw [List.getElem?_set_ne (by omega), List.getElem?_set_ne (by omega)]
  ·have := hn m hm
   simp only [List.length_append, List.length_set, List.length_cons, List.length_nil] at this; omega
  ·rw [List.getElem?_set_self (by (first | omega | (simp only [lnx]; omega)))]; rfl
 intro H' a hl hkp _ _ ha
 have q1 : H'[H.length + 1]? = some (.cells [a] T.sl_uint8) := ha.1
 have o1 : Own 1 T.uint8 H.length H' a (bodyB m (L.take L.length)).length (u8s (bodyB m (L.take L.length))) := ha.2
 rw [← hfin] at o1
 have hk3 : Keeps H H' := ⟨by omega, fun n hn => (hkp n (by omega) (by simp) (by show n ≠ H.length + 1; omega) (by simp [AVal.names])).trans (hk2.2 n hn)⟩
 refine run_V0 60 ?_
 simp (disch := first | omega | (simp only [lnx]; omega)) only [stdh, stdx, ↓reduceIte, seval, q1]
 refine ice_tup [(a, nums .u8 false (encB m v)), (.int .i64 0, .int .i64 0)] hk3 ?_ h
 intro q hq
 simp only [List.mem_cons, List.not_mem_nil, or_false] at hq
 rcases hq with rfl | rfl
 ·exact Fin.own o1 (by exact closed_nums (L := H.length) .u8 false (encB m v))
 ·exact Fin.same trivial
theorem mine_mono {k : IntKind} {el : TypeId} {B B' : Nat} {H : AHeap} {a : AVal} {xs : List Nat} (h : Mine k el B H a xs) (hb : B' ≤ B) : Mine k el B' H a xs := by
 refine ⟨?_⟩
 rcases h.is with h | ⟨n, h1, h2⟩
 ·exact .inl h
 ·exact .inr ⟨n, by omega, h2⟩
theorem rzig_ok (H : AHeap) (s : Int) (h0 : -9223372036854775808 ≤ s) (h1 : s < 9223372036854775808) (Q : AVal → AHeap → Prop) (h : Q (.int .u64 (zig s)) H) : FunOK Try.prog F.cuneiformref01_Zig [.int .i64 s] H Q := by
 refine fun_V 100 cuneiformref01_Zig_code rfl ?_
 by_cases hs : s < 0
 ·have e5 : 2 * (0 - (s + 1)) + 1 = (zig s : Int) := by unfold zig; rw [if_pos hs]; omega
  simp (disch := omega) only [std, stdx, ↓reduceIte, seval, cuneiformref01_Zig, cuneiformref01_Zig.body, e5]
  exact h
 ·have e5 : 2 * s = (zig s : Int) := by unfold zig; rw [if_neg hs]; omega
  simp (disch := omega) only [std, stdx, ↓reduceIte, seval, cuneiformref01_Zig, cuneiformref01_Zig.body, e5]
  exact h
def OwnQ (H : AHeap) (ys : List Nat) (Q : AVal → AHeap → Prop) : Prop := ∀ a H', Mine .u8 T.uint8 H.length H' a ys → Keeps H H' → Q a H'
theorem rplain_ok (H : AHeap) (n : Nat) (hn : n ≤ 9223372036854775807) (Q : AVal → AHeap → Prop) (h : OwnQ H (putAll [n]) Q) : FunOK Try.prog F.cuneiformref18_plain [.int .i64 (n : Nat)] H Q := by
 refine fun_V 60 cuneiformref18_plain_code rfl ?_
 have hw : IntKind.u64.wrap (n : Int) = ((n : Nat) : Int) := wrap_u64 (by omega)
 simp (disch := first | omega | (simp only [lnx]; omega)) only [stdh, stdx, ↓reduceIte, seval, cuneiformref18_plain, cuneiformref18_plain.body, hw]
 refine callK_fn (rput_ok _ (nats_one (k := .u64) (n := n)) (by intro x hx; simp only [List.mem_cons, List.not_mem_nil, or_false] at hx; omega) (by simp) _ fun a H' hm hk => ?_)
 refine runL_V 60 ?_
 simp (disch := first | omega | (simp only [lnx]; omega)) only [stdh, stdx, ↓reduceIte, seval]
 exact h a H' (mine_mono hm (by simp)) ((keeps_append _ _).trans hk)
theorem rzig18_ok (H : AHeap) (d : Int) (hd : inI64 d) (Q : AVal → AHeap → Prop) (h : OwnQ H (putAll [zig d]) Q) : FunOK Try.prog F.cuneiformref18_zig [.int .i64 d] H Q := by
 refine fun_V 60 cuneiformref18_zig_code rfl ?_
 simp (disch := first | omega | (simp only [lnx]; omega)) only [stdh, stdx, ↓reduceIte, seval, cuneiformref18_zig, cuneiformref18_zig.body]
 refine callK_fn (rzig_ok _ d hd.1 hd.2 _ ?_)
 refine runL_V 60 ?_
 simp (disch := first | omega | (simp only [lnx]; omega)) only [stdh, stdx, ↓reduceIte, seval]
 refine callK_fn (rput_ok _ (nats_one (k := .u64) (n := zig d)) (by intro x hx; simp only [List.mem_cons, List.not_mem_nil, or_false] at hx; rw [hx]; exact zig_lt hd.1 hd.2) (by simp) _ fun a H' hm hk => ?_)
 refine runL_V 60 ?_
 simp (disch := first | omega | (simp only [lnx]; omega)) only [stdh, stdx, ↓reduceIte, seval]
 exact h a H' (mine_mono hm (by simp)) ((keeps_append _ _).trans hk)
abbrev rprtC : Ctx := ⟨F.cuneiformref18_Part, 137, [.tmp 4], none⟩
set_option maxRecDepth 10000 in
set_option maxHeartbeats 2000000 in
theorem rpart_path {m : Mg} (hlen : m.p.length ≤ 16) (hf : m.p.any farP = false) {H1 : AHeap} {c : Nat} {xs : List Nat} (hxs : xs.length ≤ 2) (e0 : H1[c]? = some (.cells (encM m) T.cuneiformref17_M)) (K : List AItem) (Q : AVal → AHeap → Prop)
  (hQ : ∀ r H a, Keeps H1 H → Mine .u8 T.uint8 H1.length H a (xs ++ pathB (0, 0) m.p) → rget r 5 = a → Run Try.prog rprtC K r H Q) :
  ∀ (z i : Nat) (H : AHeap) (a : AVal), m.p.length - i = z → i ≤ m.p.length → Keeps H1 H → Mine .u8 T.uint8 H1.length H a (xs ++ pathB (0, 0) (m.p.take i)) →
  Rounds Try.prog rprtC cuneiformref18_Part.b2 [.inBlock 1] K [(2, .ptr c 0), (5, a), (6, .int .i64 (i : Nat))] H Q
 | z, i, H, a, h1, h2, hk, hm => by
  refine loop_V 200 cuneiformref18_Part.b2.eq_1 ?_
  have e1 : H[c]? = some (ABlk.cells [.int .i64 m.k, .int .i64 m.n0, .int .i64 m.n1, .int .i64 m.n2, .int .i64 m.n3, .int .i64 m.n4, .int .i64 m.n5, recs encP false m.p, ints false m.c, .str m.t, .str m.g] T.cuneiformref17_M) := hk.get e0
  by_cases hi : i < m.p.length
  ·have hld : ∀ H o i, i < m.p.length → o < 2 → loadA H none (.sptr (recs encP false m.p) (i * 2 + o)) = some (True, (encP (m.p.getD i default)).getD o .junk) := fun H o i hi ho => load_rec1 (enc := encP) (t := false) encP_len hi ho
   have x0 : ∀ H, loadA H none (.sptr (recs encP false m.p) (i * 2 + 0)) = some (True, .int .i64 (m.p.getD i default).1) := fun H => hld H 0 i hi (by omega)
   have x1 : ∀ H, loadA H none (.sptr (recs encP false m.p) (i * 2 + 1)) = some (True, .int .i64 (m.p.getD i default).2) := fun H => hld H 1 i hi (by omega)
   have hb1 := pathB_len (m.p.take i) (0, 0) rfl (by
    rw [List.any_eq_false] at hf ⊢
    exact fun x hx => hf x (List.mem_of_mem_take hx))
   have hb2 := pathB_take (l := m.p) (i := i) (last := (0, 0)) hi
   have nx := near_of (getD_near hf hi)
   have nl : farP (if i = 0 then (0, 0) else m.p.getD (i - 1) default) = false := by
    split
    ·rfl
    ·exact getD_near hf (by omega)
   have nl := near_of nl
   rw [List.length_take] at hb1
   by_cases h0 : i = 0
   ·rw [if_pos h0] at hb2 nl
    have c0 : ¬ (0 : Int) < (i : Int) := by omega
    have d0 : (i : Int) = 0 := by omega
    generalize hx : m.p.getD i default = x at *
    obtain ⟨p1, p2⟩ := x
    simp only [Int.sub_zero] at nx hb2 x0 x1
    simp (disch := first | omega | (simp only [lnx]; omega)) only [stdh, stdx, ↓reduceIte, seval, cuneiformref18_Part.d0, e1, x0, x1, c0]
    refine callK_fn (rzig18_ok _ p1 ⟨by omega, by omega⟩ _ fun b1 H2 hm2 hk2 => ?_)
    refine runL_V 60 ?_
    have hka := hk.trans hk2
    have hsz1 := size_small (zig_small (d := p1) (by omega) (by omega))
    have hsz2 := size_small (zig_small (d := p2) (by omega) (by omega))
    have hl1 : (putAll [zig (p1)]).length ≤ 4 := by simp only [putAll, List.flatMap_cons, List.flatMap_nil, List.append_nil, putOne_length]; omega
    have hl2 : (putAll [zig (p2)]).length ≤ 4 := by simp only [putAll, List.flatMap_cons, List.flatMap_nil, List.append_nil, putOne_length]; omega
    have hxl : (xs ++ pathB (0, 0) (m.p.take i)).length ≤ 130 := by rw [List.length_append]; omega
    obtain ⟨v1, H3, q1, a1, hq1, hm3, hk3⟩ := Mine.append (hm.keep hk2) hm2.nats (bytes := 1) hka rfl (by omega) (by omega) (mine_nostr hm2)
    simp (disch := first | omega | (simp only [lnx]; omega)) only [stdh, stdx, ↓reduceIte, seval, a1, hq1]
    refine callK_fn (rzig18_ok _ p2 ⟨by omega, by omega⟩ _ fun b2 H4 hm4 hk4 => ?_)
    refine runL_V 60 ?_
    have hkb := hk3.trans hk4
    obtain ⟨v2, H5, q2, a2, hq2, hm5, hk5⟩ := Mine.append (hm3.keep hk4) hm4.nats (bytes := 1) hkb rfl (by rw [List.length_append]; omega) (by rw [List.length_append]; omega) (mine_nostr hm4)
    simp (disch := first | omega | (simp only [lnx]; omega)) only [stdh, stdx, ↓reduceIte, seval, a2, hq2]
    rw [show (i : Int) + 1 = ((i + 1 : Nat) : Int) by omega]
    refine rpart_path hlen hf hxs e0 K Q hQ _ (i + 1) _ v2 rfl (by omega) hk5 ?_
    rw [hb2]
    have : putAll [zig (p1), zig (p2)] = putAll [zig (p1)] ++ putAll [zig (p2)] := by simp [putAll]
    rw [this]
    simpa only [List.append_assoc] using hm5
   ·rw [if_neg h0] at hb2 nl
    obtain ⟨j, rfl⟩ : ∃ j, i = j + 1 := ⟨i - 1, by omega⟩
    simp only [Nat.add_sub_cancel] at hb2 nl
    have y0 : ∀ H, loadA H none (.sptr (recs encP false m.p) (j * 2 + 0)) = some (True, .int .i64 (m.p.getD j default).1) := fun H => hld H 0 j (by omega) (by omega)
    have y1 : ∀ H, loadA H none (.sptr (recs encP false m.p) (j * 2 + 1)) = some (True, .int .i64 (m.p.getD j default).2) := fun H => hld H 1 j (by omega) (by omega)
    have c0 : (0 : Int) < ((j + 1 : Nat) : Int) := by omega
    have c1 : ((j + 1 : Nat) : Int) - 1 = ((j : Nat) : Int) := by omega
    generalize hx : m.p.getD (j + 1) default = x at *
    generalize hy : m.p.getD j default = y at *
    obtain ⟨p1, p2⟩ := x
    obtain ⟨r1, r2⟩ := y
    simp only at nx nl hb2 x0 x1 y0 y1
    have w1 : IntKind.i64.wrap (p1 - r1) = p1 - r1 := wrap_i64 (by omega)
    have w2 : IntKind.i64.wrap (p2 - r2) = p2 - r2 := wrap_i64 (by omega)
    simp (disch := first | omega | (simp only [lnx]; omega)) only [stdh, stdx, ↓reduceIte, seval, cuneiformref18_Part.d0, cuneiformref18_Part.d1, e1, x0, x1, y0, y1, c0, c1, w1, w2]
    refine callK_fn (rzig18_ok _ (p1 - r1) ⟨by omega, by omega⟩ _ fun b1 H2 hm2 hk2 => ?_)
    refine runL_V 60 ?_
    have hka := hk.trans hk2
    have hsz1 := size_small (zig_small (d := (p1 - r1)) (by omega) (by omega))
    have hsz2 := size_small (zig_small (d := (p2 - r2)) (by omega) (by omega))
    have hl1 : (putAll [zig ((p1 - r1))]).length ≤ 4 := by simp only [putAll, List.flatMap_cons, List.flatMap_nil, List.append_nil, putOne_length]; omega
    have hl2 : (putAll [zig ((p2 - r2))]).length ≤ 4 := by simp only [putAll, List.flatMap_cons, List.flatMap_nil, List.append_nil, putOne_length]; omega
    have hxl : (xs ++ pathB (0, 0) (m.p.take (j + 1))).length ≤ 130 := by rw [List.length_append]; omega
    obtain ⟨v1, H3, q1, a1, hq1, hm3, hk3⟩ := Mine.append (hm.keep hk2) hm2.nats (bytes := 1) hka rfl (by omega) (by omega) (mine_nostr hm2)
    simp (disch := first | omega | (simp only [lnx]; omega)) only [stdh, stdx, ↓reduceIte, seval, a1, hq1]
    refine callK_fn (rzig18_ok _ (p2 - r2) ⟨by omega, by omega⟩ _ fun b2 H4 hm4 hk4 => ?_)
    refine runL_V 60 ?_
    have hkb := hk3.trans hk4
    obtain ⟨v2, H5, q2, a2, hq2, hm5, hk5⟩ := Mine.append (hm3.keep hk4) hm4.nats (bytes := 1) hkb rfl (by rw [List.length_append]; omega) (by rw [List.length_append]; omega) (mine_nostr hm4)
    simp (disch := first | omega | (simp only [lnx]; omega)) only [stdh, stdx, ↓reduceIte, seval, a2, hq2]
    rw [show ((j + 1 : Nat) : Int) + 1 = ((j + 1 + 1 : Nat) : Int) by omega]
    refine rpart_path hlen hf hxs e0 K Q hQ _ (j + 1 + 1) _ v2 rfl (by omega) hk5 ?_
    rw [hb2]
    have : putAll [zig ((p1 - r1)), zig ((p2 - r2))] = putAll [zig ((p1 - r1))] ++ putAll [zig ((p2 - r2))] := by simp [putAll]
    rw [this]
    simpa only [List.append_assoc] using hm5
  ·simp (disch := first | omega | (simp only [lnx]; omega)) only [stdh, stdx, ↓reduceIte, seval, e1]
   rw [List.take_of_length_le (by omega)] at hm
   exact hQ _ H a hk hm rfl
 termination_by z => z
set_option maxRecDepth 10000 in
set_option maxHeartbeats 2000000 in
theorem rpart_cells {m : Mg} (hlen : m.c.length ≤ 32) (hf : cellsGo (-1) m.c = 0) {H1 : AHeap} {c : Nat} {xs : List Nat} (hxs : xs.length ≤ 2) (e0 : H1[c]? = some (.cells (encM m) T.cuneiformref17_M)) (K : List AItem) (Q : AVal → AHeap → Prop)
  (hQ : ∀ r H a, Keeps H1 H → Mine .u8 T.uint8 H1.length H a (xs ++ cellsB (-1) m.c) → rget r 5 = a → Run Try.prog rprtC K r H Q) :
  ∀ (z i : Nat) (H : AHeap) (a : AVal), m.c.length - i = z → i ≤ m.c.length → Keeps H1 H → Mine .u8 T.uint8 H1.length H a (xs ++ cellsB (-1) (m.c.take i)) →
  Rounds Try.prog rprtC cuneiformref18_Part.b4 [.inBlock 3] K [(2, .ptr c 0), (5, a), (9, .int .i64 (i : Nat))] H Q
 | z, i, H, a, h1, h2, hk, hm => by
  refine loop_V 200 cuneiformref18_Part.b4.eq_1 ?_
  have e1 : H[c]? = some (ABlk.cells [.int .i64 m.k, .int .i64 m.n0, .int .i64 m.n1, .int .i64 m.n2, .int .i64 m.n3, .int .i64 m.n4, .int .i64 m.n5, recs encP false m.p, ints false m.c, .str m.t, .str m.g] T.cuneiformref17_M) := hk.get e0
  by_cases hi : i < m.c.length
  ·have hb1 := cellsB_len hf i (by omega)
   have hb2 := cellsB_take (l := m.c) (i := i) (last := -1) hi
   have nx := cellsGo_zero hf i hi
   have hnext : ∀ (d : Int) (b1 : AVal) (H2 : AHeap), 0 ≤ d → d ≤ 65536 → Mine .u8 T.uint8 H.length H2 b1 (putAll [d.toNat]) → Keeps H H2 → cellsB (-1) (m.c.take (i + 1)) = cellsB (-1) (m.c.take i) ++ putAll [d.toNat] →
     ∃ v H3 q, appendA H2 T.uint8 1 1 a b1 = some (q, v, H3) ∧ q ∧ Rounds Try.prog rprtC cuneiformref18_Part.b4 [.inBlock 3] K [(2, .ptr c 0), (5, v), (9, .int .i64 (i + 1 : Nat))] H3 Q := by
    intro d b1 H2 d0 d1 hm2 hk2 hb
    have hs1 := sizeOf_le 2 d.toNat (by omega)
    have hl1 : (putAll [d.toNat]).length ≤ 3 := by simp only [putAll, List.flatMap_cons, List.flatMap_nil, List.append_nil, putOne_length]; omega
    have hxl : (xs ++ cellsB (-1) (m.c.take i)).length ≤ 130 := by rw [List.length_append]; omega
    obtain ⟨v1, H3, q1, a1, hq1, hm3, hk3⟩ := Mine.append (hm.keep hk2) hm2.nats (bytes := 1) (hk.trans hk2) rfl (by omega) (by omega) (mine_nostr hm2)
    refine ⟨v1, H3, q1, a1, hq1, rpart_cells hlen hf hxs e0 K Q hQ _ (i + 1) _ v1 rfl (by omega) hk3 ?_⟩
    rw [hb]
    simpa only [List.append_assoc] using hm3
   by_cases h0 : i = 0
   ·rw [if_pos h0] at hb2 nx
    have l0 : ∀ H, loadA H none (.sptr (ints false m.c) 0) = some (True, .int .i64 (m.c.getD 0 0)) := fun H => load_ints (by omega)
    have d0 : decide ((i : Int) = 0) = true := decide_eq_true (by omega)
    have hxi : m.c.getD i 0 = m.c.getD 0 0 := by rw [h0]
    rw [hxi] at nx hb2
    have e2 : m.c.getD 0 0 = (((m.c.getD 0 0).toNat : Nat) : Int) := by omega
    generalize m.c.getD 0 0 = x at *
    simp (disch := first | omega | (simp only [lnx]; omega)) only [stdh, stdx, ↓reduceIte, seval, e1, l0, d0]
    rw [e2]
    refine callK_fn (rplain_ok _ x.toNat (by omega) _ fun b1 H2 hm2 hk2 => ?_)
    refine runL_V 60 ?_
    obtain ⟨v, H3, q, a1, hq, hr⟩ := hnext x b1 H2 (by omega) (by omega) hm2 hk2 (by rw [hb2, show x - -1 - 1 = x by omega])
    simp (disch := first | omega | (simp only [lnx]; omega)) only [stdh, stdx, ↓reduceIte, seval, a1, hq]
    rw [show (i : Int) + 1 = ((i + 1 : Nat) : Int) by omega]
    exact hr
   ·rw [if_neg h0] at hb2 nx
    obtain ⟨j, rfl⟩ : ∃ j, i = j + 1 := ⟨i - 1, by omega⟩
    simp only [Nat.add_sub_cancel] at hb2 nx
    have ny := cellsGo_zero hf j (by omega)
    have l0 : ∀ H, loadA H none (.sptr (ints false m.c) (j + 1)) = some (True, .int .i64 (m.c.getD (j + 1) 0)) := fun H => load_ints hi
    have l1 : ∀ H, loadA H none (.sptr (ints false m.c) j) = some (True, .int .i64 (m.c.getD j 0)) := fun H => load_ints (by omega)
    have d0 : decide (((j + 1 : Nat) : Int) = 0) = false := decide_eq_false (by omega)
    have c1 : ((j + 1 : Nat) : Int) - 1 = ((j : Nat) : Int) := by omega
    generalize m.c.getD (j + 1) 0 = x at *
    generalize m.c.getD j 0 = y at *
    have w1 : IntKind.i64.wrap (x - y) = x - y := wrap_i64 (by omega)
    have w2 : IntKind.i64.wrap (x - y - 1) = (((x - y - 1).toNat : Nat) : Int) := by rw [wrap_i64 (by omega)]; omega
    simp (disch := first | omega | (simp only [lnx]; omega)) only [stdh, stdx, ↓reduceIte, seval, e1, l0, l1, d0, c1, w1, w2, cuneiformref18_Part.d3]
    refine callD_fn (rplain_ok _ (x - y - 1).toNat (by omega) _ fun b1 H2 hm2 hk2 => ?_)
    refine ⟨by simp (disch := first | omega | (simp only [lnx]; omega)) only [stdh, stdx, ↓reduceIte, seval], ?_⟩
    refine runD_V 60 ?_
    obtain ⟨v, H3, q, a1, hq, hr⟩ := hnext (x - y - 1) b1 H2 (by omega) (by omega) hm2 hk2 hb2
    simp (disch := first | omega | (simp only [lnx]; omega)) only [stdh, stdx, ↓reduceIte, seval, a1, hq]
    rw [show ((j + 1 : Nat) : Int) + 1 = ((j + 1 + 1 : Nat) : Int) by omega]
    exact hr
  ·simp (disch := first | omega | (simp only [lnx]; omega)) only [stdh, stdx, ↓reduceIte, seval, e1]
   rw [List.take_of_length_le (by omega)] at hm
   exact hQ _ H a hk hm rfl
 termination_by z => z
theorem mine_app_str {el : TypeId} {B : Nat} {H0 H : AHeap} {a : AVal} {xs : List Nat} {s : ByteArray} (h : Mine .u8 el B H a xs) (hk : Keeps H0 H) (hB : B = H0.length) (hl : xs.length + s.size ≤ 1000000) :
  ∃ v H' p, appendA H el 1 1 a (.str s) = some (p, v, H') ∧ p ∧ Mine .u8 el B H' v (xs ++ bytesOf s) ∧ Keeps H0 H' := by
 subst hB
 have h1 : srcLen (.str s) = some (bytesOf s).length := by rw [bytesOf_len]; rfl
 have h2 : srcCells H (.str s) = some ((bytesOf s).map fun n : Nat => AVal.int .u8 (n : Int)) := by simp [srcCells, bytesOf]
 have h3 := bytesOf_len s
 rcases h.is with ⟨rfl, rfl⟩ | ⟨n, hn, rfl, hb⟩
 ·refine ⟨_, _, _, by simp only [appendA, h1, h2]; rfl, ?_, ⟨.inr ⟨H.length, hk.le, by simp, by simp⟩⟩, hk.push _⟩
  simp at hl
  refine ⟨by simp, by omega, by omega, by omega⟩
 ·refine ⟨_, _, _, by simp only [appendA, h1, h2, hb]; rfl, ?_, ⟨.inr ⟨(H.set n .dead).length, by simp; exact hk.le, by simp, by simp⟩⟩, (hk.set hn _).push _⟩
  refine ⟨by simp, by omega, by omega, by omega, by trivial, by trivial, by trivial, by trivial, by simp, ?_⟩
  simp [AVal.cellish]
set_option maxRecDepth 10000 in
set_option maxHeartbeats 4000000 in
theorem rpart_ok (H : AHeap) (m : Mg) (f : Fld) (hf : f.ok3) (hm : Fits192 m f) (Q : AVal → AHeap → Prop) (h : Q (nums .u8 false (partB m f)) H) : FunOK Try.prog F.cuneiformref18_Part [.agg (encM m), .agg (encF f)] H Q := by
 refine fun_iced cuneiformref18_Part_code fun _ => ?_
 refine fun_V 100 cuneiformref18_Part_code rfl ?_
 have small : ∀ n : Nat, n < 128 → (putAll [n]).length ≤ 1 := fun n hn => by
  simp only [putAll, List.flatMap_cons, List.flatMap_nil, List.append_nil, putOne_length]; rw [sizeOf_lt hn]; omega
 obtain ⟨g1, g2, g3, g4, g5, g6⟩ := hm
 by_cases s1 : f.sort = 1
 ·have hn := g1 s1
  have e : partB m f = putAll [(m.num f.place).toNat] := by rw [partB, if_pos s1]
  have e2 : m.num f.place = (((m.num f.place).toNat : Nat) : Int) := by omega
  have hp6 : f.place = 0 ∨ f.place = 1 ∨ f.place = 2 ∨ f.place = 3 ∨ f.place = 4 ∨ f.place = 5 := by
   rcases hf with ⟨_, q | q | q | q⟩ | ⟨_, q⟩ <;> first | exact q | omega
  rw [e] at h
  rcases hp6 with p | p | p | p | p | p
  all_goals
   simp only [p, Mg.num, if_true, if_false, Int.reduceEq] at hn e2 h
   simp (disch := first | omega | (simp only [lnx]; omega)) only [stdh, stdx, ↓reduceIte, seval, cuneiformref18_Part, cuneiformref18_Part.body, encM, encF, s1, p]
   rw [e2]
   refine callK_fn (rplain_ok _ _ (by omega) _ fun a H2 hm2 hk2 => ?_)
   refine runL_V 60 ?_
   simp (disch := first | omega | (simp only [lnx]; omega)) only [stdh, stdx, ↓reduceIte, seval]
   exact ice_mine ((keeps_append _ _).trans hk2) (mine_mono hm2 (by simp)) h
 by_cases s2 : f.sort = 2
 ·have hn := g2 s2
  have e : partB m f = putAll [zig (m.num f.place)] := by rw [partB, if_neg s1, if_pos s2]
  have hp6 : f.place = 0 ∨ f.place = 1 ∨ f.place = 2 ∨ f.place = 3 ∨ f.place = 4 ∨ f.place = 5 := by
   rcases hf with ⟨_, q | q | q | q⟩ | ⟨_, q⟩ <;> first | exact q | omega
  rw [e] at h
  rcases hp6 with p | p | p | p | p | p
  all_goals
   simp only [p, Mg.num, if_true, if_false, Int.reduceEq] at hn h
   simp (disch := first | omega | (simp only [lnx]; omega)) only [stdh, stdx, ↓reduceIte, seval, cuneiformref18_Part, cuneiformref18_Part.body, encM, encF, s2, p, Int.reduceEq]
   refine callK_fn (rzig18_ok _ _ hn _ fun a H2 hm2 hk2 => ?_)
   refine runL_V 60 ?_
   simp (disch := first | omega | (simp only [lnx]; omega)) only [stdh, stdx, ↓reduceIte, seval]
   exact ice_mine ((keeps_append _ _).trans hk2) (mine_mono hm2 (by simp)) h
 have e0 : (H ++ [ABlk.cells [AVal.int IntKind.i64 m.k, AVal.int IntKind.i64 m.n0, AVal.int IntKind.i64 m.n1, AVal.int IntKind.i64 m.n2, AVal.int IntKind.i64 m.n3, AVal.int IntKind.i64 m.n4, AVal.int IntKind.i64 m.n5, recs encP false m.p, ints false m.c, AVal.str m.t, AVal.str m.g] T.cuneiformref17_M, ABlk.cells [AVal.str f.name, AVal.int IntKind.i64 f.sort, AVal.int IntKind.i64 f.place, AVal.int IntKind.i64 f.least, AVal.int IntKind.i64 f.most, AVal.int IntKind.i64 f.since, AVal.int IntKind.i64 f.absent] T.cuneiformref16_F])[H.length]? = some (.cells (encM m) T.cuneiformref17_M) := at_0
 by_cases s3 : f.sort = 3
 ·obtain ⟨n1, n2⟩ := g3 s3
  have e : partB m f = putAll [m.p.length] ++ pathB (0, 0) m.p := by rw [partB, if_neg s1, if_neg s2, if_pos s3]
  have hs := small m.p.length (by omega)
  rw [s3] at e0
  simp (disch := first | omega | (simp only [lnx]; omega)) only [stdh, stdx, ↓reduceIte, seval, cuneiformref18_Part, cuneiformref18_Part.body, encM, encF, s3, Int.reduceEq]
  refine callK_fn (rplain_ok _ _ (by omega) _ fun a H2 hm2 hk2 => ?_)
  refine runL_V 60 ?_
  simp (disch := first | omega | (simp only [lnx]; omega)) only [stdh, stdx, ↓reduceIte, seval]
  refine rpart_path n1 n2 (xs := putAll [m.p.length]) (by omega) e0 _ _ ?_ _ 0 H2 a rfl (by omega) hk2 (by simpa [pathB] using hm2)
  ·intro r H3 b hk3 hm3 hr
   refine run_V0 60 ?_
   simp (disch := first | omega | (simp only [lnx]; omega)) only [stdh, stdx, ↓reduceIte, seval, hr]
   refine ice_mine ((keeps_append _ _).trans hk3) (mine_mono hm3 (by simp)) ?_
   rw [e] at h; exact h
 by_cases s4 : f.sort = 4
 ·obtain ⟨n1, n2⟩ := g4 s4
  have e : partB m f = putAll [m.c.length] ++ cellsB (-1) m.c := by rw [partB, if_neg s1, if_neg s2, if_neg s3, if_pos s4]
  have hs := small m.c.length (by omega)
  rw [s4] at e0
  simp (disch := first | omega | (simp only [lnx]; omega)) only [stdh, stdx, ↓reduceIte, seval, cuneiformref18_Part, cuneiformref18_Part.body, encM, encF, s4, Int.reduceEq]
  refine callK_fn (rplain_ok _ _ (by omega) _ fun a H2 hm2 hk2 => ?_)
  refine runL_V 60 ?_
  simp (disch := first | omega | (simp only [lnx]; omega)) only [stdh, stdx, ↓reduceIte, seval]
  refine rpart_cells n1 n2 (xs := putAll [m.c.length]) (by omega) e0 _ _ ?_ _ 0 H2 a rfl (by omega) hk2 (by simpa [cellsB] using hm2)
  ·intro r H3 b hk3 hm3 hr
   refine run_V0 60 ?_
   simp (disch := first | omega | (simp only [lnx]; omega)) only [stdh, stdx, ↓reduceIte, seval, hr]
   refine ice_mine ((keeps_append _ _).trans hk3) (mine_mono hm3 (by simp)) ?_
   rw [e] at h; exact h
 by_cases s5 : f.sort = 5
 ·have n1 := g5 s5
  have n2 := bytesOf_len m.t
  have e : partB m f = putAll [(bytesOf m.t).length] ++ bytesOf m.t := by rw [partB, if_neg s1, if_neg s2, if_neg s3, if_neg s4, if_pos s5]
  have hs := small m.t.size (by omega)
  simp (disch := first | omega | (simp only [lnx]; omega)) only [stdh, stdx, ↓reduceIte, seval, cuneiformref18_Part, cuneiformref18_Part.body, encM, encF, s5, Int.reduceEq, cuneiformref18_Part.d5]
  refine callD_fn (rplain_ok _ m.t.size (by omega) _ fun a H2 hm2 hk2 => ?_)
  have c0 := hk2.get at_0
  refine ⟨by simp (disch := first | omega | (simp only [lnx]; omega)) only [stdh, stdx, ↓reduceIte, seval, c0, encM], ?_⟩
  refine runD_V 60 ?_
  obtain ⟨v, H3, q, a1, hq, hm3, hk3⟩ := mine_app_str hm2 (s := m.t) hk2 rfl (by omega)
  simp (disch := first | omega | (simp only [lnx]; omega)) only [stdh, stdx, ↓reduceIte, seval, a1, hq]
  refine ice_mine ((keeps_append _ _).trans hk3) (mine_mono hm3 (by simp)) ?_
  rw [e, n2] at h; exact h
 have s6 : f.sort = 6 := by
  rcases hf with ⟨_, q | q | q | q⟩ | ⟨q | q, _⟩
  ·exact absurd q s3
  ·exact absurd q s4
  ·exact absurd q s5
  ·exact q
  ·exact absurd q s1
  ·exact absurd q s2
 ·have n1 := g6 s6
  have n2 := bytesOf_len m.g
  have e : partB m f = putAll [(bytesOf m.g).length] ++ bytesOf m.g := by rw [partB, if_neg s1, if_neg s2, if_neg s3, if_neg s4, if_neg s5]
  have hs := small m.g.size (by omega)
  simp (disch := first | omega | (simp only [lnx]; omega)) only [stdh, stdx, ↓reduceIte, seval, cuneiformref18_Part, cuneiformref18_Part.body, encM, encF, s6, Int.reduceEq, cuneiformref18_Part.d6]
  refine callD_fn (rplain_ok _ m.g.size (by omega) _ fun a H2 hm2 hk2 => ?_)
  have c0 := hk2.get at_0
  refine ⟨by simp (disch := first | omega | (simp only [lnx]; omega)) only [stdh, stdx, ↓reduceIte, seval, c0, encM], ?_⟩
  refine runD_V 60 ?_
  obtain ⟨v, H3, q, a1, hq, hm3, hk3⟩ := mine_app_str hm2 (s := m.g) hk2 rfl (by omega)
  simp (disch := first | omega | (simp only [lnx]; omega)) only [stdh, stdx, ↓reduceIte, seval, a1, hq]
  refine ice_mine ((keeps_append _ _).trans hk3) (mine_mono hm3 (by simp)) ?_
  rw [e, n2] at h; exact h
abbrev rencC : Ctx := ⟨F.cuneiformref18_Encode, 45, [.tmp 4, .tmp 5], none⟩
theorem body_filter (m : Mg) {l : List Fld} {v : Int} {i : Nat} (hi : i < l.length) : bodyB m ((l.take (i + 1)).filter fun f => decide (f.since ≤ v)) = bodyB m ((l.take i).filter fun f => decide (f.since ≤ v)) ++ (if (l.getD i fld0).since ≤ v then partB m (l.getD i fld0) else []) := by
 rw [List.take_add_one, List.filter_append]
 simp only [bodyB, List.flatMap_append]
 congr 1
 simp only [List.getElem?_eq_getElem hi, Option.toList_some, List.getD_eq_getElem?_getD, Option.getD_some]
 split <;> simp_all
set_option maxRecDepth 10000 in
set_option maxHeartbeats 2000000 in
theorem renc_loop {m : Mg} {v : Int} {l : List Fld} (hlen : l.length ≤ 6) (hok : ∀ f ∈ l, f.ok3 ∧ Fits192 m f) {H1 : AHeap} {c : Nat} (e0 : H1[c]? = some (.cells (encM m) T.cuneiformref17_M)) (K : List AItem) (Q : AVal → AHeap → Prop)
  (hQ : ∀ r H a, Keeps H1 H → Mine .u8 T.uint8 H1.length H a (bodyB m (l.filter fun f => decide (f.since ≤ v))) → rget r 7 = a → Run Try.prog rencC K r H Q) :
  ∀ (z i : Nat) (H : AHeap) (a : AVal), l.length - i = z → i ≤ l.length → Keeps H1 H → Mine .u8 T.uint8 H1.length H a (bodyB m ((l.take i).filter fun f => decide (f.since ≤ v))) → (bodyB m ((l.take i).filter fun f => decide (f.since ≤ v))).length ≤ 192 * i →
  Rounds Try.prog rencC cuneiformref18_Encode.b1 [.inBlock 0] K [(1, .int .i64 v), (2, .ptr c 0), (6, recs encF false l), (7, a), (8, .int .i64 (i : Nat))] H Q
 | z, i, H, a, h1, h2, hk, hm, hb => by
  refine loop_V 200 cuneiformref18_Encode.b1.eq_1 ?_
  have e1 : H[c]? = some (ABlk.cells [.int .i64 m.k, .int .i64 m.n0, .int .i64 m.n1, .int .i64 m.n2, .int .i64 m.n3, .int .i64 m.n4, .int .i64 m.n5, recs encP false m.p, ints false m.c, .str m.t, .str m.g] T.cuneiformref17_M) := hk.get e0
  by_cases hi : i < l.length
  ·have hst := body_filter m (l := l) (v := v) hi
   have hld : ∀ H, loadA H (some 7) (.sptr (recs encF false l) (i * 7)) = some (True, .agg (encF (l.getD i fld0))) := fun H => load_recs (enc := encF) (t := false) encF_len hi
   have l5 : ∀ H, loadA H none (.sptr (recs encF false l) (i * 7 + 5)) = some (True, .int .i64 (l.getD i fld0).since) := fun H => load_rec1 (enc := encF) (t := false) encF_len hi (by omega)
   obtain ⟨ok1, ok2⟩ := hok _ (getD_mem hi)
   generalize l.getD i fld0 = x at *
   have hcast : (i : Int) + 1 = ((i + 1 : Nat) : Int) := by omega
   by_cases hs : x.since ≤ v
   ·rw [if_pos hs] at hst
    have hpl := partB_len ok1 ok2
    simp (disch := first | omega | (simp only [lnx]; omega)) only [stdh, stdx, ↓reduceIte, seval, e1, hld, l5, hs, cuneiformref18_Encode.d0]
    refine callD_fn (rpart_ok _ m x ok1 ok2 _ ?_)
    refine ⟨by simp (disch := first | omega | (simp only [lnx]; omega)) only [stdh, stdx, ↓reduceIte, seval], ?_⟩
    refine runD_V 60 ?_
    obtain ⟨w, H3, q1, a1, hq1, hm3, hk3⟩ := Mine.append hm (nums_nats .u8 false (partB m x) H) (bytes := 1) hk rfl (by omega) (by omega) (nums_nostr _ _ _)
    simp (disch := first | omega | (simp only [lnx]; omega)) only [stdh, stdx, ↓reduceIte, seval, a1, hq1]
    rw [hcast]
    refine renc_loop hlen hok e0 K Q hQ _ (i + 1) _ w rfl (by omega) hk3 (by rw [hst]; exact hm3) (by rw [hst, List.length_append]; omega)
   ·rw [if_neg hs, List.append_nil] at hst
    simp (disch := first | omega | (simp only [lnx]; omega)) only [stdh, stdx, ↓reduceIte, seval, e1, hld, l5, hs]
    rw [hcast]
    exact renc_loop hlen hok e0 K Q hQ _ (i + 1) _ a rfl (by omega) hk (by rw [hst]; exact hm) (by rw [hst]; omega)
  ·simp (disch := first | omega | (simp only [lnx]; omega)) only [stdh, stdx, ↓reduceIte, seval]
   rw [List.take_of_length_le (by omega)] at hm
   exact hQ _ H a hk hm rfl
 termination_by z => z
theorem rencode_ok (H : AHeap) (m : Mg) (v : Int) (hm : m.fine2) (Q : AVal → AHeap → Prop) (h : Q (.tup [nums .u8 false (encB m v), .int .i64 (bcheckE m v)]) H) : FunOK Try.prog F.cuneiformref18_Encode [.agg (encM m), .int .i64 v] H Q := by
 refine fun_iced cuneiformref18_Encode_code fun hcl => ?_
 refine fun_V 60 cuneiformref18_Encode_code rfl ?_
 have bad : ∀ L e, bcheckE m v = e → e ≠ 0 → IceQ H Q (.tup [.nils, .int .i64 e]) (H ++ L) := fun L e he hn => by
  have e0 : encB m v = [] := by rw [encB, partFields, if_neg (by omega)]; rfl
  rw [e0, he] at h
  exact ice_sees ⟨trivial, trivial, trivial⟩ (Sees.tup (.cons (Sees.nils false) (.cons (.refl _) .nil))) h
 have hb : bcheckE m v = if v ≠ 1 ∧ v ≠ 2 then 10 else checkM m := rfl
 by_cases hv : v ≠ 1 ∧ v ≠ 2
 ·rw [if_pos hv] at hb
  simp (disch := first | omega | (simp only [lnx]; omega)) only [stdh, stdx, ↓reduceIte, seval, cuneiformref18_Encode, cuneiformref18_Encode.body, encM, hv.1, hv.2]
  exact bad _ 10 hb (by decide)
 rw [if_neg hv] at hb
 have go : ∀ (K' : Prop), (K' → True) := fun _ _ => trivial
 by_cases hc : checkM m = 0
 case neg =>
  by_cases h1 : v = 1
  ·have hd : decide (v = 1) = true := decide_eq_true h1
   simp (disch := first | omega | (simp only [lnx]; omega)) only [stdh, stdx, ↓reduceIte, seval, cuneiformref18_Encode, cuneiformref18_Encode.body, encM, hd]
   refine callK_fn (rcheck_ok _ m hm _ ?_)
   refine runL_V 60 ?_
   simp (disch := first | omega | (simp only [lnx]; omega)) only [stdh, stdx, ↓reduceIte, seval, hc]
   refine callK_fn (rcheck_ok _ m hm _ ?_)
   refine runL_V 60 ?_
   simp (disch := first | omega | (simp only [lnx]; omega)) only [stdh, stdx, ↓reduceIte, seval]
   exact bad _ _ hb hc
  ·have hd : decide (v = 2) = true := decide_eq_true (by omega)
   simp (disch := first | omega | (simp only [lnx]; omega)) only [stdh, stdx, ↓reduceIte, seval, cuneiformref18_Encode, cuneiformref18_Encode.body, encM, h1, hd]
   refine callK_fn (rcheck_ok _ m hm _ ?_)
   refine runL_V 60 ?_
   simp (disch := first | omega | (simp only [lnx]; omega)) only [stdh, stdx, ↓reduceIte, seval, hc]
   refine callK_fn (rcheck_ok _ m hm _ ?_)
   refine runL_V 60 ?_
   simp (disch := first | omega | (simp only [lnx]; omega)) only [stdh, stdx, ↓reduceIte, seval]
   exact bad _ _ hb hc
 rw [hc] at hb
 rw [hb] at h
 have hpf : partFields m v = (fieldsOf m.k).filter fun f => decide (f.since ≤ v) := by rw [partFields, if_pos hb]; rfl
 have hz := (checkM_zero m).1 hc
 have hok : ∀ f ∈ fieldsOf m.k, f.ok3 ∧ Fits192 m f := fun f hf => ⟨fieldsOf_ok3 f hf, fits_of hf hm.fine (hz.2.1 f hf)⟩
 have e0 : (H ++ [ABlk.cells [AVal.int IntKind.i64 m.k, AVal.int IntKind.i64 m.n0, AVal.int IntKind.i64 m.n1, AVal.int IntKind.i64 m.n2, AVal.int IntKind.i64 m.n3, AVal.int IntKind.i64 m.n4, AVal.int IntKind.i64 m.n5, recs encP false m.p, ints false m.c, AVal.str m.t, AVal.str m.g] T.cuneiformref17_M])[H.length]? = some (.cells (encM m) T.cuneiformref17_M) := at_0
 have fin : ∀ (r : Regs) H3 b, Keeps (H ++ [ABlk.cells [AVal.int IntKind.i64 m.k, AVal.int IntKind.i64 m.n0, AVal.int IntKind.i64 m.n1, AVal.int IntKind.i64 m.n2, AVal.int IntKind.i64 m.n3, AVal.int IntKind.i64 m.n4, AVal.int IntKind.i64 m.n5, recs encP false m.p, ints false m.c, AVal.str m.t, AVal.str m.g] T.cuneiformref17_M]) H3 →
   Mine .u8 T.uint8 (H ++ [ABlk.cells [AVal.int IntKind.i64 m.k, AVal.int IntKind.i64 m.n0, AVal.int IntKind.i64 m.n1, AVal.int IntKind.i64 m.n2, AVal.int IntKind.i64 m.n3, AVal.int IntKind.i64 m.n4, AVal.int IntKind.i64 m.n5, recs encP false m.p, ints false m.c, AVal.str m.t, AVal.str m.g] T.cuneiformref17_M]).length H3 b (bodyB m ((fieldsOf m.k).filter fun f => decide (f.since ≤ v))) →
   IceQ H Q (.tup [b, .int .i64 0]) H3 := fun r H3 b hk3 hm3 => by
  refine ice_tup [(b, nums .u8 false (encB m v)), (.int .i64 0, .int .i64 0)] ((keeps_append _ _).trans hk3) ?_ h
  intro q hq
  simp only [List.mem_cons, List.not_mem_nil, or_false] at hq
  rcases hq with rfl | rfl
  ·rw [encB, hpf]
   exact Fin.own (mine_own (mine_mono hm3 (by simp))) (closeds_ints _ _)
  ·exact Fin.same trivial
 by_cases h1 : v = 1
 ·have hd : decide (v = 1) = true := decide_eq_true h1
  simp (disch := first | omega | (simp only [lnx]; omega)) only [stdh, stdx, ↓reduceIte, seval, cuneiformref18_Encode, cuneiformref18_Encode.body, encM, hd]
  refine callK_fn (rcheck_ok _ m hm _ ?_)
  refine runL_V 60 ?_
  simp (disch := first | omega | (simp only [lnx]; omega)) only [stdh, stdx, ↓reduceIte, seval, hc]
  refine callK_fn (rall16_ok _ _ _ ?_)
  refine runL_V 60 ?_
  simp (disch := first | omega | (simp only [lnx]; omega)) only [stdh, stdx, ↓reduceIte, seval]
  refine renc_loop (fieldsOf_len m.k) hok e0 _ _ ?_ _ 0 _ .nils rfl (by omega) (Keeps.refl _) ⟨.inl ⟨rfl, rfl⟩⟩ (by simp [bodyB])
  intro r H3 b hk3 hm3 hr
  refine run_V0 60 ?_
  simp (disch := first | omega | (simp only [lnx]; omega)) only [stdh, stdx, ↓reduceIte, seval, hr]
  exact fin r H3 b hk3 hm3
 ·have hd : decide (v = 2) = true := decide_eq_true (by omega)
  simp (disch := first | omega | (simp only [lnx]; omega)) only [stdh, stdx, ↓reduceIte, seval, cuneiformref18_Encode, cuneiformref18_Encode.body, encM, h1, hd]
  refine callK_fn (rcheck_ok _ m hm _ ?_)
  refine runL_V 60 ?_
  simp (disch := first | omega | (simp only [lnx]; omega)) only [stdh, stdx, ↓reduceIte, seval, hc]
  refine callK_fn (rall16_ok _ _ _ ?_)
  refine runL_V 60 ?_
  simp (disch := first | omega | (simp only [lnx]; omega)) only [stdh, stdx, ↓reduceIte, seval]
  refine renc_loop (fieldsOf_len m.k) hok e0 _ _ ?_ _ 0 _ .nils rfl (by omega) (Keeps.refl _) ⟨.inl ⟨rfl, rfl⟩⟩ (by simp [bodyB])
  intro r H3 b hk3 hm3 hr
  refine run_V0 60 ?_
  simp (disch := first | omega | (simp only [lnx]; omega)) only [stdh, stdx, ↓reduceIte, seval, hr]
  exact fin r H3 b hk3 hm3
structure RD where
 a : Nat
 e : Nat
 w : Nat
def RD.err (s : RD) : Nat := if s.w = 0 then s.e else s.w
def RD.note (s : RD) (is : Bool) (x : Nat) : RD := if is = true ∧ s.err = 0 then { s with w := x } else s
def RD.num (ys : List Nat) (s : RD) (most : Nat) : Nat × RD := ((lensR 0 ys s.a s.e (numSpec most)).1, ⟨(lensR 0 ys s.a s.e (numSpec most)).2.1, (lensR 0 ys s.a s.e (numSpec most)).2.2, s.w⟩)
def RD.sgn (ys : List Nat) (s : RD) (lo hi : Int) : Int × RD := ((lensR 0 ys s.a s.e (sgnSpec lo hi)).1, ⟨(lensR 0 ys s.a s.e (sgnSpec lo hi)).2.1, (lensR 0 ys s.a s.e (sgnSpec lo hi)).2.2, s.w⟩)
def RD.fld (ys : List Nat) (s : RD) (most : Int) : List Nat × RD := ((lensR [] ys s.a s.e (fieldSpec most)).1, ⟨(lensR [] ys s.a s.e (fieldSpec most)).2.1, (lensR [] ys s.a s.e (fieldSpec most)).2.2, s.w⟩)
def rdB (p w : Nat) : ABlk := .cells [.ptr p 0, .int .i64 (w : Nat)] T.body_reader
structure RAt (H : AHeap) (q p : Nat) (ys : List Nat) (s : RD) : Prop where
 rq : H[q]? = some (rdB p s.w)
 rp : H[p]? = some (lensB ys s.a s.e)
 ne : p ≠ q
 le : s.a ≤ ys.length
def putR (H : AHeap) (q p : Nat) (ys : List Nat) (s : RD) : AHeap := (H.set p (lensB ys s.a s.e)).set q (rdB p s.w)
theorem putR_len (H : AHeap) (q p : Nat) (ys : List Nat) (s : RD) : (putR H q p ys s).length = H.length := by simp [putR]
theorem RAt.lt {H : AHeap} {q p : Nat} {ys : List Nat} {s : RD} (h : RAt H q p ys s) : q < H.length ∧ p < H.length := ⟨(List.getElem?_eq_some_iff.1 h.rq).1, (List.getElem?_eq_some_iff.1 h.rp).1⟩
theorem RAt.put {H : AHeap} {q p : Nat} {ys : List Nat} {s s' : RD} (h : RAt H q p ys s) (hl : s'.a ≤ ys.length) : RAt (putR H q p ys s') q p ys s' where
 rq := by rw [putR, List.getElem?_set_self (by simp; exact h.lt.1)]
 rp := by rw [putR, List.getElem?_set_ne (fun e => h.ne e.symm), List.getElem?_set_self h.lt.2]
 ne := h.ne
 le := hl
theorem RAt.self {H : AHeap} {q p : Nat} {ys : List Nat} {s : RD} (h : RAt H q p ys s) : putR H q p ys s = H := by
 rw [putR, set_self h.rp, set_self h.rq]
theorem putR_putR {H : AHeap} {q p : Nat} {ys : List Nat} {s s' : RD} (h : p ≠ q) : putR (putR H q p ys s) q p ys s' = putR H q p ys s' := by
 unfold putR
 rw [List.set_comm _ _ (fun e => h e.symm), List.set_set, List.set_set]
theorem putR_low {H : AHeap} {q p : Nat} {ys : List Nat} {s : RD} {n : Nat} (h1 : n ≠ q) (h2 : n ≠ p) : (putR H q p ys s)[n]? = H[n]? := by
 rw [putR, List.getElem?_set_ne (fun e => h1 e.symm), List.getElem?_set_ne (fun e => h2 e.symm)]
theorem RAt.set {H : AHeap} {q p : Nat} {ys : List Nat} {s : RD} (h : RAt H q p ys s) (a e : Nat) : H.set p (lensB ys a e) = putR H q p ys ⟨a, e, s.w⟩ := by
 rw [putR, set_self (l := H.set p (lensB ys a e)) (i := q)]
 rw [List.getElem?_set_ne h.ne]; exact h.rq
theorem RAt.push {H L : AHeap} {q p : Nat} {ys : List Nat} {s : RD} (h : RAt H q p ys s) : RAt (H ++ L) q p ys s := ⟨(at_low h.lt.1).trans h.rq, (at_low h.lt.2).trans h.rp, h.ne, h.le⟩
theorem rdB_closed {L p w : Nat} (h : p < L) : closedB L (rdB p w) := ⟨h, trivial, trivial⟩
theorem trim_readown {H H' : AHeap} {q p : Nat} {ys : List Nat} {s s' : RD} {Q : AVal → AHeap → Prop} {a : AVal} {w n : Nat} {el : TypeId} {cs : List AVal} (h : RAt H q p ys s) (h' : RAt H' q p ys s') (hle : H.length ≤ H'.length) (hk : ∀ n, n < H.length → n ≠ p → n ≠ q → H'[n]? = H[n]?)
  (ho : Own w el H.length H' a n cs) (hc : closeds H.length cs) (hq : Q (.imm cs n false) (putR H q p ys s')) : TrimQ H Q a H' := by
 refine trim_own (putR H q p ys s') (putR_len _ _ _ _ _) hle (fun n hn => ?_) (fun n c hn hc => ?_) ho hc hq
 ·by_cases h1 : n = q
  ·subst h1; rw [h'.rq, (h.put h'.le).rq]
  by_cases h2 : n = p
  ·subst h2; rw [h'.rp, (h.put h'.le).rp]
  ·rw [hk n hn h2 h1, putR_low h1 h2]
 ·by_cases h1 : n = q
  ·subst h1; rw [(h.put h'.le).rq] at hc; cases hc; exact .inr (rdB_closed h.lt.2)
  by_cases h2 : n = p
  ·subst h2; rw [(h.put h'.le).rp] at hc; cases hc; exact .inr (lensB_closed _ _ _)
  ·rw [putR_low h1 h2] at hc; exact .inl hc
section
variable {H : AHeap} {q p : Nat} {ys : List Nat} {s : RD}
theorem lensR_le {α : Type} {d : α} {ys : List Nat} {a e : Nat} {sp : List Nat → Nat × α × Nat} (ha : a ≤ ys.length) (hs : ∀ zs, (sp zs).1 ≤ zs.length) : (lensR d ys a e sp).2.1 ≤ ys.length := by
 unfold lensR
 have := hs (ys.drop a)
 rw [List.length_drop] at this
 split
 ·exact ha
 split
 ·exact ha
 ·simp only; omega
theorem num_le (ha : s.a ≤ ys.length) (most : Nat) : (s.num ys most).2.a ≤ ys.length := lensR_le ha fun zs => numSpec_le
theorem sgn_le (ha : s.a ≤ ys.length) (lo hi : Int) : (s.sgn ys lo hi).2.a ≤ ys.length := lensR_le ha fun zs => sgnSpec_le
theorem fld_le (ha : s.a ≤ ys.length) (most : Int) : (s.fld ys most).2.a ≤ ys.length := lensR_le ha fun zs => fieldSpec_le.1
theorem note_le (ha : s.a ≤ ys.length) (is : Bool) (x : Nat) : (s.note is x).a ≤ ys.length := by unfold RD.note; split <;> exact ha
theorem rnum_ok (h : RAt H q p ys s) (hb : ∀ b ∈ ys, b < 256) (hlen : ys.length ≤ 1000000) {most : Nat} (hm : most < 18446744073709551616) (Q : AVal → AHeap → Prop) (hq : Q (.int .u64 ((s.num ys most).1 : Nat)) (putR H q p ys (s.num ys most).2)) : FunOK Try.prog F.lens_Lens_Number [.ptr p 0, .int .u64 (most : Nat)] H Q :=
 lnum_ok H hm h.rp h.le hb hlen Q (by rw [h.set]; exact hq)
theorem rsgn_ok (h : RAt H q p ys s) (hb : ∀ b ∈ ys, b < 256) (hlen : ys.length ≤ 1000000) {lo hi : Int} (Q : AVal → AHeap → Prop) (hq : Q (.int .i64 (s.sgn ys lo hi).1) (putR H q p ys (s.sgn ys lo hi).2)) : FunOK Try.prog F.lens_Lens_Signed [.ptr p 0, .int .i64 lo, .int .i64 hi] H Q :=
 lsgn_ok H h.rp h.le hb hlen Q (by rw [h.set]; exact hq)
theorem rfld_ok (h : RAt H q p ys s) (hb : ∀ b ∈ ys, b < 256) (hlen : ys.length ≤ 1000000) {most : Int} (hm : -9223372036854775808 ≤ most ∧ most < 9223372036854775808) (Q : AVal → AHeap → Prop) (hq : Q (nums .u8 false (s.fld ys most).1) (putR H q p ys (s.fld ys most).2)) : FunOK Try.prog F.lens_Lens_Field [.ptr p 0, .int .i64 most] H Q :=
 lfield_ok H hm h.rp h.le hb hlen Q (by rw [h.set]; exact hq)
theorem rerr_ok (h : RAt H q p ys s) (Q : AVal → AHeap → Prop) (hq : Q (.int .i64 (s.err : Nat)) H) : FunOK Try.prog F.body_reader_err [.ptr q 0] H Q := by
 refine fun_V 60 body_reader_err_code rfl ?_
 have e1 : H[q]? = some (ABlk.cells [.ptr p 0, .int .i64 (s.w : Nat)] T.body_reader) := h.rq
 unfold RD.err at hq
 by_cases hw : s.w = 0
 ·rw [if_pos hw] at hq
  have hw' : decide (((s.w : Nat) : Int) = 0) = true := decide_eq_true (by omega)
  simp (disch := first | omega | (simp only [lnx]; omega)) only [stdh, stdx, ↓reduceIte, seval, body_reader_err, body_reader_err.body, e1, hw']
  refine callK_fn (err_ok H h.rp _ ?_)
  refine runL_V 60 ?_
  simp (disch := first | omega | (simp only [lnx]; omega)) only [stdh, stdx, ↓reduceIte, seval]
  exact hq
 ·rw [if_neg hw] at hq
  have hw' : ¬ ((s.w : Nat) : Int) = 0 := by omega
  simp (disch := first | omega | (simp only [lnx]; omega)) only [stdh, stdx, ↓reduceIte, seval, body_reader_err, body_reader_err.body, e1, hw']
  exact hq
theorem rnote_ok (h : RAt H q p ys s) (is : Bool) (x : Nat) (Q : AVal → AHeap → Prop) (hq : Q (.tup []) (putR H q p ys (s.note is x))) : FunOK Try.prog F.body_reader_note [.ptr q 0, .bool is, .int .i64 (x : Nat)] H Q := by
 refine fun_V 60 body_reader_note_code rfl ?_
 have e1 : H[q]? = some (ABlk.cells [.ptr p 0, .int .i64 (s.w : Nat)] T.body_reader) := h.rq
 unfold RD.note at hq
 cases is with
 | false =>
  rw [if_neg (by simp), h.self] at hq
  simp (disch := first | omega | (simp only [lnx]; omega)) only [stdh, stdx, ↓reduceIte, seval, body_reader_note, body_reader_note.body]
  exact run_fin rfl rfl trivial hq
 | true =>
  simp (disch := first | omega | (simp only [lnx]; omega)) only [stdh, stdx, ↓reduceIte, seval, body_reader_note, body_reader_note.body]
  refine callK_fn (rerr_ok h _ ?_)
  refine runL_V 60 ?_
  by_cases he : s.err = 0
  ·rw [if_pos ⟨rfl, he⟩] at hq
   have he' : decide (((s.err : Nat) : Int) = 0) = true := decide_eq_true (by omega)
   simp (disch := first | omega | (simp only [lnx]; omega)) only [stdh, stdx, ↓reduceIte, seval, he', e1]
   refine run_fin rfl rfl trivial ?_
   rw [putR, set_self h.rp] at hq
   exact hq
  ·rw [if_neg (by simp [he]), h.self] at hq
   have he' : ¬ ((s.err : Nat) : Int) = 0 := by omega
   simp (disch := first | omega | (simp only [lnx]; omega)) only [stdh, stdx, ↓reduceIte, seval, he', e1]
   exact run_fin rfl rfl trivial hq
def RD.count (ys : List Nat) (s : RD) (most : Nat) : Nat × RD :=
 let r := s.num ys 18446744073709551615
 let s2 := (r.2.note (decide (r.1 = 0)) 13).note (decide (most < r.1)) 6
 (if s2.err = 0 then r.1 else 0, s2)
theorem count_le (ha : s.a ≤ ys.length) (most : Nat) : (s.count ys most).2.a ≤ ys.length := note_le (note_le (num_le ha _) _ _) _ _
theorem note_err (s : RD) (is : Bool) (x : Nat) (h : s.err ≠ 0) : s.note is x = s := by unfold RD.note; rw [if_neg (by simp [h])]
theorem note_zero {s : RD} {is : Bool} {x : Nat} (hx : x ≠ 0) (h : (s.note is x).err = 0) : s.err = 0 ∧ is = false ∧ s.note is x = s := by
 unfold RD.note at h ⊢
 by_cases hc : is = true ∧ s.err = 0
 ·rw [if_pos hc] at h
  simp only [RD.err, if_neg hx] at h
  exact absurd h hx
 ·rw [if_neg hc] at h ⊢
  refine ⟨h, ?_, rfl⟩
  cases is
  ·rfl
  ·exact absurd ⟨rfl, h⟩ hc
theorem rcount_ok (h : RAt H q p ys s) (hb : ∀ b ∈ ys, b < 256) (hlen : ys.length ≤ 1000000) {most : Nat} (hm : most ≤ 1000) (Q : AVal → AHeap → Prop) (hq : Q (.int .i64 ((s.count ys most).1 : Nat)) (putR H q p ys (s.count ys most).2)) : FunOK Try.prog F.body_reader_count [.ptr q 0, .int .i64 (most : Nat)] H Q := by
 refine fun_V 60 body_reader_count_code rfl ?_
 have e1 : H[q]? = some (ABlk.cells [.ptr p 0, .int .i64 (s.w : Nat)] T.body_reader) := h.rq
 simp (disch := first | omega | (simp only [lnx]; omega)) only [stdh, stdx, ↓reduceIte, seval, body_reader_count, body_reader_count.body, e1]
 rw [show (18446744073709551615 : Int) = ((18446744073709551615 : Nat) : Int) from rfl]
 refine callK_fn (rnum_ok h hb hlen (by omega) _ ?_)
 refine runL_V 60 ?_
 have h1 := h.put (num_le h.le 18446744073709551615)
 have hcnt : s.count ys most = (if (((s.num ys 18446744073709551615).2.note (decide ((s.num ys 18446744073709551615).1 = 0)) 13).note (decide (most < (s.num ys 18446744073709551615).1)) 6).err = 0 then (s.num ys 18446744073709551615).1 else 0, ((s.num ys 18446744073709551615).2.note (decide ((s.num ys 18446744073709551615).1 = 0)) 13).note (decide (most < (s.num ys 18446744073709551615).1)) 6) := rfl
 rw [hcnt] at hq
 generalize s.num ys 18446744073709551615 = R at *
 obtain ⟨n, s1⟩ := R
 simp only at h1 hq
 have c1 : decide ((n : Int) = 0) = decide (n = 0) := by by_cases hn : n = 0 <;> simp [hn]
 have w1 : IntKind.u64.wrap (most : Int) = (most : Int) := wrap_u64 (by omega)
 have c2 : decide ((most : Int) < (n : Int)) = decide (most < n) := by by_cases hn : most < n <;> simp [hn]
 simp (disch := first | omega | (simp only [lnx]; omega)) only [stdh, stdx, ↓reduceIte, seval, c1]
 rw [show (13 : Int) = ((13 : Nat) : Int) from rfl]
 refine callK_fn (rnote_ok h1 _ 13 _ ?_)
 refine runL_V 60 ?_
 have h2 := h1.put (note_le h1.le (decide (n = 0)) 13)
 rw [putR_putR h.ne] at h2 ⊢
 simp (disch := first | omega | (simp only [lnx]; omega)) only [stdh, stdx, ↓reduceIte, seval, w1, c2]
 rw [show (6 : Int) = ((6 : Nat) : Int) from rfl]
 refine callK_fn (rnote_ok h2 _ 6 _ ?_)
 refine runL_V 60 ?_
 have h3 := h2.put (note_le h2.le (decide (most < n)) 6)
 rw [putR_putR h.ne] at h3 ⊢
 generalize hs3 : ((s1.note (decide (n = 0)) 13).note (decide (most < n)) 6) = s3 at *
 simp (disch := first | omega | (simp only [lnx]; omega)) only [stdh, stdx, ↓reduceIte, seval]
 refine callK_fn (rerr_ok h3 _ ?_)
 refine runL_V 60 ?_
 by_cases he : s3.err = 0
 ·rw [if_pos he] at hq
  have he' : decide (((s3.err : Nat) : Int) = 0) = true := decide_eq_true (by omega)
  obtain ⟨z1, z2, _⟩ := note_zero (by decide) (hs3 ▸ he)
  have hn : n ≤ most := by simpa using z2
  have w2 : IntKind.i64.wrap (n : Int) = (n : Int) := wrap_i64 (by omega)
  simp (disch := first | omega | (simp only [lnx]; omega)) only [stdh, stdx, ↓reduceIte, seval, he', w2]
  exact hq
 ·rw [if_neg he] at hq
  have he' : ¬ ((s3.err : Nat) : Int) = 0 := by omega
  simp (disch := first | omega | (simp only [lnx]; omega)) only [stdh, stdx, ↓reduceIte, seval, he']
  exact hq
end
end Go.Proofs.Ytgjldipoagkncaa

namespace Go.Proofs.Ytgjldipoagkncaa
open Go Go.Am
theorem sgn_val {ys : List Nat} {s : RD} {lo hi : Int} : (s.sgn ys lo hi).1 = 0 ∨ (lo ≤ (s.sgn ys lo hi).1 ∧ (s.sgn ys lo hi).1 ≤ hi) := by
 unfold RD.sgn lensR
 by_cases h1 : s.e = 0
 ·rw [if_neg (by simp [h1])]
  by_cases h2 : (sgnSpec lo hi (ys.drop s.a)).2.2 = 0
  ·rw [if_neg (by simp [h2])]
   unfold sgnSpec at h2 ⊢
   by_cases h3 : (getSpec (ys.drop s.a)).2.2 = 0
   ·rw [if_neg (by simp [h3])] at h2 ⊢
    by_cases h4 : zag (getSpec (ys.drop s.a)).1 < lo ∨ hi < zag (getSpec (ys.drop s.a)).1
    ·rw [if_pos h4] at h2; simp at h2
    ·rw [if_neg h4]; right; simp only; omega
   ·rw [if_pos h3] at h2; exact absurd h2 h3
  ·rw [if_pos h2]; exact .inl rfl
 ·rw [if_pos h1]; exact .inl rfl
def near (x : Int) : Prop := -1000000 ≤ x ∧ x ≤ 1000000
theorem near_next {ys : List Nat} {s : RD} {l : Int} (h : near l) : near (l + (s.sgn ys (-1000000 - l) (1000000 - l)).1) := by
 obtain ⟨h1, h2⟩ := h
 rcases sgn_val (ys := ys) (s := s) (lo := -1000000 - l) (hi := 1000000 - l) with e | ⟨e1, e2⟩
 ·rw [e]; exact ⟨by omega, by omega⟩
 ·exact ⟨by omega, by omega⟩
theorem RAt.own {H : AHeap} {q p : Nat} {ys : List Nat} {s s' : RD} (h : RAt H q p ys s) {w : Nat} {el : TypeId} {B : Nat} {a : AVal} {n : Nat} {cs : List AVal} (ho : Own w el B H a n cs) : Own w el B (putR H q p ys s') a n cs :=
 ho.moved fun m hm => putR_low (fun e => ho.ne (c := q) h.rq (e ▸ hm)) (fun e => ho.ne (c := p) h.rp (e ▸ hm))
theorem next_ok {H : AHeap} {q p c : Nat} {ys : List Nat} {s : RD} (h : RAt H q p ys s) (hb : ∀ b ∈ ys, b < 256) (hlen : ys.length ≤ 1000000) (hc : H[c]? = some (.cells [.ptr q 0] T.p_body_reader)) {l : Int} (hl : near l) (Q : AVal → AHeap → Prop)
  (hq : Q (.int .i64 (l + (s.sgn ys (-1000000 - l) (1000000 - l)).1)) (putR H q p ys (s.sgn ys (-1000000 - l) (1000000 - l)).2)) : FunOK Try.prog F.body_reader_points_1 ([.int .i64 l] ++ [.ptr c 0]) H Q := by
 refine fun_V 60 body_reader_points_1_code rfl ?_
 have e1 : H[q]? = some (ABlk.cells [.ptr p 0, .int .i64 (s.w : Nat)] T.body_reader) := h.rq
 have hn := near_next (ys := ys) (s := s) hl
 obtain ⟨l1, l2⟩ := hl
 obtain ⟨n1, n2⟩ := hn
 have w1 : IntKind.i64.wrap (-1000000 - l) = -1000000 - l := wrap_i64 (by omega)
 have w2 : IntKind.i64.wrap (1000000 - l) = 1000000 - l := wrap_i64 (by omega)
 simp (disch := first | omega | (simp only [lnx]; omega)) only [stdh, stdx, ↓reduceIte, seval, body_reader_points_1, body_reader_points_1.body, e1, hc, w1, w2]
 refine callK_fn (rsgn_ok h hb hlen _ ?_)
 refine runL_V 60 ?_
 have w3 : IntKind.i64.wrap (l + (s.sgn ys (-1000000 - l) (1000000 - l)).1) = l + (s.sgn ys (-1000000 - l) (1000000 - l)).1 := wrap_i64 (by omega)
 simp (disch := first | omega | (simp only [lnx]; omega)) only [stdh, stdx, ↓reduceIte, seval, w3]
 exact hq
def RD.pt (ys : List Nat) (s : RD) (l : Int × Int) : (Int × Int) × RD :=
 ((l.1 + (s.sgn ys (-1000000 - l.1) (1000000 - l.1)).1, l.2 + ((s.sgn ys (-1000000 - l.1) (1000000 - l.1)).2.sgn ys (-1000000 - l.2) (1000000 - l.2)).1), ((s.sgn ys (-1000000 - l.1) (1000000 - l.1)).2.sgn ys (-1000000 - l.2) (1000000 - l.2)).2)
def RD.pts (ys : List Nat) : Nat → Int × Int → RD → List (Int × Int) × RD
 | 0, _, s => ([], s)
 | n + 1, l, s => if (s.pt ys l).2.err = 0 then ((s.pt ys l).1 :: (RD.pts ys n (s.pt ys l).1 (s.pt ys l).2).1, (RD.pts ys n (s.pt ys l).1 (s.pt ys l).2).2) else ([], (s.pt ys l).2)
theorem pt_le {ys : List Nat} {s : RD} (ha : s.a ≤ ys.length) (l : Int × Int) : (s.pt ys l).2.a ≤ ys.length := sgn_le (sgn_le ha _ _) _ _
abbrev rptsC : Ctx := ⟨F.body_reader_points, 30, [.tmp 2], none⟩
structure Frm (H0 H : AHeap) (q p : Nat) : Prop where
 le : H0.length ≤ H.length
 low : ∀ n, n < H0.length → n ≠ p → n ≠ q → H[n]? = H0[n]?
theorem Frm.refl (H : AHeap) (q p : Nat) : Frm H H q p := ⟨Nat.le_refl _, fun _ _ _ _ => rfl⟩
theorem Frm.putR {H0 H : AHeap} {q p : Nat} (h : Frm H0 H q p) (ys : List Nat) (s : RD) : Frm H0 (putR H q p ys s) q p := ⟨by rw [putR_len]; exact h.le, fun n h1 h2 h3 => by rw [putR_low h3 h2]; exact h.low n h1 h2 h3⟩
theorem Frm.push {H0 H : AHeap} {q p : Nat} (h : Frm H0 H q p) (L : AHeap) : Frm H0 (H ++ L) q p := ⟨by have := h.le; simp; omega, fun n h1 h2 h3 => by rw [List.getElem?_append_left (Nat.lt_of_lt_of_le h1 h.le)]; exact h.low n h1 h2 h3⟩
theorem Frm.set {H0 H : AHeap} {q p : Nat} (h : Frm H0 H q p) {c : Nat} (hc : H0.length ≤ c) (b : ABlk) : Frm H0 (H.set c b) q p := ⟨by have := h.le; simp; omega, fun n h1 h2 h3 => by rw [List.getElem?_set_ne (by omega)]; exact h.low n h1 h2 h3⟩
theorem RAt.set' {H : AHeap} {q p : Nat} {ys : List Nat} {s : RD} (h : RAt H q p ys s) {c : Nat} (h1 : c ≠ q) (h2 : c ≠ p) (b : ABlk) : RAt (H.set c b) q p ys s := ⟨by rw [List.getElem?_set_ne h1]; exact h.rq, by rw [List.getElem?_set_ne h2]; exact h.rp, h.ne, h.le⟩
set_option maxRecDepth 10000 in
set_option maxHeartbeats 4000000 in
theorem rpts_loop {H0 : AHeap} {q p c1 c2 : Nat} {ys : List Nat} (hb : ∀ b ∈ ys, b < 256) (hlen : ys.length ≤ 1000000) {n : Nat} (hn : n ≤ 1000) (hq0 : q < H0.length) (hp0 : p < H0.length) (hc1 : H0.length ≤ c1) (hc2 : c1 < c2) (K : List AItem) (Q : AVal → AHeap → Prop) :
  ∀ (m i : Nat) (H : AHeap) (s : RD) (l : Int × Int) (a : AVal) (acc : List (Int × Int)), n - i = m → i ≤ n → acc.length = i → RAt H q p ys s → Frm H0 H q p → near l.1 → near l.2 → H[c1]? = some (.cells [.ptr q 0] T.p_body_reader) → H[c2]? = some (.cells (encP l) T.msg_Point) → Own 2 T.msg_Point H0.length H a acc.length (acc.flatMap encP) →
  (∀ r H' a', RAt H' q p ys (RD.pts ys (n - i) l s).2 → Frm H0 H' q p → Own 2 T.msg_Point H0.length H' a' (acc ++ (RD.pts ys (n - i) l s).1).length ((acc ++ (RD.pts ys (n - i) l s).1).flatMap encP) → rget r 3 = a' → Run Try.prog rptsC K r H' Q) →
  Rounds Try.prog rptsC body_reader_points.b0 [.inBlock 0] K [(1, .ptr c1 0), (3, a), (4, .fn F.body_reader_points_1 [] [.ptr c1 0]), (5, .ptr c2 0), (8, .int .i64 (n : Nat)), (9, .int .i64 (i : Nat))] H Q
 | m, i, H, s, l, a, acc, h1, h2, hacc, hr, hf, n1, n2, e1, e2, ho, hK => by
  refine loop_V 100 body_reader_points.b0.eq_1 ?_
  by_cases hi : i < n
  ·have hcl : c2 < H.length := (List.getElem?_eq_some_iff.1 e2).1
   obtain ⟨k, hk⟩ : ∃ k, n - i = k + 1 := ⟨n - i - 1, by omega⟩
   rw [hk] at hK
   obtain ⟨l1, l2⟩ := l
   have e2' : H[c2]? = some (ABlk.cells [.int .i64 l1, .int .i64 l2] T.msg_Point) := e2
   simp (disch := first | omega | (simp only [lnx]; omega)) only [stdh, stdx, ↓reduceIte, seval, e2']
   refine callK_clo (next_ok hr hb hlen e1 n1 _ ?_)
   refine runL_V 60 ?_
   have n1' := near_next (ys := ys) (s := s) n1
   have hr1 := hr.put (sgn_le hr.le (-1000000 - l1) (1000000 - l1))
   have hpt : s.pt ys (l1, l2) = ((l1 + (s.sgn ys (-1000000 - l1) (1000000 - l1)).1, l2 + ((s.sgn ys (-1000000 - l1) (1000000 - l1)).2.sgn ys (-1000000 - l2) (1000000 - l2)).1), ((s.sgn ys (-1000000 - l1) (1000000 - l1)).2.sgn ys (-1000000 - l2) (1000000 - l2)).2) := rfl
   have ho1 := hr.own (s' := (s.sgn ys (-1000000 - l1) (1000000 - l1)).2) ho
   have f1 := hf.putR ys (s.sgn ys (-1000000 - l1) (1000000 - l1)).2
   have a1 := (putR_low (ys := ys) (s := (s.sgn ys (-1000000 - l1) (1000000 - l1)).2) (show c1 ≠ q by omega) (show c1 ≠ p by omega)).trans e1
   have a2 := (putR_low (ys := ys) (s := (s.sgn ys (-1000000 - l1) (1000000 - l1)).2) (show c2 ≠ q by omega) (show c2 ≠ p by omega)).trans e2'
   have gl1 := putR_len H q p ys (s.sgn ys (-1000000 - l1) (1000000 - l1)).2
   simp only at n1'
   generalize s.sgn ys (-1000000 - l1) (1000000 - l1) = R1 at *
   obtain ⟨d1, s1⟩ := R1
   simp only at n1' hr1 hpt ho1 f1 a1 a2 gl1 ⊢
   generalize putR H q p ys s1 = G at *
   simp (disch := first | omega | (simp only [lnx]; omega)) only [stdh, stdx, ↓reduceIte, seval, a2]
   have b1 : (G.set c2 (ABlk.cells [.int .i64 (l1 + d1), .int .i64 l2] T.msg_Point))[c1]? = some (.cells [.ptr q 0] T.p_body_reader) := by rw [List.getElem?_set_ne (by omega)]; exact a1
   have b2 : (G.set c2 (ABlk.cells [.int .i64 (l1 + d1), .int .i64 l2] T.msg_Point))[c2]? = some (.cells [.int .i64 (l1 + d1), .int .i64 l2] T.msg_Point) := List.getElem?_set_self (by omega)
   have hr2 := hr1.set' (c := c2) (by omega) (by omega) (ABlk.cells [.int .i64 (l1 + d1), .int .i64 l2] T.msg_Point)
   have f2 := f1.set (c := c2) (by omega) (ABlk.cells [.int .i64 (l1 + d1), .int .i64 l2] T.msg_Point)
   have ho2 := ho1.moved (H' := G.set c2 (ABlk.cells [.int .i64 (l1 + d1), .int .i64 l2] T.msg_Point)) fun m hm => by
    rw [List.getElem?_set_ne]; rintro rfl; exact ho1.ne a2 hm
   have gl2 : (G.set c2 (ABlk.cells [.int .i64 (l1 + d1), .int .i64 l2] T.msg_Point)).length = G.length := by simp
   generalize G.set c2 (ABlk.cells [.int .i64 (l1 + d1), .int .i64 l2] T.msg_Point) = G2 at *
   simp (disch := first | omega | (simp only [lnx]; omega)) only [stdh, stdx, ↓reduceIte, seval, b2]
   refine callK_clo (next_ok hr2 hb hlen b1 n2 _ ?_)
   refine runL_V 60 ?_
   have n2' := near_next (ys := ys) (s := s1) n2
   have hr3 := hr2.put (sgn_le hr2.le (-1000000 - l2) (1000000 - l2))
   have ho3 := hr2.own (s' := (s1.sgn ys (-1000000 - l2) (1000000 - l2)).2) ho2
   have f3 := f2.putR ys (s1.sgn ys (-1000000 - l2) (1000000 - l2)).2
   have d1' := (putR_low (ys := ys) (s := (s1.sgn ys (-1000000 - l2) (1000000 - l2)).2) (show c1 ≠ q by omega) (show c1 ≠ p by omega)).trans b1
   have d2' := (putR_low (ys := ys) (s := (s1.sgn ys (-1000000 - l2) (1000000 - l2)).2) (show c2 ≠ q by omega) (show c2 ≠ p by omega)).trans b2
   have gl3 := putR_len G2 q p ys (s1.sgn ys (-1000000 - l2) (1000000 - l2)).2
   simp only at n2'
   generalize s1.sgn ys (-1000000 - l2) (1000000 - l2) = R2 at *
   obtain ⟨d2, s2⟩ := R2
   simp only at n2' hr3 hpt ho3 f3 d1' d2' gl3 ⊢
   generalize putR G2 q p ys s2 = G3 at *
   simp (disch := first | omega | (simp only [lnx]; omega)) only [stdh, stdx, ↓reduceIte, seval, d2']
   have hr4 := hr3.set' (c := c2) (by omega) (by omega) (ABlk.cells [.int .i64 (l1 + d1), .int .i64 (l2 + d2)] T.msg_Point)
   have f4 := f3.set (c := c2) (by omega) (ABlk.cells [.int .i64 (l1 + d1), .int .i64 (l2 + d2)] T.msg_Point)
   have ho4 := ho3.moved (H' := G3.set c2 (ABlk.cells [.int .i64 (l1 + d1), .int .i64 (l2 + d2)] T.msg_Point)) fun m hm => by
    rw [List.getElem?_set_ne]; rintro rfl; exact ho3.ne d2' hm
   have x1 : (G3.set c2 (ABlk.cells [.int .i64 (l1 + d1), .int .i64 (l2 + d2)] T.msg_Point))[c1]? = some (.cells [.ptr q 0] T.p_body_reader) := by rw [List.getElem?_set_ne (by omega)]; exact d1'
   have x2 : (G3.set c2 (ABlk.cells [.int .i64 (l1 + d1), .int .i64 (l2 + d2)] T.msg_Point))[c2]? = some (.cells [.int .i64 (l1 + d1), .int .i64 (l2 + d2)] T.msg_Point) := List.getElem?_set_self (by omega)
   have gl4 : (G3.set c2 (ABlk.cells [.int .i64 (l1 + d1), .int .i64 (l2 + d2)] T.msg_Point)).length = G3.length := by simp
   generalize G3.set c2 (ABlk.cells [.int .i64 (l1 + d1), .int .i64 (l2 + d2)] T.msg_Point) = G4 at *
   simp (disch := first | omega | (simp only [lnx]; omega)) only [stdh, stdx, ↓reduceIte, seval, x1]
   refine callK_fn (rerr_ok hr4 _ ?_)
   refine runL_V 60 ?_
   simp only [RD.pts, hpt] at hK
   by_cases he : s2.err = 0
   ·rw [if_pos he] at hK
    have he' : decide (((s2.err : Nat) : Int) = 0) = true := decide_eq_true (by omega)
    have ho5 : Own 2 T.msg_Point H0.length (G4 ++ [ABlk.vec [.int .i64 (l1 + d1), .int .i64 (l2 + d2)] T.msg_Point 2]) a acc.length (acc.flatMap encP) := ho4.keep (keeps_append _ _)
    obtain ⟨pp, w1, hpp⟩ := Own.append3 ho5 (x := .slc G4.length 0 1 2) (k := 1) (ys := [.int .i64 (l1 + d1), .int .i64 (l2 + d2)]) 16 rfl (by simp [srcCells, view, content, at_0]) rfl (by omega) (by omega) (by omega) rfl
    have kl := killA_len (G4 ++ [ABlk.vec [.int .i64 (l1 + d1), .int .i64 (l2 + d2)] T.msg_Point 2]) a
    have kq : ∀ m, m ∉ a.names → m < G4.length → (killA (G4 ++ [ABlk.vec [.int .i64 (l1 + d1), .int .i64 (l2 + d2)] T.msg_Point 2]) a)[m]? = G4[m]? := fun m hm hl => by rw [killA_get hm, List.getElem?_append_left hl]
    have hna : ∀ m cs T', G4[m]? = some (.cells cs T') → m ∉ a.names := fun m cs T' hm => ho4.ne hm
    have hnb := ho5.lt
    have hfr : Frm H0 (killA (G4 ++ [ABlk.vec [.int .i64 (l1 + d1), .int .i64 (l2 + d2)] T.msg_Point 2]) a) q p := ⟨by rw [kl]; have := f4.le; simp; omega, fun m h1 h2 h3 => by
     rw [kq m (fun hm => by have := (hnb m hm).1; omega) (by have := f4.le; omega)]; exact f4.low m h1 h2 h3⟩
    generalize killA (G4 ++ [ABlk.vec [.int .i64 (l1 + d1), .int .i64 (l2 + d2)] T.msg_Point 2]) a = G5 at *
    rw [List.length_append, List.length_cons, List.length_nil] at kl
    simp (disch := first | omega | (simp only [lnx]; omega)) only [stdh, stdx, ↓reduceIte, seval, he', x2, w1, hpp]
    rw [show (i : Int) + 1 = ((i + 1 : Nat) : Int) by omega]
    have hr5 : RAt G5 q p ys s2 := ⟨(kq q (hna _ _ _ hr4.rq) hr4.lt.1).trans hr4.rq, (kq p (hna _ _ _ hr4.rp) hr4.lt.2).trans hr4.rp, hr4.ne, hr4.le⟩
    refine rpts_loop hb hlen hn hq0 hp0 hc1 hc2 K Q _ (i + 1) _ s2 (l1 + d1, l2 + d2) _ (acc ++ [(l1 + d1, l2 + d2)]) rfl (by omega) (by simp [hacc]) hr5.push (hfr.push _) n1' n2' ?_ ?_ ?_ ?_
    ·rw [at_low (by omega), kq c1 (hna _ _ _ x1) (by omega)]; exact x1
    ·rw [at_low (by omega), kq c2 (hna _ _ _ x2) (by omega)]; exact x2
    ·refine ⟨?_, .inr ⟨G4.length + 1, by have := f4.le; omega, by simp, ?_⟩⟩
     ·rw [flatMap_length encP_len]
     ·rw [List.getElem?_append_right (by omega)]
      simp [kl, encP]
    ·have : n - (i + 1) = k := by omega
     rw [this]
     intro r H' a' q1 q2 q3 q4
     refine hK r H' a' q1 q2 ?_ q4
     simpa only [List.append_assoc, List.singleton_append] using q3
   ·rw [if_neg he] at hK
    have he' : ¬ ((s2.err : Nat) : Int) = 0 := by omega
    simp (disch := first | omega | (simp only [lnx]; omega)) only [stdh, stdx, ↓reduceIte, seval, he']
    exact hK _ _ a hr4 f4 (by simpa using ho4) rfl
  ·have : n - i = 0 := by omega
   rw [this] at hK
   simp (disch := first | omega | (simp only [lnx]; omega)) only [stdh, stdx, ↓reduceIte, seval]
   exact hK _ H a (by simpa [RD.pts] using hr) hf (by simpa [RD.pts] using ho) rfl
 termination_by m => m
theorem count_fst {ys : List Nat} {s : RD} {most : Nat} : (s.count ys most).1 ≤ most ∧ ((s.count ys most).2.err = 0 → 1 ≤ (s.count ys most).1 ∧ s.err = 0 ∧ (s.num ys 18446744073709551615).2.err = 0 ∧ s.count ys most = s.num ys 18446744073709551615) := by
 unfold RD.count
 simp only
 by_cases he : (((s.num ys 18446744073709551615).2.note (decide ((s.num ys 18446744073709551615).1 = 0)) 13).note (decide (most < (s.num ys 18446744073709551615).1)) 6).err = 0
 ·obtain ⟨z1, z2, z3⟩ := note_zero (by decide) he
  obtain ⟨y1, y2, y3⟩ := note_zero (by decide) z1
  rw [if_pos he]
  have hn : (s.num ys 18446744073709551615).1 ≤ most := by simpa using z2
  have hn1 : (s.num ys 18446744073709551615).1 ≠ 0 := by simpa using y2
  refine ⟨hn, fun _ => ⟨by omega, ?_, y1, by rw [z3, y3]⟩⟩
  refine Classical.byContradiction fun hs => ?_
  have : (s.num ys 18446744073709551615).2.err = s.err := by
   unfold RD.err at hs ⊢
   unfold RD.num
   simp only
   split at hs
   ·rename_i hw; rw [if_pos hw, lensR_err hs, if_pos hw]
   ·rename_i hw; rw [if_neg hw, if_neg hw]
  rw [this] at y1
  exact hs y1
 ·rw [if_neg he]; exact ⟨Nat.zero_le _, fun h => absurd h he⟩
def RD.path (ys : List Nat) (s : RD) : List (Int × Int) × RD := RD.pts ys (s.count ys 16).1 (0, 0) (s.count ys 16).2
def RD.cls (ys : List Nat) : Nat → Int → RD → List Int × RD
 | 0, _, s => ([], s)
 | n + 1, l, s => if ((s.num ys 65535).2.note (decide (65535 < l + (((s.num ys 65535).1 : Int) + 1))) 5).err = 0 then
   ((l + (((s.num ys 65535).1 : Int) + 1)) :: (RD.cls ys n (l + (((s.num ys 65535).1 : Int) + 1)) ((s.num ys 65535).2.note (decide (65535 < l + (((s.num ys 65535).1 : Int) + 1))) 5)).1, (RD.cls ys n (l + (((s.num ys 65535).1 : Int) + 1)) ((s.num ys 65535).2.note (decide (65535 < l + (((s.num ys 65535).1 : Int) + 1))) 5)).2)
  else ([], (s.num ys 65535).2.note (decide (65535 < l + (((s.num ys 65535).1 : Int) + 1))) 5)
def RD.cells (ys : List Nat) (s : RD) : List Int × RD := RD.cls ys (s.count ys 32).1 (-1) (s.count ys 32).2
def RD.text (ys : List Nat) (s : RD) (most : Int) : List Nat × RD := ((s.fld ys most).1, (s.fld ys most).2.note ((s.fld ys most).1.any badB) 19)
theorem pts_le {ys : List Nat} : ∀ (n : Nat) (l : Int × Int) (s : RD), s.a ≤ ys.length → (RD.pts ys n l s).2.a ≤ ys.length
 | 0, l, s, h => h
 | n + 1, l, s, h => by
  rw [RD.pts]
  split
  ·exact pts_le n _ _ (pt_le h l)
  ·exact pt_le h l
theorem cls_le {ys : List Nat} : ∀ (n : Nat) (l : Int) (s : RD), s.a ≤ ys.length → (RD.cls ys n l s).2.a ≤ ys.length
 | 0, l, s, h => h
 | n + 1, l, s, h => by
  rw [RD.cls]
  split
  ·exact cls_le n _ _ (note_le (num_le h _) _ _)
  ·exact note_le (num_le h _) _ _
theorem rpoints_ok {H : AHeap} {q p : Nat} {ys : List Nat} {s : RD} (h : RAt H q p ys s) (hb : ∀ b ∈ ys, b < 256) (hlen : ys.length ≤ 1000000) (Q : AVal → AHeap → Prop) (hq : Q (recs encP false (s.path ys).1) (putR H q p ys (s.path ys).2)) : FunOK Try.prog F.body_reader_points [.ptr q 0] H Q := by
 refine fun_trim body_reader_points_code fun hcl => ?_
 refine fun_V 60 body_reader_points_code rfl ?_
 simp (disch := first | omega | (simp only [lnx]; omega)) only [stdh, stdx, ↓reduceIte, seval, body_reader_points, body_reader_points.body]
 have h1 := h.push (L := [ABlk.cells [AVal.ptr q 0] T.p_body_reader, ABlk.cells [AVal.int IntKind.i64 0, AVal.int IntKind.i64 0] T.msg_Point])
 rw [show (16 : Int) = ((16 : Nat) : Int) from rfl]
 refine callK_fn (rcount_ok h1 hb hlen (by omega) _ ?_)
 refine runL_V 60 ?_
 have hlt := h.lt
 have h2 := h1.put (count_le h1.le 16)
 have hf := ((Frm.refl H q p).push [ABlk.cells [AVal.ptr q 0] T.p_body_reader, ABlk.cells [AVal.int IntKind.i64 0, AVal.int IntKind.i64 0] T.msg_Point]).putR ys (s.count ys 16).2
 have e1 := (putR_low (ys := ys) (s := (s.count ys 16).2) (H := H ++ [ABlk.cells [AVal.ptr q 0] T.p_body_reader, ABlk.cells [AVal.int IntKind.i64 0, AVal.int IntKind.i64 0] T.msg_Point]) (show H.length ≠ q by omega) (show H.length ≠ p by omega)).trans at_0
 have e2 := (putR_low (ys := ys) (s := (s.count ys 16).2) (H := H ++ [ABlk.cells [AVal.ptr q 0] T.p_body_reader, ABlk.cells [AVal.int IntKind.i64 0, AVal.int IntKind.i64 0] T.msg_Point]) (show H.length + 1 ≠ q by omega) (show H.length + 1 ≠ p by omega)).trans at_k
 have hn := (count_fst (ys := ys) (s := s) (most := 16)).1
 unfold RD.path at hq
 have hple := pts_le (s.count ys 16).1 (0, 0) (s.count ys 16).2 (count_le h.le 16)
 generalize s.count ys 16 = R at *
 obtain ⟨n, s1⟩ := R
 simp only at h2 hf e1 e2 hn hq hple ⊢
 generalize putR (H ++ [ABlk.cells [AVal.ptr q 0] T.p_body_reader, ABlk.cells [AVal.int IntKind.i64 0, AVal.int IntKind.i64 0] T.msg_Point]) q p ys s1 = G at *
 simp (disch := first | omega | (simp only [lnx]; omega)) only [stdh, stdx, ↓reduceIte, seval]
 refine rpts_loop (H0 := H) hb hlen (n := n) (by omega) hlt.1 hlt.2 (Nat.le_refl _) (by omega) _ _ _ 0 G s1 (0, 0) .nils [] rfl (by omega) rfl h2 hf ⟨by omega, by omega⟩ ⟨by omega, by omega⟩ e1 (by rw [e2]; rfl) Own.nil ?_
 intro r H' a' q1 q2 q3 q4
 refine run_V0 60 ?_
 simp (disch := first | omega | (simp only [lnx]; omega)) only [stdh, stdx, ↓reduceIte, seval, q4]
 simp only [Nat.sub_zero, List.nil_append] at q1 q3
 exact trim_readown h q1 q2.le q2.low q3 (by exact closed_pts false _) hq
abbrev rclsC : Ctx := ⟨F.body_reader_cells, 31, [.tmp 2], none⟩
theorem num_val {ys : List Nat} {s : RD} {most : Nat} : (s.num ys most).1 ≤ most := by
 unfold RD.num lensR
 by_cases h1 : s.e = 0
 ·rw [if_neg (by simp [h1])]
  by_cases h2 : (numSpec most (ys.drop s.a)).2.2 = 0
  ·rw [if_neg (by simp [h2])]
   unfold numSpec at h2 ⊢
   by_cases h3 : (getSpec (ys.drop s.a)).2.2 = 0
   ·rw [if_neg (by simp [h3])] at h2 ⊢
    by_cases h4 : most < (getSpec (ys.drop s.a)).1
    ·rw [if_pos h4] at h2; simp at h2
    ·rw [if_neg h4]; simp only; omega
   ·rw [if_pos h3] at h2; exact absurd h2 h3
  ·rw [if_pos h2]; exact Nat.zero_le _
 ·rw [if_pos h1]; exact Nat.zero_le _
set_option maxRecDepth 10000 in
set_option maxHeartbeats 4000000 in
theorem rcls_loop {H0 : AHeap} {q p : Nat} {ys : List Nat} (hb : ∀ b ∈ ys, b < 256) (hlen : ys.length ≤ 1000000) {n : Nat} (hn : n ≤ 1000) (hq0 : q < H0.length) (hp0 : p < H0.length) (K : List AItem) (Q : AVal → AHeap → Prop) :
  ∀ (m i : Nat) (H : AHeap) (s : RD) (l : Int) (a : AVal) (acc : List Int), n - i = m → i ≤ n → acc.length = i → RAt H q p ys s → Frm H0 H q p → -1 ≤ l → l ≤ 65535 → Own 1 T.int H0.length H a acc.length (acc.map fun n : Int => AVal.int .i64 n) →
  (∀ r H' a', RAt H' q p ys (RD.cls ys (n - i) l s).2 → Frm H0 H' q p → Own 1 T.int H0.length H' a' (acc ++ (RD.cls ys (n - i) l s).1).length ((acc ++ (RD.cls ys (n - i) l s).1).map fun n : Int => AVal.int .i64 n) → rget r 3 = a' → Run Try.prog rclsC K r H' Q) →
  Rounds Try.prog rclsC body_reader_cells.b0 [.inBlock 0] K [(0, .ptr q 0), (3, a), (4, .int .i64 l), (6, .int .i64 (n : Nat)), (7, .int .i64 (i : Nat))] H Q
 | m, i, H, s, l, a, acc, h1, h2, hacc, hr, hf, n1, n2, ho, hK => by
  refine loop_V 100 body_reader_cells.b0.eq_1 ?_
  by_cases hi : i < n
  ·obtain ⟨k, hk⟩ : ∃ k, n - i = k + 1 := ⟨n - i - 1, by omega⟩
   rw [hk] at hK
   have e1 : H[q]? = some (ABlk.cells [.ptr p 0, .int .i64 (s.w : Nat)] T.body_reader) := hr.rq
   simp (disch := first | omega | (simp only [lnx]; omega)) only [stdh, stdx, ↓reduceIte, seval, e1]
   rw [show (65535 : Int) = ((65535 : Nat) : Int) from rfl]
   refine callK_fn (rnum_ok hr hb hlen (by omega) _ ?_)
   refine runL_V 60 ?_
   have hr1 := hr.put (num_le hr.le 65535)
   have ho1 := hr.own (s' := (s.num ys 65535).2) ho
   have f1 := hf.putR ys (s.num ys 65535).2
   have hv := num_val (ys := ys) (s := s) (most := 65535)
   simp only [RD.cls] at hK
   generalize s.num ys 65535 = R1 at *
   obtain ⟨d, s1⟩ := R1
   simp only at hr1 ho1 f1 hv hK ⊢
   generalize putR H q p ys s1 = G at *
   have w1 : IntKind.i64.wrap (d : Int) = (d : Int) := wrap_i64 (by omega)
   have w2 : IntKind.i64.wrap ((d : Int) + 1) = (d : Int) + 1 := wrap_i64 (by omega)
   have w3 : IntKind.i64.wrap (l + ((d : Int) + 1)) = l + ((d : Int) + 1) := wrap_i64 (by omega)
   simp (disch := first | omega | (simp only [lnx]; omega)) only [stdh, stdx, ↓reduceIte, seval, w1, w2, w3, Int.cast_ofNat_Int]
   rw [show (5 : Int) = ((5 : Nat) : Int) from rfl]
   refine callK_fn (rnote_ok hr1 _ 5 _ ?_)
   refine runL_V 60 ?_
   have hr2 := hr1.put (note_le hr1.le (decide ((65535 : Int) < l + ((d : Int) + 1))) 5)
   have ho2 := hr1.own (s' := s1.note (decide ((65535 : Int) < l + ((d : Int) + 1))) 5) ho1
   have f2 := f1.putR ys (s1.note (decide ((65535 : Int) < l + ((d : Int) + 1))) 5)
   have hx : (s1.note (decide ((65535 : Int) < l + ((d : Int) + 1))) 5).err = 0 → l + ((d : Int) + 1) ≤ 65535 := fun h => by
    have := (note_zero (by decide) h).2.1
    have := of_decide_eq_false this
    omega
   generalize s1.note (decide ((65535 : Int) < l + ((d : Int) + 1))) 5 = s2 at *
   generalize putR G q p ys s2 = G2 at *
   generalize hxx : l + ((d : Int) + 1) = x at *
   simp (disch := first | omega | (simp only [lnx]; omega)) only [stdh, stdx, ↓reduceIte, seval]
   refine callK_fn (rerr_ok hr2 _ ?_)
   refine runL_V 60 ?_
   by_cases he : s2.err = 0
   ·rw [if_pos he] at hK
    have hx := hx he
    have he' : decide (((s2.err : Nat) : Int) = 0) = true := decide_eq_true (by omega)
    have ho5 : Own 1 T.int H0.length (G2 ++ [ABlk.vec [.int .i64 x] T.int 1]) a acc.length (acc.map fun n : Int => AVal.int .i64 n) := ho2.keep (keeps_append _ _)
    obtain ⟨pp, w1, hpp⟩ := Own.append3 ho5 (x := .slc G2.length 0 1 1) (k := 1) (ys := [.int .i64 x]) 8 rfl (by simp [srcCells, view, content, at_0]) rfl (by omega) (by omega) (by omega) rfl
    have kl := killA_len (G2 ++ [ABlk.vec [.int .i64 x] T.int 1]) a
    have kq : ∀ m, m ∉ a.names → m < G2.length → (killA (G2 ++ [ABlk.vec [.int .i64 x] T.int 1]) a)[m]? = G2[m]? := fun m hm hl => by rw [killA_get hm, List.getElem?_append_left hl]
    have hna : ∀ m cs T', G2[m]? = some (.cells cs T') → m ∉ a.names := fun m cs T' hm => ho2.ne hm
    have hnb := ho5.lt
    have hfr : Frm H0 (killA (G2 ++ [ABlk.vec [.int .i64 x] T.int 1]) a) q p := ⟨by rw [kl]; have := f2.le; simp; omega, fun m h1 h2 h3 => by
     rw [kq m (fun hm => by have := (hnb m hm).1; omega) (by have := f2.le; omega)]; exact f2.low m h1 h2 h3⟩
    generalize killA (G2 ++ [ABlk.vec [.int .i64 x] T.int 1]) a = G5 at *
    rw [List.length_append, List.length_cons, List.length_nil] at kl
    simp (disch := first | omega | (simp only [lnx]; omega)) only [stdh, stdx, ↓reduceIte, seval, he', w1, hpp]
    rw [show (i : Int) + 1 = ((i + 1 : Nat) : Int) by omega]
    have hr5 : RAt G5 q p ys s2 := ⟨(kq q (hna _ _ _ hr2.rq) hr2.lt.1).trans hr2.rq, (kq p (hna _ _ _ hr2.rp) hr2.lt.2).trans hr2.rp, hr2.ne, hr2.le⟩
    refine rcls_loop hb hlen hn hq0 hp0 K Q _ (i + 1) _ s2 x _ (acc ++ [x]) rfl (by omega) (by simp [hacc]) hr5.push (hfr.push _) (by omega) hx ?_ ?_
    ·refine ⟨by simp, .inr ⟨G2.length + 1, by have := f2.le; omega, by simp, ?_⟩⟩
     rw [List.getElem?_append_right (by omega)]
     simp [kl]
    ·have : n - (i + 1) = k := by omega
     rw [this]
     intro r H' a' q1 q2 q3 q4
     refine hK r H' a' q1 q2 ?_ q4
     simpa only [List.append_assoc, List.singleton_append] using q3
   ·rw [if_neg he] at hK
    have he' : ¬ ((s2.err : Nat) : Int) = 0 := by omega
    simp (disch := first | omega | (simp only [lnx]; omega)) only [stdh, stdx, ↓reduceIte, seval, he']
    exact hK _ _ a hr2 f2 (by simpa using ho2) rfl
  ·have : n - i = 0 := by omega
   rw [this] at hK
   simp (disch := first | omega | (simp only [lnx]; omega)) only [stdh, stdx, ↓reduceIte, seval]
   exact hK _ H a (by simpa [RD.cls] using hr) hf (by simpa [RD.cls] using ho) rfl
 termination_by m => m
theorem rdcells_ok {H : AHeap} {q p : Nat} {ys : List Nat} {s : RD} (h : RAt H q p ys s) (hb : ∀ b ∈ ys, b < 256) (hlen : ys.length ≤ 1000000) (Q : AVal → AHeap → Prop) (hq : Q (ints false (s.cells ys).1) (putR H q p ys (s.cells ys).2)) : FunOK Try.prog F.body_reader_cells [.ptr q 0] H Q := by
 refine fun_trim body_reader_cells_code fun hcl => ?_
 refine fun_V 60 body_reader_cells_code rfl ?_
 simp (disch := first | omega | (simp only [lnx]; omega)) only [stdh, stdx, ↓reduceIte, seval, body_reader_cells, body_reader_cells.body]
 rw [show (32 : Int) = ((32 : Nat) : Int) from rfl]
 refine callK_fn (rcount_ok h hb hlen (by omega) _ ?_)
 refine runL_V 60 ?_
 have hlt := h.lt
 have h2 := h.put (count_le h.le 32)
 have hf := (Frm.refl H q p).putR ys (s.count ys 32).2
 have hn := (count_fst (ys := ys) (s := s) (most := 32)).1
 unfold RD.cells at hq
 generalize s.count ys 32 = R at *
 obtain ⟨n, s1⟩ := R
 simp only at h2 hf hn hq ⊢
 generalize putR H q p ys s1 = G at *
 simp (disch := first | omega | (simp only [lnx]; omega)) only [stdh, stdx, ↓reduceIte, seval]
 refine rcls_loop (H0 := H) hb hlen (n := n) (by omega) hlt.1 hlt.2 _ _ _ 0 G s1 (-1) .nils [] rfl (by omega) rfl h2 hf (by omega) (by omega) Own.nil ?_
 intro r H' a' q1 q2 q3 q4
 refine run_V0 60 ?_
 simp (disch := first | omega | (simp only [lnx]; omega)) only [stdh, stdx, ↓reduceIte, seval, q4]
 simp only [Nat.sub_zero, List.nil_append] at q1 q3
 exact trim_readown h q1 q2.le q2.low q3 (by exact closed_ints false _) hq
theorem runL_b2s {P : Program} {c : Ctx} {dst : Option Nat} {x : AOpd} {os : List AOper} {live : List Nat} {k T : List AItem} {r : Regs} {H : AHeap} {Q : AVal → AHeap → Prop} {xs : List Nat} (hx : Nats .u8 H (geto r x) xs) (h : RunL P c os live k T (rput dst (.str (textOf xs)) r) H Q) :
  RunL P c (⟨dst, .b2s x, none⟩ :: os) live k T r H Q := runO_op (a := ⟨dst, .b2s x, none⟩) rfl (b2s_nats (g := geto r) hx) trivial h
abbrev rtxC : Ctx := ⟨F.body_reader_text, 31, [.tmp 4], none⟩
theorem note_note (s : RD) (b c : Bool) (x : Nat) (hx : x ≠ 0) : (s.note b x).note c x = s.note (b || c) x := by
 by_cases hs : s.err = 0
 ·cases b with
  | false => simp [RD.note]
  | true =>
   have : (s.note true x).err ≠ 0 := by
    unfold RD.note; rw [if_pos ⟨rfl, hs⟩]; simp only [RD.err, if_neg hx]; exact hx
   rw [note_err _ _ _ this, Bool.true_or]
 ·rw [note_err s b x hs, note_err s c x hs, note_err s _ x hs]
theorem rtx_loop {H0 : AHeap} {q p : Nat} {ys zs : List Nat} (hzl : zs.length ≤ 1000000) {t : Bool} {s : RD} (h0 : RAt H0 q p ys s) (K : List AItem) (Q : AVal → AHeap → Prop)
  (hK : ∀ r, rget r 5 = nums .u8 t zs → Run Try.prog rtxC K r (putR H0 q p ys (s.note (zs.any badB) 19)) Q) :
  ∀ (m i : Nat), zs.length - i = m → i ≤ zs.length →
  Rounds Try.prog rtxC body_reader_text.b0 [.inBlock 0] K [(0, .ptr q 0), (5, nums .u8 t zs), (14, nums .u8 t zs), (15, .int .i64 (zs.length : Nat)), (16, .int .i64 (i : Nat))] (putR H0 q p ys (s.note ((zs.take i).any badB) 19)) Q
 | m, i, h1, h2 => by
  refine loop_V 100 body_reader_text.b0.eq_1 ?_
  by_cases hi : i < zs.length
  ·have hr := h0.put (note_le h0.le ((zs.take i).any badB) 19)
   have hst : (zs.take (i + 1)).any badB = ((zs.take i).any badB || badB (zs.getD i 0)) := by rw [List.take_add_one, List.any_append]; simp [hi]
   have hnn := note_note s ((zs.take i).any badB) (badB (zs.getD i 0)) 19 (by decide)
   have fin : ∀ (b : Bool), b = badB (zs.getD i 0) → ∀ (Q' : AVal → AHeap → Prop), Q' (.tup []) (putR H0 q p ys (s.note ((zs.take (i + 1)).any badB) 19)) → FunOK Try.prog F.body_reader_note [.ptr q 0, .bool b, .int .i64 19] (putR H0 q p ys (s.note ((zs.take i).any badB) 19)) Q' := by
    rintro b rfl Q' hq
    rw [show (19 : Int) = ((19 : Nat) : Int) from rfl]
    refine rnote_ok hr _ 19 _ ?_
    rw [putR_putR h0.ne, hnn, ← hst]; exact hq
   by_cases q1 : ((zs.getD i 0 : Nat) : Int) < 32
   ·have hbad : (true : Bool) = badB (zs.getD i 0) := (decide_eq_true (.inl (by omega))).symm
    simp (disch := first | omega | (simp only [lnx]; omega)) only [stdh, stdx, ↓reduceIte, seval, q1]
    refine callK_fn (fin _ hbad _ ?_)
    refine runL_V 60 ?_
    simp (disch := first | omega | (simp only [lnx]; omega)) only [stdh, stdx, ↓reduceIte, seval]
    rw [show (i : Int) + 1 = ((i + 1 : Nat) : Int) by omega]
    exact rtx_loop hzl h0 K Q hK _ (i + 1) rfl (by omega)
   by_cases q2 : (126 : Int) < ((zs.getD i 0 : Nat) : Int)
   ·have hbad : (true : Bool) = badB (zs.getD i 0) := (decide_eq_true (.inr (by omega))).symm
    simp (disch := first | omega | (simp only [lnx]; omega)) only [stdh, stdx, ↓reduceIte, seval, q1, q2]
    refine callK_fn (fin _ hbad _ ?_)
    refine runL_V 60 ?_
    simp (disch := first | omega | (simp only [lnx]; omega)) only [stdh, stdx, ↓reduceIte, seval]
    rw [show (i : Int) + 1 = ((i + 1 : Nat) : Int) by omega]
    exact rtx_loop hzl h0 K Q hK _ (i + 1) rfl (by omega)
   ·have hbad : (false : Bool) = badB (zs.getD i 0) := (decide_eq_false (by omega)).symm
    simp (disch := first | omega | (simp only [lnx]; omega)) only [stdh, stdx, ↓reduceIte, seval, q1, q2]
    refine callK_fn (fin _ hbad _ ?_)
    refine runL_V 60 ?_
    simp (disch := first | omega | (simp only [lnx]; omega)) only [stdh, stdx, ↓reduceIte, seval]
    rw [show (i : Int) + 1 = ((i + 1 : Nat) : Int) by omega]
    exact rtx_loop hzl h0 K Q hK _ (i + 1) rfl (by omega)
  ·rw [List.take_of_length_le (by omega)]
   simp (disch := first | omega | (simp only [lnx]; omega)) only [stdh, stdx, ↓reduceIte, seval]
   exact hK _ rfl
 termination_by m => m
theorem rtextR_ok {H : AHeap} {q p : Nat} {ys : List Nat} {s : RD} (h : RAt H q p ys s) (hb : ∀ b ∈ ys, b < 256) (hlen : ys.length ≤ 1000000) {most : Int} (hm : -9223372036854775808 ≤ most ∧ most < 9223372036854775808) (Q : AVal → AHeap → Prop) (hq : Q (.str (textOf (s.text ys most).1)) (putR H q p ys (s.text ys most).2)) : FunOK Try.prog F.body_reader_text [.ptr q 0, .int .i64 most] H Q := by
 refine fun_V 60 body_reader_text_code rfl ?_
 have e1 : H[q]? = some (ABlk.cells [.ptr p 0, .int .i64 (s.w : Nat)] T.body_reader) := h.rq
 simp (disch := first | omega | (simp only [lnx]; omega)) only [stdh, stdx, ↓reduceIte, seval, body_reader_text, body_reader_text.body, e1]
 refine callK_fn (rfld_ok h hb hlen hm _ ?_)
 refine runL_V 60 ?_
 have hr := h.put (fld_le h.le most)
 have hzl : (s.fld ys most).1.length ≤ 1000000 := by
  unfold RD.fld lensR
  have := (fieldSpec_le (most := most) (zs := ys.drop s.a)).2
  rw [List.length_drop] at this
  split
  ·exact Nat.zero_le _
  split
  ·exact Nat.zero_le _
  ·simp only; omega
 unfold RD.text at hq
 generalize s.fld ys most = R at *
 obtain ⟨zs, s1⟩ := R
 simp only at hr hq hzl ⊢
 simp (disch := first | omega | (simp only [lnx]; omega)) only [stdh, stdx, ↓reduceIte, seval]
 have := rtx_loop (H0 := putR H q p ys s1) (t := false) (zs := zs) hzl hr [.code (.seq (.region [⟨some 29, .mov (.tmp 5), none⟩, ⟨some 30, .b2s (.tmp 29), none⟩, ⟨some 4, .mov (.tmp 30), none⟩] [4]) .ret)] Q ?_ _ 0 rfl (by omega)
 ·rw [show s1.note ((zs.take 0).any badB) 19 = s1 by simp [RD.note], putR_putR h.ne] at this
  exact this
 ·intro r hr5
  rw [putR_putR h.ne]
  refine run_V0 3 ?_
  simp (disch := first | omega | (simp only [lnx]; omega)) only [stdh, stdx, ↓reduceIte, seval, hr5]
  refine runL_b2s (nums_nats .u8 false zs _) ?_
  refine runL_V 60 ?_
  simp (disch := first | omega | (simp only [lnx]; omega)) only [stdh, stdx, ↓reduceIte, seval]
  exact hq
def RD.field (ys : List Nat) (s : RD) (m : Mg) (f : Fld) : Mg × RD :=
 if f.sort = 1 then (m.put f.place ((s.num ys f.most.toNat).1 : Nat), (s.num ys f.most.toNat).2.note (decide ((((s.num ys f.most.toNat).1 : Nat) : Int) < f.least)) 5)
 else if f.sort = 2 then (m.put f.place (s.sgn ys f.least f.most).1, (s.sgn ys f.least f.most).2)
 else if f.sort = 3 then ({ m with p := (s.path ys).1 }, (s.path ys).2)
 else if f.sort = 4 then ({ m with c := (s.cells ys).1 }, (s.cells ys).2)
 else if f.sort = 5 then ({ m with t := textOf (s.text ys f.most).1 }, (s.text ys f.most).2)
 else ({ m with g := textOf (s.text ys f.most).1 }, (s.text ys f.most).2)
def Fld.ok6 (f : Fld) : Prop := 0 ≤ f.most ∧ f.most ≤ 1000000 ∧ -1000000 ≤ f.least ∧ f.least ≤ 1000000
instance (f : Fld) : Decidable f.ok6 := by unfold Fld.ok6; infer_instance
theorem fieldsOf_ok6 {k : Int} : ∀ f ∈ fieldsOf k, f.ok6 := by
 unfold fieldsOf
 split
 ·decide +kernel
 split
 ·decide +kernel
 split
 ·decide +kernel
 split
 ·decide +kernel
 split
 ·decide +kernel
 ·simp
theorem path_le {ys : List Nat} {s : RD} (h : s.a ≤ ys.length) : (s.path ys).2.a ≤ ys.length := pts_le _ _ _ (count_le h _)
theorem cells_le {ys : List Nat} {s : RD} (h : s.a ≤ ys.length) : (s.cells ys).2.a ≤ ys.length := cls_le _ _ _ (count_le h _)
theorem text_le {ys : List Nat} {s : RD} (h : s.a ≤ ys.length) (most : Int) : (s.text ys most).2.a ≤ ys.length := note_le (fld_le h _) _ _
theorem field_le {ys : List Nat} {s : RD} (h : s.a ≤ ys.length) (m : Mg) (f : Fld) : (s.field ys m f).2.a ≤ ys.length := by
 unfold RD.field
 repeat' split
 ·exact note_le (num_le h _) _ _
 ·exact sgn_le h _ _
 ·exact path_le h
 ·exact cells_le h
 ·exact text_le h _
 ·exact text_le h _
theorem trim_field {H H' : AHeap} {q p b : Nat} {ys : List Nat} {s s' : RD} {m' : Mg} {Q : AVal → AHeap → Prop} (h : RAt H q p ys s) (hb : b < H.length) (hbq : b ≠ q) (hbp : b ≠ p) (h' : RAt H' q p ys s') (hm' : H'[b]? = some (.cells (encM m') T.msg_Msg)) (hle : H.length ≤ H'.length) (hk : ∀ n, n < H.length → n ≠ p → n ≠ q → n ≠ b → H'[n]? = H[n]?)
  (hq : Q (.tup []) (putR (H.set b (.cells (encM m') T.msg_Msg)) q p ys s')) : TrimQ H Q (.tup []) H' := by
 have hB := h.set' hbq hbp (.cells (encM m') T.msg_Msg)
 have hP := hB.put h'.le
 have hbb : (putR (H.set b (.cells (encM m') T.msg_Msg)) q p ys s')[b]? = some (.cells (encM m') T.msg_Msg) := by
  rw [putR_low hbq hbp, List.getElem?_set_self hb]
 refine trim_flat (putR (H.set b (.cells (encM m') T.msg_Msg)) q p ys s') (by rw [putR_len]; simp) hle (fun n hn => ?_) (fun n c hn hc => ?_) trivial hq
 ·by_cases h1 : n = q
  ·subst h1; rw [h'.rq, hP.rq]
  by_cases h2 : n = p
  ·subst h2; rw [h'.rp, hP.rp]
  by_cases h3 : n = b
  ·subst h3; rw [hm', hbb]
  ·rw [hk n hn h2 h1 h3, putR_low h1 h2, List.getElem?_set_ne (fun e => h3 e.symm)]
 ·by_cases h1 : n = q
  ·subst h1; rw [hP.rq] at hc; cases hc; exact .inr (rdB_closed h.lt.2)
  by_cases h2 : n = p
  ·subst h2; rw [hP.rp] at hc; cases hc; exact .inr (lensB_closed _ _ _)
  by_cases h3 : n = b
  ·subst h3; rw [hbb] at hc; cases hc; exact .inr (closeds_encM _)
  ·rw [putR_low h1 h2, List.getElem?_set_ne (fun e => h3 e.symm)] at hc; exact .inl hc
theorem putR_setb {H : AHeap} {q p b : Nat} {ys : List Nat} {s : RD} {B : ABlk} (hbq : b ≠ q) (hbp : b ≠ p) : putR (H.set b B) q p ys s = (putR H q p ys s).set b B := by
 unfold putR
 rw [List.set_comm _ _ hbp, List.set_comm _ _ hbq]
set_option maxRecDepth 10000 in
set_option maxHeartbeats 8000000 in
theorem rdfield_ok {H : AHeap} {q p b : Nat} {ys : List Nat} {s : RD} {m : Mg} {f : Fld} (h : RAt H q p ys s) (hm : H[b]? = some (.cells (encM m) T.msg_Msg)) (hbq : b ≠ q) (hbp : b ≠ p) (hf : f.ok3) (hf6 : f.ok6) (hb : ∀ b ∈ ys, b < 256) (hlen : ys.length ≤ 1000000) (Q : AVal → AHeap → Prop)
  (hq : Q (.tup []) (putR (H.set b (.cells (encM (s.field ys m f).1) T.msg_Msg)) q p ys (s.field ys m f).2)) : FunOK Try.prog F.body_reader_field [.ptr q 0, .ptr b 0, .agg (encF f)] H Q := by
 refine fun_trim body_reader_field_code fun hcl => ?_
 refine fun_V 4 body_reader_field_code rfl ?_
 have hbl : b < H.length := (List.getElem?_eq_some_iff.1 hm).1
 have hlt := h.lt
 have hfin : ∀ (H' : AHeap), RAt H' q p ys (s.field ys m f).2 → H'[b]? = some (.cells (encM (s.field ys m f).1) T.msg_Msg) → H.length ≤ H'.length → (∀ n, n < H.length → n ≠ p → n ≠ q → n ≠ b → H'[n]? = H[n]?) → TrimQ H Q (.tup []) H' := fun H' h1 h2 h3 h4 => trim_field h hbl hbq hbp h1 h2 h3 h4 hq
 obtain ⟨o1, o2, o3, o4⟩ := hf6
 have hmost : f.most = ((f.most.toNat : Nat) : Int) := by omega
 have hwm : IntKind.u64.wrap f.most = ((f.most.toNat : Nat) : Int) := by rw [wrap_u64 (by omega)]; exact hmost
 obtain ⟨X, hX⟩ : ∃ X, X = ABlk.cells [.str f.name, .int .i64 f.sort, .int .i64 f.place, .int .i64 f.least, .int .i64 f.most, .int .i64 f.since, .int .i64 f.absent] T.field_Field := ⟨_, rfl⟩
 have h0 := h.push (L := [X])
 have x0 : (H ++ [X])[H.length]? = some (ABlk.cells [.str f.name, .int .i64 f.sort, .int .i64 f.place, .int .i64 f.least, .int .i64 f.most, .int .i64 f.since, .int .i64 f.absent] T.field_Field) := by rw [← hX]; exact at_0
 have m0 : (H ++ [X])[b]? = some (ABlk.cells [.int .i64 m.k, .int .i64 m.n0, .int .i64 m.n1, .int .i64 m.n2, .int .i64 m.n3, .int .i64 m.n4, .int .i64 m.n5, recs encP false m.p, ints false m.c, .str m.t, .str m.g] T.msg_Msg) := (at_low hbl).trans hm
 have q0 : (H ++ [X])[q]? = some (ABlk.cells [.ptr p 0, .int .i64 (s.w : Nat)] T.body_reader) := h0.rq
 have gl : (H ++ [X]).length = H.length + 1 := by simp
 have hkl : ∀ n, n < H.length → (H ++ [X])[n]? = H[n]? := fun n hn => at_low hn
 simp (disch := first | omega | (simp only [lnx]; omega)) only [stdh, stdx, ↓reduceIte, seval, body_reader_field, body_reader_field.body, encF]
 rw [← hX]
 generalize H ++ [X] = G at *
 clear hX
 -- what a function of the reader leaves
 have hlow : ∀ (s' : RD) n, n < H.length → n ≠ p → n ≠ q → (putR G q p ys s')[n]? = H[n]? := fun s' n h1 h2 h3 => (putR_low h3 h2).trans (hkl n h1)
 have m1 : ∀ s' : RD, (putR G q p ys s')[b]? = some (ABlk.cells [.int .i64 m.k, .int .i64 m.n0, .int .i64 m.n1, .int .i64 m.n2, .int .i64 m.n3, .int .i64 m.n4, .int .i64 m.n5, recs encP false m.p, ints false m.c, .str m.t, .str m.g] T.msg_Msg) := fun s' => (putR_low hbq hbp).trans m0
 have x1 : ∀ s' : RD, (putR G q p ys s')[H.length]? = some (ABlk.cells [.str f.name, .int .i64 f.sort, .int .i64 f.place, .int .i64 f.least, .int .i64 f.most, .int .i64 f.since, .int .i64 f.absent] T.field_Field) := fun s' => (putR_low (by omega) (by omega)).trans x0
 -- the end, once the message's block is written
 have hend : ∀ (s' : RD) (m' : Mg), s'.a ≤ ys.length → s.field ys m f = (m', s') → TrimQ H Q (.tup []) ((putR G q p ys s').set b (.cells (encM m') T.msg_Msg)) := fun s' m' hle he => by
  have hR := h0.put (s' := s') hle
  rw [he] at hfin
  refine hfin _ (hR.set' hbq hbp _) (List.getElem?_set_self (by rw [putR_len, gl]; omega)) (by rw [List.length_set, putR_len, gl]; omega) fun n h1 h2 h3 h4 => ?_
  rw [List.getElem?_set_ne (fun e => h4 e.symm)]; exact hlow s' n h1 h2 h3
 refine run_V0 100 ?_
 by_cases s1 : f.sort = 1
 ·have e := show s.field ys m f = (m.put f.place ((s.num ys f.most.toNat).1 : Nat), (s.num ys f.most.toNat).2.note (decide ((((s.num ys f.most.toNat).1 : Nat) : Int) < f.least)) 5) by rw [RD.field, if_pos s1]
  have hp6 : f.place = 0 ∨ f.place = 1 ∨ f.place = 2 ∨ f.place = 3 ∨ f.place = 4 ∨ f.place = 5 := by
   rcases hf with ⟨_, z | z | z | z⟩ | ⟨_, z⟩ <;> first | exact z | omega
  rcases hp6 with pl | pl | pl | pl | pl | pl
  ·simp (disch := first | omega | (simp only [lnx]; omega)) only [stdh, stdx, ↓reduceIte, seval, x0, m0, q0, s1, pl, hwm, body_reader_field.d0, body_reader_field.d1]
   refine callD_fn (rnum_ok h0 hb hlen (by omega) _ ?_)
   refine ⟨by simp (disch := first | omega | (simp only [lnx]; omega)) only [stdh, stdx, ↓reduceIte, seval, x1, pl], ?_⟩
   refine runD_V 60 ?_
   have hv := num_val (ys := ys) (s := s) (most := f.most.toNat)
   have hle := num_le h.le f.most.toNat
   have hr1 := h0.put hle
   have gl1 := putR_len G q p ys (s.num ys f.most.toNat).2
   have m1' := m1 (s.num ys f.most.toNat).2
   have x1' := x1 (s.num ys f.most.toNat).2
   generalize s.num ys f.most.toNat = R at *
   obtain ⟨n, t⟩ := R
   simp only at hv hle hr1 gl1 m1' x1' e ⊢
   have w1 : IntKind.i64.wrap (n : Int) = (n : Int) := wrap_i64 (by omega)
   have e2 : m.put f.place ((n : Nat) : Int) = { m with n0 := ((n : Nat) : Int) } := by rw [pl]; rfl
   rw [e2] at e
   have hB := hr1.set' (c := b) hbq hbp (.cells (encM { m with n0 := ((n : Nat) : Int) }) T.msg_Msg)
   have hcomm : putR ((putR G q p ys t).set b (.cells (encM { m with n0 := ((n : Nat) : Int) }) T.msg_Msg)) q p ys (t.note (decide ((n : Int) < f.least)) 5) = (putR G q p ys (t.note (decide ((n : Int) < f.least)) 5)).set b (.cells (encM { m with n0 := ((n : Nat) : Int) }) T.msg_Msg) := by
    rw [putR_setb hbq hbp, putR_putR h.ne]
   have hm2 : ((putR G q p ys t).set b (.cells (encM { m with n0 := ((n : Nat) : Int) }) T.msg_Msg))[b]? = some (ABlk.cells (encM { m with n0 := ((n : Nat) : Int) }) T.msg_Msg) := List.getElem?_set_self (by rw [gl1, gl]; omega)
   have hx2 : ((putR G q p ys t).set b (.cells (encM { m with n0 := ((n : Nat) : Int) }) T.msg_Msg))[H.length]? = some (ABlk.cells [.str f.name, .int .i64 f.sort, .int .i64 f.place, .int .i64 f.least, .int .i64 f.most, .int .i64 f.since, .int .i64 f.absent] T.field_Field) := by rw [List.getElem?_set_ne (by omega)]; exact x1'
   simp (disch := first | omega | (simp only [lnx]; omega)) only [stdh, stdx, ↓reduceIte, seval, w1, m1', x1', pl]
   have hE := hend (t.note (decide ((n : Int) < f.least)) 5) _ (note_le hle _ _) e
   simp only [encM] at hm2 hx2 hB hcomm hE
   generalize (putR G q p ys t).set b _ = G2 at *
   simp (disch := first | omega | (simp only [lnx]; omega)) only [stdh, stdx, ↓reduceIte, seval, hm2, hx2, pl]
   rw [show (5 : Int) = ((5 : Nat) : Int) from rfl]
   refine callD_fn (rnote_ok hB _ 5 _ ?_)
   refine ⟨by simp (disch := first | omega | (simp only [lnx]; omega)) only [stdh, stdx, ↓reduceIte, seval], ?_⟩
   refine runD_V 60 ?_
   rw [hcomm]
   simp (disch := first | omega | (simp only [lnx]; omega)) only [stdh, stdx, ↓reduceIte, seval]
   exact run_fin rfl rfl trivial hE
  ·simp (disch := first | omega | (simp only [lnx]; omega)) only [stdh, stdx, ↓reduceIte, seval, x0, m0, q0, s1, pl, hwm, body_reader_field.d0, body_reader_field.d1]
   refine callD_fn (rnum_ok h0 hb hlen (by omega) _ ?_)
   refine ⟨by simp (disch := first | omega | (simp only [lnx]; omega)) only [stdh, stdx, ↓reduceIte, seval, x1, pl], ?_⟩
   refine runD_V 60 ?_
   have hv := num_val (ys := ys) (s := s) (most := f.most.toNat)
   have hle := num_le h.le f.most.toNat
   have hr1 := h0.put hle
   have gl1 := putR_len G q p ys (s.num ys f.most.toNat).2
   have m1' := m1 (s.num ys f.most.toNat).2
   have x1' := x1 (s.num ys f.most.toNat).2
   generalize s.num ys f.most.toNat = R at *
   obtain ⟨n, t⟩ := R
   simp only at hv hle hr1 gl1 m1' x1' e ⊢
   have w1 : IntKind.i64.wrap (n : Int) = (n : Int) := wrap_i64 (by omega)
   have e2 : m.put f.place ((n : Nat) : Int) = { m with n1 := ((n : Nat) : Int) } := by rw [pl]; rfl
   rw [e2] at e
   have hB := hr1.set' (c := b) hbq hbp (.cells (encM { m with n1 := ((n : Nat) : Int) }) T.msg_Msg)
   have hcomm : putR ((putR G q p ys t).set b (.cells (encM { m with n1 := ((n : Nat) : Int) }) T.msg_Msg)) q p ys (t.note (decide ((n : Int) < f.least)) 5) = (putR G q p ys (t.note (decide ((n : Int) < f.least)) 5)).set b (.cells (encM { m with n1 := ((n : Nat) : Int) }) T.msg_Msg) := by
    rw [putR_setb hbq hbp, putR_putR h.ne]
   have hm2 : ((putR G q p ys t).set b (.cells (encM { m with n1 := ((n : Nat) : Int) }) T.msg_Msg))[b]? = some (ABlk.cells (encM { m with n1 := ((n : Nat) : Int) }) T.msg_Msg) := List.getElem?_set_self (by rw [gl1, gl]; omega)
   have hx2 : ((putR G q p ys t).set b (.cells (encM { m with n1 := ((n : Nat) : Int) }) T.msg_Msg))[H.length]? = some (ABlk.cells [.str f.name, .int .i64 f.sort, .int .i64 f.place, .int .i64 f.least, .int .i64 f.most, .int .i64 f.since, .int .i64 f.absent] T.field_Field) := by rw [List.getElem?_set_ne (by omega)]; exact x1'
   simp (disch := first | omega | (simp only [lnx]; omega)) only [stdh, stdx, ↓reduceIte, seval, w1, m1', x1', pl]
   have hE := hend (t.note (decide ((n : Int) < f.least)) 5) _ (note_le hle _ _) e
   simp only [encM] at hm2 hx2 hB hcomm hE
   generalize (putR G q p ys t).set b _ = G2 at *
   simp (disch := first | omega | (simp only [lnx]; omega)) only [stdh, stdx, ↓reduceIte, seval, hm2, hx2, pl]
   rw [show (5 : Int) = ((5 : Nat) : Int) from rfl]
   refine callD_fn (rnote_ok hB _ 5 _ ?_)
   refine ⟨by simp (disch := first | omega | (simp only [lnx]; omega)) only [stdh, stdx, ↓reduceIte, seval], ?_⟩
   refine runD_V 60 ?_
   rw [hcomm]
   simp (disch := first | omega | (simp only [lnx]; omega)) only [stdh, stdx, ↓reduceIte, seval]
   exact run_fin rfl rfl trivial hE
  ·simp (disch := first | omega | (simp only [lnx]; omega)) only [stdh, stdx, ↓reduceIte, seval, x0, m0, q0, s1, pl, hwm, body_reader_field.d0, body_reader_field.d1]
   refine callD_fn (rnum_ok h0 hb hlen (by omega) _ ?_)
   refine ⟨by simp (disch := first | omega | (simp only [lnx]; omega)) only [stdh, stdx, ↓reduceIte, seval, x1, pl], ?_⟩
   refine runD_V 60 ?_
   have hv := num_val (ys := ys) (s := s) (most := f.most.toNat)
   have hle := num_le h.le f.most.toNat
   have hr1 := h0.put hle
   have gl1 := putR_len G q p ys (s.num ys f.most.toNat).2
   have m1' := m1 (s.num ys f.most.toNat).2
   have x1' := x1 (s.num ys f.most.toNat).2
   generalize s.num ys f.most.toNat = R at *
   obtain ⟨n, t⟩ := R
   simp only at hv hle hr1 gl1 m1' x1' e ⊢
   have w1 : IntKind.i64.wrap (n : Int) = (n : Int) := wrap_i64 (by omega)
   have e2 : m.put f.place ((n : Nat) : Int) = { m with n2 := ((n : Nat) : Int) } := by rw [pl]; rfl
   rw [e2] at e
   have hB := hr1.set' (c := b) hbq hbp (.cells (encM { m with n2 := ((n : Nat) : Int) }) T.msg_Msg)
   have hcomm : putR ((putR G q p ys t).set b (.cells (encM { m with n2 := ((n : Nat) : Int) }) T.msg_Msg)) q p ys (t.note (decide ((n : Int) < f.least)) 5) = (putR G q p ys (t.note (decide ((n : Int) < f.least)) 5)).set b (.cells (encM { m with n2 := ((n : Nat) : Int) }) T.msg_Msg) := by
    rw [putR_setb hbq hbp, putR_putR h.ne]
   have hm2 : ((putR G q p ys t).set b (.cells (encM { m with n2 := ((n : Nat) : Int) }) T.msg_Msg))[b]? = some (ABlk.cells (encM { m with n2 := ((n : Nat) : Int) }) T.msg_Msg) := List.getElem?_set_self (by rw [gl1, gl]; omega)
   have hx2 : ((putR G q p ys t).set b (.cells (encM { m with n2 := ((n : Nat) : Int) }) T.msg_Msg))[H.length]? = some (ABlk.cells [.str f.name, .int .i64 f.sort, .int .i64 f.place, .int .i64 f.least, .int .i64 f.most, .int .i64 f.since, .int .i64 f.absent] T.field_Field) := by rw [List.getElem?_set_ne (by omega)]; exact x1'
   simp (disch := first | omega | (simp only [lnx]; omega)) only [stdh, stdx, ↓reduceIte, seval, w1, m1', x1', pl]
   have hE := hend (t.note (decide ((n : Int) < f.least)) 5) _ (note_le hle _ _) e
   simp only [encM] at hm2 hx2 hB hcomm hE
   generalize (putR G q p ys t).set b _ = G2 at *
   simp (disch := first | omega | (simp only [lnx]; omega)) only [stdh, stdx, ↓reduceIte, seval, hm2, hx2, pl]
   rw [show (5 : Int) = ((5 : Nat) : Int) from rfl]
   refine callD_fn (rnote_ok hB _ 5 _ ?_)
   refine ⟨by simp (disch := first | omega | (simp only [lnx]; omega)) only [stdh, stdx, ↓reduceIte, seval], ?_⟩
   refine runD_V 60 ?_
   rw [hcomm]
   simp (disch := first | omega | (simp only [lnx]; omega)) only [stdh, stdx, ↓reduceIte, seval]
   exact run_fin rfl rfl trivial hE
  ·simp (disch := first | omega | (simp only [lnx]; omega)) only [stdh, stdx, ↓reduceIte, seval, x0, m0, q0, s1, pl, hwm, body_reader_field.d0, body_reader_field.d1]
   refine callD_fn (rnum_ok h0 hb hlen (by omega) _ ?_)
   refine ⟨by simp (disch := first | omega | (simp only [lnx]; omega)) only [stdh, stdx, ↓reduceIte, seval, x1, pl], ?_⟩
   refine runD_V 60 ?_
   have hv := num_val (ys := ys) (s := s) (most := f.most.toNat)
   have hle := num_le h.le f.most.toNat
   have hr1 := h0.put hle
   have gl1 := putR_len G q p ys (s.num ys f.most.toNat).2
   have m1' := m1 (s.num ys f.most.toNat).2
   have x1' := x1 (s.num ys f.most.toNat).2
   generalize s.num ys f.most.toNat = R at *
   obtain ⟨n, t⟩ := R
   simp only at hv hle hr1 gl1 m1' x1' e ⊢
   have w1 : IntKind.i64.wrap (n : Int) = (n : Int) := wrap_i64 (by omega)
   have e2 : m.put f.place ((n : Nat) : Int) = { m with n3 := ((n : Nat) : Int) } := by rw [pl]; rfl
   rw [e2] at e
   have hB := hr1.set' (c := b) hbq hbp (.cells (encM { m with n3 := ((n : Nat) : Int) }) T.msg_Msg)
   have hcomm : putR ((putR G q p ys t).set b (.cells (encM { m with n3 := ((n : Nat) : Int) }) T.msg_Msg)) q p ys (t.note (decide ((n : Int) < f.least)) 5) = (putR G q p ys (t.note (decide ((n : Int) < f.least)) 5)).set b (.cells (encM { m with n3 := ((n : Nat) : Int) }) T.msg_Msg) := by
    rw [putR_setb hbq hbp, putR_putR h.ne]
   have hm2 : ((putR G q p ys t).set b (.cells (encM { m with n3 := ((n : Nat) : Int) }) T.msg_Msg))[b]? = some (ABlk.cells (encM { m with n3 := ((n : Nat) : Int) }) T.msg_Msg) := List.getElem?_set_self (by rw [gl1, gl]; omega)
   have hx2 : ((putR G q p ys t).set b (.cells (encM { m with n3 := ((n : Nat) : Int) }) T.msg_Msg))[H.length]? = some (ABlk.cells [.str f.name, .int .i64 f.sort, .int .i64 f.place, .int .i64 f.least, .int .i64 f.most, .int .i64 f.since, .int .i64 f.absent] T.field_Field) := by rw [List.getElem?_set_ne (by omega)]; exact x1'
   simp (disch := first | omega | (simp only [lnx]; omega)) only [stdh, stdx, ↓reduceIte, seval, w1, m1', x1', pl]
   have hE := hend (t.note (decide ((n : Int) < f.least)) 5) _ (note_le hle _ _) e
   simp only [encM] at hm2 hx2 hB hcomm hE
   generalize (putR G q p ys t).set b _ = G2 at *
   simp (disch := first | omega | (simp only [lnx]; omega)) only [stdh, stdx, ↓reduceIte, seval, hm2, hx2, pl]
   rw [show (5 : Int) = ((5 : Nat) : Int) from rfl]
   refine callD_fn (rnote_ok hB _ 5 _ ?_)
   refine ⟨by simp (disch := first | omega | (simp only [lnx]; omega)) only [stdh, stdx, ↓reduceIte, seval], ?_⟩
   refine runD_V 60 ?_
   rw [hcomm]
   simp (disch := first | omega | (simp only [lnx]; omega)) only [stdh, stdx, ↓reduceIte, seval]
   exact run_fin rfl rfl trivial hE
  ·simp (disch := first | omega | (simp only [lnx]; omega)) only [stdh, stdx, ↓reduceIte, seval, x0, m0, q0, s1, pl, hwm, body_reader_field.d0, body_reader_field.d1]
   refine callD_fn (rnum_ok h0 hb hlen (by omega) _ ?_)
   refine ⟨by simp (disch := first | omega | (simp only [lnx]; omega)) only [stdh, stdx, ↓reduceIte, seval, x1, pl], ?_⟩
   refine runD_V 60 ?_
   have hv := num_val (ys := ys) (s := s) (most := f.most.toNat)
   have hle := num_le h.le f.most.toNat
   have hr1 := h0.put hle
   have gl1 := putR_len G q p ys (s.num ys f.most.toNat).2
   have m1' := m1 (s.num ys f.most.toNat).2
   have x1' := x1 (s.num ys f.most.toNat).2
   generalize s.num ys f.most.toNat = R at *
   obtain ⟨n, t⟩ := R
   simp only at hv hle hr1 gl1 m1' x1' e ⊢
   have w1 : IntKind.i64.wrap (n : Int) = (n : Int) := wrap_i64 (by omega)
   have e2 : m.put f.place ((n : Nat) : Int) = { m with n4 := ((n : Nat) : Int) } := by rw [pl]; rfl
   rw [e2] at e
   have hB := hr1.set' (c := b) hbq hbp (.cells (encM { m with n4 := ((n : Nat) : Int) }) T.msg_Msg)
   have hcomm : putR ((putR G q p ys t).set b (.cells (encM { m with n4 := ((n : Nat) : Int) }) T.msg_Msg)) q p ys (t.note (decide ((n : Int) < f.least)) 5) = (putR G q p ys (t.note (decide ((n : Int) < f.least)) 5)).set b (.cells (encM { m with n4 := ((n : Nat) : Int) }) T.msg_Msg) := by
    rw [putR_setb hbq hbp, putR_putR h.ne]
   have hm2 : ((putR G q p ys t).set b (.cells (encM { m with n4 := ((n : Nat) : Int) }) T.msg_Msg))[b]? = some (ABlk.cells (encM { m with n4 := ((n : Nat) : Int) }) T.msg_Msg) := List.getElem?_set_self (by rw [gl1, gl]; omega)
   have hx2 : ((putR G q p ys t).set b (.cells (encM { m with n4 := ((n : Nat) : Int) }) T.msg_Msg))[H.length]? = some (ABlk.cells [.str f.name, .int .i64 f.sort, .int .i64 f.place, .int .i64 f.least, .int .i64 f.most, .int .i64 f.since, .int .i64 f.absent] T.field_Field) := by rw [List.getElem?_set_ne (by omega)]; exact x1'
   simp (disch := first | omega | (simp only [lnx]; omega)) only [stdh, stdx, ↓reduceIte, seval, w1, m1', x1', pl]
   have hE := hend (t.note (decide ((n : Int) < f.least)) 5) _ (note_le hle _ _) e
   simp only [encM] at hm2 hx2 hB hcomm hE
   generalize (putR G q p ys t).set b _ = G2 at *
   simp (disch := first | omega | (simp only [lnx]; omega)) only [stdh, stdx, ↓reduceIte, seval, hm2, hx2, pl]
   rw [show (5 : Int) = ((5 : Nat) : Int) from rfl]
   refine callD_fn (rnote_ok hB _ 5 _ ?_)
   refine ⟨by simp (disch := first | omega | (simp only [lnx]; omega)) only [stdh, stdx, ↓reduceIte, seval], ?_⟩
   refine runD_V 60 ?_
   rw [hcomm]
   simp (disch := first | omega | (simp only [lnx]; omega)) only [stdh, stdx, ↓reduceIte, seval]
   exact run_fin rfl rfl trivial hE
  ·simp (disch := first | omega | (simp only [lnx]; omega)) only [stdh, stdx, ↓reduceIte, seval, x0, m0, q0, s1, pl, hwm, body_reader_field.d0, body_reader_field.d1]
   refine callD_fn (rnum_ok h0 hb hlen (by omega) _ ?_)
   refine ⟨by simp (disch := first | omega | (simp only [lnx]; omega)) only [stdh, stdx, ↓reduceIte, seval, x1, pl], ?_⟩
   refine runD_V 60 ?_
   have hv := num_val (ys := ys) (s := s) (most := f.most.toNat)
   have hle := num_le h.le f.most.toNat
   have hr1 := h0.put hle
   have gl1 := putR_len G q p ys (s.num ys f.most.toNat).2
   have m1' := m1 (s.num ys f.most.toNat).2
   have x1' := x1 (s.num ys f.most.toNat).2
   generalize s.num ys f.most.toNat = R at *
   obtain ⟨n, t⟩ := R
   simp only at hv hle hr1 gl1 m1' x1' e ⊢
   have w1 : IntKind.i64.wrap (n : Int) = (n : Int) := wrap_i64 (by omega)
   have e2 : m.put f.place ((n : Nat) : Int) = { m with n5 := ((n : Nat) : Int) } := by rw [pl]; rfl
   rw [e2] at e
   have hB := hr1.set' (c := b) hbq hbp (.cells (encM { m with n5 := ((n : Nat) : Int) }) T.msg_Msg)
   have hcomm : putR ((putR G q p ys t).set b (.cells (encM { m with n5 := ((n : Nat) : Int) }) T.msg_Msg)) q p ys (t.note (decide ((n : Int) < f.least)) 5) = (putR G q p ys (t.note (decide ((n : Int) < f.least)) 5)).set b (.cells (encM { m with n5 := ((n : Nat) : Int) }) T.msg_Msg) := by
    rw [putR_setb hbq hbp, putR_putR h.ne]
   have hm2 : ((putR G q p ys t).set b (.cells (encM { m with n5 := ((n : Nat) : Int) }) T.msg_Msg))[b]? = some (ABlk.cells (encM { m with n5 := ((n : Nat) : Int) }) T.msg_Msg) := List.getElem?_set_self (by rw [gl1, gl]; omega)
   have hx2 : ((putR G q p ys t).set b (.cells (encM { m with n5 := ((n : Nat) : Int) }) T.msg_Msg))[H.length]? = some (ABlk.cells [.str f.name, .int .i64 f.sort, .int .i64 f.place, .int .i64 f.least, .int .i64 f.most, .int .i64 f.since, .int .i64 f.absent] T.field_Field) := by rw [List.getElem?_set_ne (by omega)]; exact x1'
   simp (disch := first | omega | (simp only [lnx]; omega)) only [stdh, stdx, ↓reduceIte, seval, w1, m1', x1', pl]
   have hE := hend (t.note (decide ((n : Int) < f.least)) 5) _ (note_le hle _ _) e
   simp only [encM] at hm2 hx2 hB hcomm hE
   generalize (putR G q p ys t).set b _ = G2 at *
   simp (disch := first | omega | (simp only [lnx]; omega)) only [stdh, stdx, ↓reduceIte, seval, hm2, hx2, pl]
   rw [show (5 : Int) = ((5 : Nat) : Int) from rfl]
   refine callD_fn (rnote_ok hB _ 5 _ ?_)
   refine ⟨by simp (disch := first | omega | (simp only [lnx]; omega)) only [stdh, stdx, ↓reduceIte, seval], ?_⟩
   refine runD_V 60 ?_
   rw [hcomm]
   simp (disch := first | omega | (simp only [lnx]; omega)) only [stdh, stdx, ↓reduceIte, seval]
   exact run_fin rfl rfl trivial hE
 by_cases s2 : f.sort = 2
 ·have e := show s.field ys m f = (m.put f.place (s.sgn ys f.least f.most).1, (s.sgn ys f.least f.most).2) by rw [RD.field, if_neg s1, if_pos s2]
  have hp6 : f.place = 0 ∨ f.place = 1 ∨ f.place = 2 ∨ f.place = 3 ∨ f.place = 4 ∨ f.place = 5 := by
   rcases hf with ⟨_, z | z | z | z⟩ | ⟨_, z⟩ <;> first | exact z | omega
  rcases hp6 with pl | pl | pl | pl | pl | pl
  ·simp (disch := first | omega | (simp only [lnx]; omega)) only [stdh, stdx, ↓reduceIte, seval, x0, m0, q0, s2, pl, body_reader_field.d2, Int.reduceEq]
   refine callD_fn (rsgn_ok h0 hb hlen _ ?_)
   refine ⟨by simp (disch := first | omega | (simp only [lnx]; omega)) only [stdh, stdx, ↓reduceIte, seval, x1, pl], ?_⟩
   refine runD_V 60 ?_
   have hle := sgn_le h.le f.least f.most
   have m1' := m1 (s.sgn ys f.least f.most).2
   generalize s.sgn ys f.least f.most = R at *
   obtain ⟨n, t⟩ := R
   simp only at hle m1' e ⊢
   have e2 : m.put f.place n = { m with n0 := n } := by rw [pl]; rfl
   rw [e2] at e
   have hE := hend t _ hle e
   simp (disch := first | omega | (simp only [lnx]; omega)) only [stdh, stdx, ↓reduceIte, seval, m1', pl]
   exact run_fin rfl rfl trivial hE
  ·simp (disch := first | omega | (simp only [lnx]; omega)) only [stdh, stdx, ↓reduceIte, seval, x0, m0, q0, s2, pl, body_reader_field.d2, Int.reduceEq]
   refine callD_fn (rsgn_ok h0 hb hlen _ ?_)
   refine ⟨by simp (disch := first | omega | (simp only [lnx]; omega)) only [stdh, stdx, ↓reduceIte, seval, x1, pl], ?_⟩
   refine runD_V 60 ?_
   have hle := sgn_le h.le f.least f.most
   have m1' := m1 (s.sgn ys f.least f.most).2
   generalize s.sgn ys f.least f.most = R at *
   obtain ⟨n, t⟩ := R
   simp only at hle m1' e ⊢
   have e2 : m.put f.place n = { m with n1 := n } := by rw [pl]; rfl
   rw [e2] at e
   have hE := hend t _ hle e
   simp (disch := first | omega | (simp only [lnx]; omega)) only [stdh, stdx, ↓reduceIte, seval, m1', pl]
   exact run_fin rfl rfl trivial hE
  ·simp (disch := first | omega | (simp only [lnx]; omega)) only [stdh, stdx, ↓reduceIte, seval, x0, m0, q0, s2, pl, body_reader_field.d2, Int.reduceEq]
   refine callD_fn (rsgn_ok h0 hb hlen _ ?_)
   refine ⟨by simp (disch := first | omega | (simp only [lnx]; omega)) only [stdh, stdx, ↓reduceIte, seval, x1, pl], ?_⟩
   refine runD_V 60 ?_
   have hle := sgn_le h.le f.least f.most
   have m1' := m1 (s.sgn ys f.least f.most).2
   generalize s.sgn ys f.least f.most = R at *
   obtain ⟨n, t⟩ := R
   simp only at hle m1' e ⊢
   have e2 : m.put f.place n = { m with n2 := n } := by rw [pl]; rfl
   rw [e2] at e
   have hE := hend t _ hle e
   simp (disch := first | omega | (simp only [lnx]; omega)) only [stdh, stdx, ↓reduceIte, seval, m1', pl]
   exact run_fin rfl rfl trivial hE
  ·simp (disch := first | omega | (simp only [lnx]; omega)) only [stdh, stdx, ↓reduceIte, seval, x0, m0, q0, s2, pl, body_reader_field.d2, Int.reduceEq]
   refine callD_fn (rsgn_ok h0 hb hlen _ ?_)
   refine ⟨by simp (disch := first | omega | (simp only [lnx]; omega)) only [stdh, stdx, ↓reduceIte, seval, x1, pl], ?_⟩
   refine runD_V 60 ?_
   have hle := sgn_le h.le f.least f.most
   have m1' := m1 (s.sgn ys f.least f.most).2
   generalize s.sgn ys f.least f.most = R at *
   obtain ⟨n, t⟩ := R
   simp only at hle m1' e ⊢
   have e2 : m.put f.place n = { m with n3 := n } := by rw [pl]; rfl
   rw [e2] at e
   have hE := hend t _ hle e
   simp (disch := first | omega | (simp only [lnx]; omega)) only [stdh, stdx, ↓reduceIte, seval, m1', pl]
   exact run_fin rfl rfl trivial hE
  ·simp (disch := first | omega | (simp only [lnx]; omega)) only [stdh, stdx, ↓reduceIte, seval, x0, m0, q0, s2, pl, body_reader_field.d2, Int.reduceEq]
   refine callD_fn (rsgn_ok h0 hb hlen _ ?_)
   refine ⟨by simp (disch := first | omega | (simp only [lnx]; omega)) only [stdh, stdx, ↓reduceIte, seval, x1, pl], ?_⟩
   refine runD_V 60 ?_
   have hle := sgn_le h.le f.least f.most
   have m1' := m1 (s.sgn ys f.least f.most).2
   generalize s.sgn ys f.least f.most = R at *
   obtain ⟨n, t⟩ := R
   simp only at hle m1' e ⊢
   have e2 : m.put f.place n = { m with n4 := n } := by rw [pl]; rfl
   rw [e2] at e
   have hE := hend t _ hle e
   simp (disch := first | omega | (simp only [lnx]; omega)) only [stdh, stdx, ↓reduceIte, seval, m1', pl]
   exact run_fin rfl rfl trivial hE
  ·simp (disch := first | omega | (simp only [lnx]; omega)) only [stdh, stdx, ↓reduceIte, seval, x0, m0, q0, s2, pl, body_reader_field.d2, Int.reduceEq]
   refine callD_fn (rsgn_ok h0 hb hlen _ ?_)
   refine ⟨by simp (disch := first | omega | (simp only [lnx]; omega)) only [stdh, stdx, ↓reduceIte, seval, x1, pl], ?_⟩
   refine runD_V 60 ?_
   have hle := sgn_le h.le f.least f.most
   have m1' := m1 (s.sgn ys f.least f.most).2
   generalize s.sgn ys f.least f.most = R at *
   obtain ⟨n, t⟩ := R
   simp only at hle m1' e ⊢
   have e2 : m.put f.place n = { m with n5 := n } := by rw [pl]; rfl
   rw [e2] at e
   have hE := hend t _ hle e
   simp (disch := first | omega | (simp only [lnx]; omega)) only [stdh, stdx, ↓reduceIte, seval, m1', pl]
   exact run_fin rfl rfl trivial hE
 by_cases s3 : f.sort = 3
 ·have e := show s.field ys m f = ({ m with p := (s.path ys).1 }, (s.path ys).2) by rw [RD.field, if_neg s1, if_neg s2, if_pos s3]
  simp (disch := first | omega | (simp only [lnx]; omega)) only [stdh, stdx, ↓reduceIte, seval, x0, m0, q0, s3, Int.reduceEq]
  refine callK_fn (rpoints_ok h0 hb hlen _ ?_)
  refine runL_V 60 ?_
  have hle := path_le h.le
  have m1' := m1 (s.path ys).2
  generalize s.path ys = R at *
  obtain ⟨v, t⟩ := R
  simp only at hle m1' e ⊢
  have hE := hend t _ hle e
  simp (disch := first | omega | (simp only [lnx]; omega)) only [stdh, stdx, ↓reduceIte, seval, m1']
  exact run_fin rfl rfl trivial hE
 by_cases s4 : f.sort = 4
 ·have e := show s.field ys m f = ({ m with c := (s.cells ys).1 }, (s.cells ys).2) by rw [RD.field, if_neg s1, if_neg s2, if_neg s3, if_pos s4]
  simp (disch := first | omega | (simp only [lnx]; omega)) only [stdh, stdx, ↓reduceIte, seval, x0, m0, q0, s4, Int.reduceEq]
  refine callK_fn (rdcells_ok h0 hb hlen _ ?_)
  refine runL_V 60 ?_
  have hle := cells_le h.le
  have m1' := m1 (s.cells ys).2
  generalize s.cells ys = R at *
  obtain ⟨v, t⟩ := R
  simp only at hle m1' e ⊢
  have hE := hend t _ hle e
  simp (disch := first | omega | (simp only [lnx]; omega)) only [stdh, stdx, ↓reduceIte, seval, m1']
  exact run_fin rfl rfl trivial hE
 by_cases s5 : f.sort = 5
 ·have e := show s.field ys m f = ({ m with t := textOf (s.text ys f.most).1 }, (s.text ys f.most).2) by rw [RD.field, if_neg s1, if_neg s2, if_neg s3, if_neg s4, if_pos s5]
  simp (disch := first | omega | (simp only [lnx]; omega)) only [stdh, stdx, ↓reduceIte, seval, x0, m0, q0, s5, Int.reduceEq]
  refine callK_fn (rtextR_ok h0 hb hlen (by omega) _ ?_)
  refine runL_V 60 ?_
  have hle := text_le h.le f.most
  have m1' := m1 (s.text ys f.most).2
  generalize s.text ys f.most = R at *
  obtain ⟨v, t⟩ := R
  simp only at hle m1' e ⊢
  have hE := hend t _ hle e
  simp (disch := first | omega | (simp only [lnx]; omega)) only [stdh, stdx, ↓reduceIte, seval, m1']
  exact run_fin rfl rfl trivial hE
 have s6 : f.sort = 6 := by
  rcases hf with ⟨_, z | z | z | z⟩ | ⟨z | z, _⟩
  ·exact absurd z s3
  ·exact absurd z s4
  ·exact absurd z s5
  ·exact z
  ·exact absurd z s1
  ·exact absurd z s2
 ·have e := show s.field ys m f = ({ m with g := textOf (s.text ys f.most).1 }, (s.text ys f.most).2) by rw [RD.field, if_neg s1, if_neg s2, if_neg s3, if_neg s4, if_neg s5]
  simp (disch := first | omega | (simp only [lnx]; omega)) only [stdh, stdx, ↓reduceIte, seval, x0, m0, q0, s6, Int.reduceEq]
  refine callK_fn (rtextR_ok h0 hb hlen (by omega) _ ?_)
  refine runL_V 60 ?_
  have hle := text_le h.le f.most
  have m1' := m1 (s.text ys f.most).2
  generalize s.text ys f.most = R at *
  obtain ⟨v, t⟩ := R
  simp only at hle m1' e ⊢
  have hE := hend t _ hle e
  simp (disch := first | omega | (simp only [lnx]; omega)) only [stdh, stdx, ↓reduceIte, seval, m1']
  exact run_fin rfl rfl trivial hE
def stS (ys : List Nat) (L : List Fld) (m0 : Mg) : Nat → Mg × RD
 | 0 => (m0, ⟨0, 0, 0⟩)
 | j + 1 => (stS ys L m0 j).2.field ys (stS ys L m0 j).1 (L.getD j fld0)
def stopS (ys : List Nat) (L : List Fld) (m0 : Mg) (j : Nat) : Option AJump := if (stS ys L m0 (j + 1)).2.err = 0 then none else some (.exit 1)
theorem stS_le {ys : List Nat} {L : List Fld} {m0 : Mg} : ∀ j, (stS ys L m0 j).2.a ≤ ys.length
 | 0 => Nat.zero_le _
 | j + 1 => field_le (stS_le j) _ _
def endS (ys : List Nat) (L : List Fld) (m0 : Mg) : Nat → Nat → Nat
 | 0, j => j
 | n + 1, j => if (stS ys L m0 (j + 1)).2.err = 0 then endS ys L m0 n (j + 1) else j + 1
theorem endS_spec {ys : List Nat} {L : List Fld} {m0 : Mg} : ∀ (n j : Nat), (∀ i, i < j → stopS ys L m0 i = none) → (∀ i, i < endS ys L m0 n j - 1 → stopS ys L m0 i = none) ∧ endS ys L m0 n j ≤ j + n ∧ ((∀ i, i < endS ys L m0 n j → stopS ys L m0 i = none) ∧ endS ys L m0 n j = j + n ∨ j < endS ys L m0 n j ∧ stopS ys L m0 (endS ys L m0 n j - 1) = some (.exit 1))
 | 0, j, h => ⟨fun i hi => h i (by simp [endS] at hi; omega), Nat.le_refl _, .inl ⟨h, rfl⟩⟩
 | n + 1, j, h => by
  rw [endS]
  by_cases he : (stS ys L m0 (j + 1)).2.err = 0
  ·rw [if_pos he]
   have h' : ∀ i, i < j + 1 → stopS ys L m0 i = none := fun i hi => by
    by_cases hj : i = j
    ·subst hj; rw [stopS, if_pos he]
    ·exact h i (by omega)
   obtain ⟨a, b, c⟩ := endS_spec n (j + 1) h'
   refine ⟨a, by omega, ?_⟩
   rcases c with ⟨c1, c2⟩ | ⟨c1, c2⟩
   ·exact .inl ⟨c1, by omega⟩
   ·exact .inr ⟨by omega, c2⟩
  ·rw [if_neg he]
   refine ⟨fun i hi => h i (by omega), by omega, .inr ⟨by omega, ?_⟩⟩
   rw [Nat.add_sub_cancel, stopS, if_neg he]
theorem endS_uniq {ys : List Nat} {L : List Fld} {m0 : Mg} {len j : Nat} (hj : j < len) (hs : stopS ys L m0 j = some (.exit 1)) (hb : ∀ i, i < j → stopS ys L m0 i = none) : endS ys L m0 len 0 = j + 1 := by
 obtain ⟨a, b, c⟩ := endS_spec (ys := ys) (L := L) (m0 := m0) len 0 (by intro i hi; omega)
 have h1 : ¬ endS ys L m0 len 0 ≤ j := fun h => by
  rcases c with ⟨c1, c2⟩ | ⟨c1, c2⟩
  ·omega
  ·rw [hb _ (by omega)] at c2; cases c2
 have h2 : ¬ j + 1 < endS ys L m0 len 0 := fun h => by
  have := a j (by omega)
  rw [hs] at this; cases this
 omega
theorem endS_all {ys : List Nat} {L : List Fld} {m0 : Mg} {len : Nat} (hb : ∀ i, i < len → stopS ys L m0 i = none) : endS ys L m0 len 0 = len := by
 obtain ⟨a, b, c⟩ := endS_spec (ys := ys) (L := L) (m0 := m0) len 0 (by intro i hi; omega)
 rcases c with ⟨c1, c2⟩ | ⟨c1, c2⟩
 ·omega
 ·rw [hb _ (by omega)] at c2; cases c2
def lastS (ys : List Nat) (L : List Fld) (m0 : Mg) : Mg × RD := stS ys L m0 (endS ys L m0 L.length 0)
def decM (kind v : Int) (ys : List Nat) : Mg × Nat :=
 if v ≠ 1 ∧ v ≠ 2 then (mg0, 10) else if fieldsOf kind = [] then (mg0, 9)
 else if (lastS ys (versionFields kind v) { mg0 with k := kind }).2.err ≠ 0 then (mg0, (lastS ys (versionFields kind v) { mg0 with k := kind }).2.err)
 else if (lastS ys (versionFields kind v) { mg0 with k := kind }).2.a < ys.length then (mg0, 3)
 else (projectM (lastS ys (versionFields kind v) { mg0 with k := kind }).1 v, 0)
theorem pts_len {ys : List Nat} : ∀ (n : Nat) (l : Int × Int) (s : RD), (RD.pts ys n l s).1.length ≤ n
 | 0, l, s => by simp [RD.pts]
 | n + 1, l, s => by
  rw [RD.pts]
  split
  ·have := pts_len (ys := ys) n (s.pt ys l).1 (s.pt ys l).2; simp only [List.length_cons]; omega
  ·simp
theorem cls_len {ys : List Nat} : ∀ (n : Nat) (l : Int) (s : RD), (RD.cls ys n l s).1.length ≤ n
 | 0, l, s => by simp [RD.cls]
 | n + 1, l, s => by
  rw [RD.cls]
  split
  ·have := cls_len (ys := ys) n (l + (((s.num ys 65535).1 : Int) + 1)) ((s.num ys 65535).2.note (decide (65535 < l + (((s.num ys 65535).1 : Int) + 1))) 5)
   simp only [List.length_cons]; omega
  ·simp
theorem field_small {ys : List Nat} {s : RD} {m : Mg} {f : Fld} (h : m.small) : (s.field ys m f).1.small := by
 unfold RD.field
 repeat' split
 ·exact ⟨by rw [(put_k _ _ _).2.1]; exact h.p, by rw [(put_k _ _ _).2.2]; exact h.c⟩
 ·exact ⟨by rw [(put_k _ _ _).2.1]; exact h.p, by rw [(put_k _ _ _).2.2]; exact h.c⟩
 ·refine ⟨?_, h.c⟩
  have := pts_len (ys := ys) (s.count ys 16).1 (0, 0) (s.count ys 16).2
  have := (count_fst (ys := ys) (s := s) (most := 16)).1
  simp only [RD.path]; omega
 ·refine ⟨h.p, ?_⟩
  have := cls_len (ys := ys) (s.count ys 32).1 (-1) (s.count ys 32).2
  have := (count_fst (ys := ys) (s := s) (most := 32)).1
  simp only [RD.cells]; omega
 ·exact ⟨h.p, h.c⟩
 ·exact ⟨h.p, h.c⟩
theorem stS_small {ys : List Nat} {L : List Fld} {m0 : Mg} (h : m0.small) : ∀ j, (stS ys L m0 j).1.small
 | 0 => h
 | j + 1 => field_small (stS_small h j)
theorem fword_ok (H : AHeap) (k : Int) (Q : AVal → AHeap → Prop) (h : ∀ w : ByteArray, (w = ⟨#[]⟩ ↔ fieldsOf k = []) → Q (.str w) H) : FunOK Try.prog F.field_Word [.int .i64 k] H Q := by
 refine fun_V 60 field_Word_code rfl ?_
 by_cases h1 : k = 1
 ·subst h1
  simp (disch := first | omega | (simp only [lnx]; omega)) only [stdh, stdx, ↓reduceIte, seval, field_Word, field_Word.body]
  exact h _ (by decide +kernel)
 by_cases h2 : k = 2
 ·subst h2
  simp (disch := first | omega | (simp only [lnx]; omega)) only [stdh, stdx, ↓reduceIte, seval, field_Word, field_Word.body, Int.reduceEq]
  exact h _ (by decide +kernel)
 by_cases h3 : k = 3
 ·subst h3
  simp (disch := first | omega | (simp only [lnx]; omega)) only [stdh, stdx, ↓reduceIte, seval, field_Word, field_Word.body, Int.reduceEq]
  exact h _ (by decide +kernel)
 by_cases h4 : k = 4
 ·subst h4
  simp (disch := first | omega | (simp only [lnx]; omega)) only [stdh, stdx, ↓reduceIte, seval, field_Word, field_Word.body, Int.reduceEq]
  exact h _ (by decide +kernel)
 by_cases h5 : k = 5
 ·subst h5
  simp (disch := first | omega | (simp only [lnx]; omega)) only [stdh, stdx, ↓reduceIte, seval, field_Word, field_Word.body, Int.reduceEq]
  exact h _ (by decide +kernel)
 simp (disch := first | omega | (simp only [lnx]; omega)) only [stdh, stdx, ↓reduceIte, seval, field_Word, field_Word.body, h1, h2, h3, h4, h5]
 exact h _ (by simp [fieldsOf, h1, h2, h3, h4, h5])
abbrev decC : Ctx := ⟨F.body_Decode, 57, [.cell 6 (some 11), .tmp 7], none⟩
def decVs (n : Nat) (ys : List Nat) (L : List Fld) (m0 : Mg) : List VarN := [(n + 2, T.body_reader, fun j => [.ptr (n + 1) 0, .int .i64 ((stS ys L m0 j).2.w : Nat)]), (n + 1, T.lens_Lens, fun j => [nums .u8 false ys, .int .i64 ((stS ys L m0 j).2.a : Nat), .int .i64 ((stS ys L m0 j).2.e : Nat)]), (n + 4, T.msg_Msg, fun j => encM (stS ys L m0 j).1)]
theorem decVs_rat {n : Nat} {ys : List Nat} {L : List Fld} {m0 : Mg} {j : Nat} {H : AHeap} (h : VarsN (decVs n ys L m0) j H) : RAt H (n + 2) (n + 1) ys (stS ys L m0 j).2 ∧ H[n + 4]? = some (.cells (encM (stS ys L m0 j).1) T.msg_Msg) := by
 refine ⟨⟨?_, ?_, by omega, stS_le _⟩, ?_⟩
 ·exact h (n + 2, T.body_reader, fun j => [.ptr (n + 1) 0, .int .i64 ((stS ys L m0 j).2.w : Nat)]) (by simp [decVs])
 ·exact h (n + 1, T.lens_Lens, fun j => [nums .u8 false ys, .int .i64 ((stS ys L m0 j).2.a : Nat), .int .i64 ((stS ys L m0 j).2.e : Nat)]) (by simp [decVs])
 ·exact h (n + 4, T.msg_Msg, fun j => encM (stS ys L m0 j).1) (by simp [decVs])
theorem decVs_mk {n : Nat} {ys : List Nat} {L : List Fld} {m0 : Mg} {j : Nat} {H : AHeap} (h : RAt H (n + 2) (n + 1) ys (stS ys L m0 j).2) (hm : H[n + 4]? = some (.cells (encM (stS ys L m0 j).1) T.msg_Msg)) : VarsN (decVs n ys L m0) j H :=
 varsN_cons h.rq (varsN_cons h.rp (varsN_cons hm varsN_nil))
theorem decVs_map {n : Nat} {ys : List Nat} {L : List Fld} {m0 : Mg} : (decVs n ys L m0).map (·.1) = [n + 2, n + 1, n + 4] := rfl
theorem stopS_cases {ys : List Nat} {L : List Fld} {m0 : Mg} {j : Nat} {ap : AJump} (h : stopS ys L m0 j = some ap) : ap = .exit 1 ∧ (stS ys L m0 (j + 1)).2.err ≠ 0 := by
 unfold stopS at h
 by_cases he : (stS ys L m0 (j + 1)).2.err = 0
 ·rw [if_pos he] at h; cases h
 ·rw [if_neg he] at h; cases h; exact ⟨rfl, he⟩
set_option maxRecDepth 10000 in
set_option maxHeartbeats 4000000 in
theorem dec_range {H2 : AHeap} {n : Nat} {r : Regs} {K : List AItem} {Q : AVal → AHeap → Prop} {kind v : Int} {ys : List Nat} {m0 : Mg} (hb : ∀ b ∈ ys, b < 256) (hlen : ys.length ≤ 1000000) (hl2 : H2.length = n + 5) (h3 : H2[n + 3]? = some (ABlk.cells [AVal.ptr (n + 2) 0] T.p_body_reader)) (h0 : VarsN (decVs n ys (versionFields kind v) m0) 0 H2)
  (f8 : rget r 8 = .ptr (n + 3) 0) (f9 : rget r 9 = .ptr (n + 4) 0) (f33 : rget r 33 = .fn F.field_All_1 [] [cell (.int .i64 kind), cell (.int .i64 v)])
  (hend : ∀ H' j, H2.length < H'.length → (∀ m, m < H2.length → m ≠ n + 1 → m ≠ n + 2 → m ≠ n + 4 → H'[m]? = H2[m]?) → VarsN (decVs n ys (versionFields kind v) m0) j H' → stS ys (versionFields kind v) m0 j = lastS ys (versionFields kind v) m0 → Run Try.prog decC K r H' Q) :
  Run Try.prog decC (AItem.code (ACode.range (AOpd.tmp 33) [34] body_Decode.a0 body_Decode.b0) :: AItem.inBlock 1 :: K) r H2 Q := by
 refine range_varsW (g := F.field_All_1) (first := []) (captured := [cell (.int .i64 kind), cell (.int .i64 v)]) f33 (by intro n hn; cases hn) (item := fldArgs (versionFields kind v)) (len := (versionFields kind v).length) (fun j => rfl)
  (decVs n ys (versionFields kind v) m0) (stopS ys (versionFields kind v) m0) h0 [] (fun m hm => by cases hm) ?_ (fun _ _ _ => fall1_iter) ?_ ?_
 ·intro a' b' j H1 hj hst hl hkp hrec hv
  have q3 : H1[n + 3]? = some (ABlk.cells [AVal.ptr (n + 2) 0] T.p_body_reader) := (hkp (n + 3) (by omega) (by rw [decVs_map]; simp) (by simp)).trans h3
  obtain ⟨hr, hm⟩ := decVs_rat hv
  have hf3 : ((versionFields kind v).getD j fld0).ok3 := fieldsOf_ok3 _ ((List.mem_filter.1 (getD_mem hj)).1)
  have hf6 : ((versionFields kind v).getD j fld0).ok6 := fieldsOf_ok6 _ ((List.mem_filter.1 (getD_mem hj)).1)
  rw [hl2] at hrec hl ⊢
  have hss : stS ys (versionFields kind v) m0 (j + 1) = (stS ys (versionFields kind v) m0 j).2.field ys (stS ys (versionFields kind v) m0 j).1 ((versionFields kind v).getD j fld0) := rfl
  have hit : fldArgs (versionFields kind v) j = [.agg (encF ((versionFields kind v).getD j fld0))] := rfl
  rw [hit]
  generalize hf : (versionFields kind v).getD j fld0 = f at *
  generalize hsj : stS ys (versionFields kind v) m0 j = s at *
  refine run_V0 60 ?_
  simp (disch := first | omega | (simp only [lnx]; omega)) only [stdh, stdx, ↓reduceIte, seval, body_Decode.a0, body_Decode.b0, encF, f8, f9, q3, hrec, at_low, set_low, at_0s, at_0, List.getElem?_set_ne, List.getElem?_set_self, List.zip_cons_cons, List.zip_nil_left, List.reverse_cons, List.reverse_nil]
  have hlq := hr.lt
  obtain ⟨Lb, hLb⟩ : ∃ Lb, Lb = lrec decC r [34] a' b' LoopState.busy (lrec decC r [34] a' b' LoopState.ready none).pending := ⟨_, rfl⟩
  obtain ⟨H4, hH4, k4, l4⟩ : ∃ H4 : AHeap, H4 = H1.set (n + 5) (ABlk.loop Lb) ++ [ABlk.cells (encF f) T.field_Field] ∧ (∀ m, m < H1.length → m ≠ n + 5 → H4[m]? = H1[m]?) ∧ H4.length = H1.length + 1 := ⟨_, rfl, fun m h1 h2 => by rw [List.getElem?_append_left (by simpa using h1), List.getElem?_set_ne (Ne.symm h2)], by simp⟩
  have lp4 : H4[n + 5]? = some (.loop Lb) := by rw [hH4, List.getElem?_append_left (by simpa using hl), List.getElem?_set_self hl]
  have hr4 : RAt H4 (n + 2) (n + 1) ys s.2 := ⟨(k4 _ (by omega) (by omega)).trans hr.rq, (k4 _ (by omega) (by omega)).trans hr.rp, hr.ne, hr.le⟩
  have hm4 := (k4 (n + 4) (by omega) (by omega)).trans hm
  have q34 := (k4 (n + 3) (by omega) (by omega)).trans q3
  rw [← hLb]
  unfold encF at hH4
  rw [← hH4]
  refine callK_fn (rdfield_ok hr4 hm4 (by omega) (by omega) hf3 hf6 hb hlen _ ?_)
  have hr4' : RAt (H4.set (n + 4) (.cells (encM (s.2.field ys s.1 f).1) T.msg_Msg)) (n + 2) (n + 1) ys s.2 := ⟨by simp (disch := first | omega | (simp only [lnx]; omega)) only [List.getElem?_set_ne, List.getElem?_set_self, List.length_set, ne_eq, not_false_eq_true]; exact hr4.rq, by simp (disch := first | omega | (simp only [lnx]; omega)) only [List.getElem?_set_ne, List.getElem?_set_self, List.length_set, ne_eq, not_false_eq_true]; exact hr4.rp, hr.ne, hr.le⟩
  have hr5 := hr4'.put (s' := (s.2.field ys s.1 f).2) (field_le hr.le _ _)
  obtain ⟨H5, hH5⟩ : ∃ H5 : AHeap, H5 = putR (H4.set (n + 4) (.cells (encM (s.2.field ys s.1 f).1) T.msg_Msg)) (n + 2) (n + 1) ys (s.2.field ys s.1 f).2 := ⟨_, rfl⟩
  rw [← hH5] at hr5 ⊢
  have k5 : ∀ m, m ≠ n + 1 → m ≠ n + 2 → m ≠ n + 4 → H5[m]? = H4[m]? := fun m h1 h2 h3 => by rw [hH5, putR]; simp (disch := first | omega | (simp only [lnx]; omega)) only [List.getElem?_set_ne, List.getElem?_set_self, List.length_set, ne_eq, not_false_eq_true]
  have l5 : H5.length = H4.length := by rw [hH5, putR_len, List.length_set]
  have m5 : H5[n + 4]? = some (.cells (encM (s.2.field ys s.1 f).1) T.msg_Msg) := by rw [hH5, putR]; simp (disch := first | omega | (simp only [lnx]; omega)) only [List.getElem?_set_ne, List.getElem?_set_self, List.length_set, ne_eq, not_false_eq_true]
  have q35 := (k5 (n + 3) (by omega) (by omega) (by omega)).trans q34
  have lp5 := (k5 (n + 5) (by omega) (by omega) (by omega)).trans lp4
  refine runL_V 60 ?_
  simp (disch := first | omega | (simp only [lnx]; omega)) only [stdh, stdx, ↓reduceIte, seval, q35]
  refine callK_fn (rerr_ok hr5 _ ?_)
  refine runL_V 60 ?_
  have hkeep : ∀ (B : ABlk) m, m < H1.length → m ≠ n + 5 → m ∉ (decVs n ys (versionFields kind v) m0).map (·.1) → (H5.set (n + 5) B)[m]? = H1[m]? := fun B m a1 a2 a3 => by
   rw [decVs_map] at a3
   simp only [List.mem_cons, List.not_mem_nil, or_false, not_or] at a3
   rw [List.getElem?_set_ne (by omega), k5 m (by omega) (by omega) (by omega), k4 m a1 a2]
  have hvars : ∀ (B : ABlk), VarsN (decVs n ys (versionFields kind v) m0) (j + 1) (H5.set (n + 5) B) := fun B => decVs_mk (by
   rw [hss]
   exact ⟨by simp (disch := first | omega | (simp only [lnx]; omega)) only [List.getElem?_set_ne, List.getElem?_set_self, List.length_set, ne_eq, not_false_eq_true]; exact hr5.rq, by simp (disch := first | omega | (simp only [lnx]; omega)) only [List.getElem?_set_ne, List.getElem?_set_self, List.length_set, ne_eq, not_false_eq_true]; exact hr5.rp, hr5.ne, hr5.le⟩) (by rw [hss]; simp (disch := first | omega | (simp only [lnx]; omega)) only [List.getElem?_set_ne, List.getElem?_set_self, List.length_set, ne_eq, not_false_eq_true]; exact m5)
  by_cases he : (s.2.field ys s.1 f).2.err = 0
  ·have hs : stopS ys (versionFields kind v) m0 j = none := by rw [stopS, hss, if_pos he]
   have hd : decide (((s.2.field ys s.1 f).2.err : Int) = 0) = true := decide_eq_true (by omega)
   rw [hs]
   simp (disch := first | omega | (simp only [lnx]; omega)) only [stdh, stdx, ↓reduceIte, seval, q35, hd, lp5]
   refine round_fin (n := n + 5) (L := Lb) rfl lp5 ?_
   refine varsNQ_mk rfl (by (first | omega | (simp only [lnx]; omega))) (fun m m1 m2 m3 => hkeep _ m m1 m2 m3) (hvars _) (by simp (disch := first | omega | (simp only [lnx]; omega)) only [List.getElem?_set_ne, List.getElem?_set_self, List.length_set, ne_eq, not_false_eq_true]; rw [hLb]; rfl)
  ·have hs : stopS ys (versionFields kind v) m0 j = some (.exit 1) := by rw [stopS, hss, if_neg he]
   have hd : decide (((s.2.field ys s.1 f).2.err : Int) = 0) = false := decide_eq_false (by omega)
   rw [hs]
   simp (disch := first | omega | (simp only [lnx]; omega)) only [stdh, stdx, ↓reduceIte, seval, q35, hd, lp5]
   refine exit_fin (n := n + 5) (L := Lb) rfl lp5 ?_
   refine varsNQ_mk rfl (by (first | omega | (simp only [lnx]; omega))) (fun m m1 m2 m3 => hkeep _ m m1 m2 m3) (hvars _) (by simp (disch := first | omega | (simp only [lnx]; omega)) only [List.getElem?_set_ne, List.getElem?_set_self, List.length_set, ne_eq, not_false_eq_true]; rw [hLb]; rfl)
 ·intro H' hl hkp hall hv
  refine run_V0 1 ?_
  simp (disch := first | omega | (simp only [lnx]; omega)) only [stdh, stdx, ↓reduceIte, seval]
  simp only [List.append_nil]
  refine hend H' _ hl (fun m a1 a2 a3 a4 => hkp m a1 (by rw [decVs_map]; simp; omega)) hv ?_
  rw [lastS, endS_all hall]
 ·intro ap j H' hl hkp hj hs hbef hv
  obtain ⟨rfl, he⟩ := stopS_cases hs
  refine run_V0 1 ?_
  simp (disch := first | omega | (simp only [lnx]; omega)) only [stdh, stdx, ↓reduceIte, seval, jumpItems]
  simp only [List.append_nil]
  refine hend H' _ hl (fun m a1 a2 a3 a4 => hkp m a1 (by rw [decVs_map]; simp; omega)) hv ?_
  rw [lastS, endS_uniq hj hs hbef]
theorem lnew2_ok (H : AHeap) {l : AVal} {ys : List Nat} (hl : Nats .u8 H l ys) (hlen : ys.length ≤ 1000000) (Q : AVal → AHeap → Prop) (h : Q (.ptr H.length 0) (H ++ [lensB ys 0 0])) : FunOK Try.prog F.lens_New [l] H Q := by
 refine fun_gh (Q' := fun av H' => av = .ptr (H.length + 1) 0 ∧ H' = H ++ [.vec (u8s ys) T.uint8 1, .cells [.slc H.length 0 ys.length 1, .int .i64 0, .int .i64 0] T.lens_Lens]) (fun _ _ => ?_) (fun av H' hc _ hq => ?_) (callable_of lens_New_code)
 ·refine fun_V 60 lens_New_code rfl ?_
  have hs1 : srcLen l = some ys.length := by rw [← hl.len]; cases l <;> first | rfl | (exact absurd hl.len (by simp [slen]))
  have hs2 : srcCells H l = some (u8s ys) := by
   have h2 := hl.view
   cases l <;> first | exact h2 | (exact absurd hl.len (by simp [slen]))
  obtain ⟨p, a1, hp⟩ := Own.append3 (H := H) (w := 1) (el := T.uint8) (B := 0) Own.nil (x := l) (k := ys.length) (ys := u8s ys) 1 hs1 hs2 (by simp [u8s]) (by omega) (by omega) (by omega) (u8s_cellish _)
  simp only [killA, List.nil_append, Nat.zero_add] at a1
  simp (disch := first | omega | (simp only [lnx]; omega)) only [stdh, stdx, ↓reduceIte, seval, lens_New, lens_New.body, a1, hp]
 ·obtain ⟨rfl, rfl⟩ := hq
  have hcl : closeds H.length (u8s ys) := closeds_ints _ _
  have hleft := left_keeps (H' := H ++ [ABlk.vec (u8s ys) T.uint8 1, .cells [.slc H.length 0 ys.length 1, .int .i64 0, .int .i64 0] T.lens_Lens]) hc (keeps_append _ _) [H.length + 1] [(H.length, u8s ys)] (by simp) (by
   intro p hp
   simp only [List.mem_singleton] at hp
   subst hp
   exact ⟨u8s ys, by simp [content], (mvs_id (L := H.length) (fun _ h => toF_low h) _ hcl).symm, colds_of (L := H.length) (fun _ h => toF_low h) _ hcl⟩) (by simp)
  have h1 : toF H.length [H.length + 1] [(H.length, u8s ys)] H.length = .ice (u8s ys) := by simp [toF, findN, findI]
  have h2 : toF H.length [H.length + 1] [(H.length, u8s ys)] (H.length + 1) = .keep H.length := by simp [toF, findN]
  refine ⟨_, _, hleft, ?_⟩
  have hg : (H ++ [ABlk.vec (u8s ys) T.uint8 1, .cells [.slc H.length 0 ys.length 1, .int .i64 0, .int .i64 0] T.lens_Lens]).getD (H.length + 1) .dead = .cells [.slc H.length 0 ys.length 1, .int .i64 0, .int .i64 0] T.lens_Lens := by
   rw [List.getD_eq_getElem?_getD, at_k]; rfl
  have ht : (u8s ys).take (ys.length * 1) = u8s ys := List.take_of_length_le (by simp [u8s])
  simp only [List.map_cons, List.map_nil, hg, mvBlk, mvs, mv, h1, h2, mvPtr, mvSlc, List.drop_zero, ht]
  exact h
theorem ice_seesK {H H' : AHeap} {Q : AVal → AHeap → Prop} {av av' : AVal} (hk : Keeps H H') (ha : closed H.length av) (hs : Sees av av') (hq : Q av' H) : IceQ H Q av H' :=
 ⟨hk, [], av', by simp, by rw [mv_id (L := H.length) (fun n h => toF_low h) av ha]; exact hs, hq⟩
abbrev bareV : AVal := .agg [.int .i64 0, .int .i64 0, .int .i64 0, .int .i64 0, .int .i64 0, .int .i64 0, .int .i64 0, .nils, .nils, .str ⟨#[]⟩, .str ⟨#[]⟩]
theorem bare_ice {H H' : AHeap} {Q : AVal → AHeap → Prop} (e : Nat) (hk : Keeps H H') (h : Q (.tup [.agg (encM mg0), .int .i64 (e : Nat)]) H) : IceQ H Q (.tup [bareV, .int .i64 (e : Nat)]) H' :=
 ice_seesK hk ⟨⟨trivial, trivial, trivial, trivial, trivial, trivial, trivial, trivial, trivial, trivial, trivial, trivial⟩, trivial, trivial⟩ (Sees.tup (.cons (.agg (sees_bare 0)) (.cons (.refl _) .nil))) h
set_option maxRecDepth 10000 in
set_option maxHeartbeats 8000000 in
theorem decode2_ok (H : AHeap) {kind v : Int} {ys : List Nat} {l : AVal} (hl : Nats .u8 H l ys) (hb : ∀ b ∈ ys, b < 256) (hlen : ys.length ≤ 1000000) (Q : AVal → AHeap → Prop) (h : Q (.tup [.agg (encM (decM kind v ys).1), .int .i64 ((decM kind v ys).2 : Nat)]) H) : FunOK Try.prog F.body_Decode [.int .i64 kind, .int .i64 v, l] H Q := by
 refine fun_iced body_Decode_code fun hcl => ?_
 refine fun_V 60 body_Decode_code rfl ?_
 have hbare : ∀ H' (e : Nat), Keeps H H' → decM kind v ys = (mg0, e) → IceQ H Q (.tup [bareV, .int .i64 (e : Nat)]) H' := fun H' e hk he => by
  rw [he] at h
  exact bare_ice e hk h
 by_cases hv : v ≠ 1 ∧ v ≠ 2
 ·simp (disch := first | omega | (simp only [lnx]; omega)) only [stdh, stdx, ↓reduceIte, seval, body_Decode, body_Decode.body, hv.1, hv.2]
  exact hbare _ 10 (keeps_append _ _) (by rw [decM, if_pos hv])
 have hvb : (v = 1) ∨ (v ≠ 1 ∧ v = 2) := by omega
 obtain ⟨m0, hm0e⟩ : ∃ m0 : Mg, m0 = { mg0 with k := kind } := ⟨_, rfl⟩
 have hm0 : m0.small := by rw [hm0e]; exact ⟨Nat.zero_le _, Nat.zero_le _⟩
 rcases hvb with hv1 | ⟨hv1, hv2⟩
 case' inl =>
  have hd : decide (v = 1) = true := decide_eq_true hv1
  simp (disch := first | omega | (simp only [lnx]; omega)) only [stdh, stdx, ↓reduceIte, seval, body_Decode, body_Decode.body, hd]
 case' inr =>
  have hd1 : decide (v = 1) = false := decide_eq_false hv1
  have hd2 : decide (v = 2) = true := decide_eq_true hv2
  simp (disch := first | omega | (simp only [lnx]; omega)) only [stdh, stdx, ↓reduceIte, seval, body_Decode, body_Decode.body, hd1, hd2]
 all_goals
  refine callK_fn (fword_ok _ _ _ fun w hw => ?_)
  refine runL_V 60 ?_
  by_cases hfs : fieldsOf kind = []
  ·obtain rfl := hw.2 hfs
   simp (disch := first | omega | (simp only [lnx]; omega)) only [stdh, stdx, ↓reduceIte, seval]
   refine hbare _ 9 (keeps_append _ _) (by rw [decM, if_neg hv, if_pos hfs])
  have hwne : decide (w = ⟨#[]⟩) = false := decide_eq_false (fun h => hfs (hw.1 h))
  simp (disch := first | omega | (simp only [lnx]; omega)) only [stdh, stdx, ↓reduceIte, seval, hwne]
  refine callK_fn (lnew2_ok _ (hl.keep (keeps_append _ _)) hlen _ ?_)
  refine runL_V 60 ?_
  simp (disch := first | omega | (simp only [lnx]; omega)) only [stdh, stdx, ↓reduceIte, seval]
  refine callK_fn (fall_ok _ _ _ _ ?_)
  refine runL_V 60 ?_
  simp (disch := first | omega | (simp only [lnx]; omega)) only [stdh, stdx, ↓reduceIte, seval]
  have hm4 : (H ++ [ABlk.cells [.int .i64 0, .int .i64 0, .int .i64 0, .int .i64 0, .int .i64 0, .int .i64 0, .int .i64 0, .nils, .nils, .str ⟨#[]⟩, .str ⟨#[]⟩] T.msg_Msg, lensB ys 0 0, ABlk.cells [AVal.ptr (List.length H + 1) 0, AVal.int .i64 0] T.body_reader, ABlk.cells [AVal.ptr (List.length H + 2) 0] T.p_body_reader, ABlk.cells [.int .i64 kind, .int .i64 0, .int .i64 0, .int .i64 0, .int .i64 0, .int .i64 0, .int .i64 0, .nils, .nils, .str ⟨#[]⟩, .str ⟨#[]⟩] T.msg_Msg])[H.length + 4]? = some (ABlk.cells [.int .i64 kind, .int .i64 0, .int .i64 0, .int .i64 0, .int .i64 0, .int .i64 0, .int .i64 0, .nils, .nils, .str ⟨#[]⟩, .str ⟨#[]⟩] T.msg_Msg) := at_k
  refine run_told hm4 (cs' := encM m0) (by rw [hm0e]; exact sees_bare kind) ?_
  clear hm4
  generalize hB0 : ABlk.cells [.int .i64 0, .int .i64 0, .int .i64 0, .int .i64 0, .int .i64 0, .int .i64 0, .int .i64 0, .nils, .nils, .str ⟨#[]⟩, .str ⟨#[]⟩] T.msg_Msg = B0
  generalize hB4 : ABlk.cells [.int .i64 kind, .int .i64 0, .int .i64 0, .int .i64 0, .int .i64 0, .int .i64 0, .int .i64 0, .nils, .nils, .str ⟨#[]⟩, .str ⟨#[]⟩] T.msg_Msg = B4
  obtain ⟨H2, hH2⟩ : ∃ H2, H2 = (H ++ [B0, lensB ys 0 0, ABlk.cells [AVal.ptr (List.length H + 1) 0, AVal.int .i64 0] T.body_reader, ABlk.cells [AVal.ptr (List.length H + 2) 0] T.p_body_reader, B4]).set (H.length + 4) (.cells (encM m0) T.msg_Msg) := ⟨_, rfl⟩
  rw [← hH2]
  have l2 : H2.length = H.length + 5 := by rw [hH2, List.length_set]; simp
  have k2 : Keeps H H2 := by rw [hH2]; exact (keeps_append _ _).set (by omega) _
  have g0 : H2[H.length]? = some B0 := by rw [hH2, List.getElem?_set_ne (by omega)]; exact at_0
  have g1 : H2[H.length + 1]? = some (lensB ys 0 0) := by rw [hH2, List.getElem?_set_ne (by omega)]; exact at_k
  have g2 : H2[H.length + 2]? = some (ABlk.cells [AVal.ptr (List.length H + 1) 0, AVal.int .i64 0] T.body_reader) := by rw [hH2, List.getElem?_set_ne (by omega)]; exact at_k
  have g3 : H2[H.length + 3]? = some (ABlk.cells [AVal.ptr (List.length H + 2) 0] T.p_body_reader) := by rw [hH2, List.getElem?_set_ne (by omega)]; exact at_k
  have g4 : H2[H.length + 4]? = some (.cells (encM m0) T.msg_Msg) := by rw [hH2, List.getElem?_set_self (by simp)]
  clear hH2 hB4 B4
  refine dec_range (v := v) (m0 := m0) hb hlen l2 g3 (decVs_mk ⟨g2, g1, by omega, Nat.zero_le _⟩ g4) rfl rfl rfl ?_
  intro H' j hl' hk' hv' hj
  obtain ⟨hr, hm⟩ := decVs_rat hv'
  rw [hj] at hr hm
  have z0 := (hk' H.length (by omega) (by omega) (by omega) (by omega)).trans g0
  have z3 := (hk' (H.length + 3) (by omega) (by omega) (by omega) (by omega)).trans g3
  have z2 : H'[H.length + 2]? = some (ABlk.cells [AVal.ptr (H.length + 1) 0, AVal.int .i64 ((lastS ys (versionFields kind v) m0).2.w : Nat)] T.body_reader) := hr.rq
  have hsm : (lastS ys (versionFields kind v) m0).1.small := stS_small hm0 _
  have hlt : H.length < H'.length := by omega
  have kp : Keeps H H' := ⟨by omega, fun m hm => (hk' m (by omega) (by omega) (by omega) (by omega)).trans (k2.at_ m hm)⟩
  have hdec : decM kind v ys = if (lastS ys (versionFields kind v) m0).2.err ≠ 0 then (mg0, (lastS ys (versionFields kind v) m0).2.err) else if (lastS ys (versionFields kind v) m0).2.a < ys.length then (mg0, 3) else (projectM (lastS ys (versionFields kind v) m0).1 v, 0) := by
   rw [hm0e, decM, if_neg hv, if_neg hfs]
  generalize lastS ys (versionFields kind v) m0 = S at *
  clear g0 g1 g2 g3 g4 hv' hk'
  subst hB0
  refine run_V0 60 ?_
  simp (disch := first | omega | (simp only [lnx]; omega)) only [stdh, stdx, ↓reduceIte, seval, z3]
  refine callK_fn (rerr_ok hr _ ?_)
  refine runL_V 60 ?_
  by_cases he : S.2.err = 0
  ·rw [if_neg (by omega)] at hdec
   have hS : S.2.e = 0 := by
    unfold RD.err at he
    split at he
    ·exact he
    ·omega
   have hd0 : decide ((S.2.err : Int) = 0) = true := decide_eq_true (by omega)
   simp (disch := first | omega | (simp only [lnx]; omega)) only [stdh, stdx, ↓reduceIte, seval, z3, z2, hd0]
   refine callK_fn (end_ok _ hr.rp hr.le hlen _ ?_)
   refine runL_V 60 ?_
   rw [hS]
   by_cases ha : S.2.a < ys.length
   ·rw [if_pos ha] at hdec
    rw [if_pos ⟨rfl, ha⟩]
    simp (disch := first | omega | (simp only [lnx]; omega)) only [stdh, stdx, ↓reduceIte, seval, z0, List.getElem?_set_self]
    exact hbare _ 3 (kp.set (Nat.le_refl _) _) hdec
   ·rw [if_neg ha] at hdec
    rw [if_neg (fun hh => ha hh.2)]
    have hm' : H'[H.length + 4]? = some (ABlk.cells [.int .i64 S.1.k, .int .i64 S.1.n0, .int .i64 S.1.n1, .int .i64 S.1.n2, .int .i64 S.1.n3, .int .i64 S.1.n4, .int .i64 S.1.n5, recs encP false S.1.p, ints false S.1.c, .str S.1.t, .str S.1.g] T.msg_Msg) := hm
    simp (disch := first | omega | (simp only [lnx]; omega)) only [stdh, stdx, ↓reduceIte, seval, hm']
    refine callK_fn (project_ok _ S.1 v hsm _ ?_)
    rw [hdec] at h
    generalize projectM S.1 v = X at *
    refine runL_V 60 ?_
    simp (disch := first | omega | (simp only [lnx]; omega)) only [stdh, stdx, ↓reduceIte, seval, z0, encM, List.getElem?_set_self]
    exact ice_keeps (kp.set (Nat.le_refl _) _) ⟨closeds_encM _, trivial, trivial⟩ h
  ·rw [if_pos he] at hdec
   have hd0 : decide ((S.2.err : Int) = 0) = false := decide_eq_false (by omega)
   simp (disch := first | omega | (simp only [lnx]; omega)) only [stdh, stdx, ↓reduceIte, seval, z3, z2, z0, hd0, List.getElem?_set_self]
   exact hbare _ _ (kp.set (Nat.le_refl _) _) hdec
theorem decode_ok (H : AHeap) {kind v : Int} {ys : List Nat} {t : Bool} (hb : ∀ b ∈ ys, b < 256) (hlen : ys.length ≤ 1000000) (Q : AVal → AHeap → Prop) (h : Q (.tup [.agg (encM (decM kind v ys).1), .int .i64 ((decM kind v ys).2 : Nat)]) H) : FunOK Try.prog F.body_Decode [.int .i64 kind, .int .i64 v, nums .u8 t ys] H Q :=
 decode2_ok H (nums_nats .u8 t ys H) hb hlen Q h
abbrev at0 (a : Nat) : RD := ⟨a, 0, 0⟩
theorem drop_nx {ys X zs : List Nat} {a : Nat} (h : ys.drop a = X ++ zs) : ys.drop (a + X.length) = zs := by
 rw [← List.drop_drop, h, List.drop_left]
theorem putAll_two (n k : Nat) : putAll [n, k] = putOne n ++ putOne k := by simp [putAll]
theorem num_put {ys rest : List Nat} {a n most : Nat} (h : ys.drop a = putOne n ++ rest) (hn : n < 18446744073709551616) (hm : n ≤ most) : (at0 a).num ys most = (n, at0 (a + (putOne n).length)) := by
 have hs : numSpec most (ys.drop a) = ((putOne n).length, n, 0) := by
  rw [h, numSpec, get_put n rest hn, putOne_length, if_neg (by simp), if_neg (by simp; omega)]
 unfold RD.num
 rw [lensR_ok hs]
theorem sgn_put {ys rest : List Nat} {a : Nat} {z lo hi : Int} (h : ys.drop a = putOne (zig z) ++ rest) (hz : inI64 z) (h1 : lo ≤ z) (h2 : z ≤ hi) : (at0 a).sgn ys lo hi = (z, at0 (a + (putOne (zig z)).length)) := by
 have hs : sgnSpec lo hi (ys.drop a) = ((putOne (zig z)).length, z, 0) := by
  rw [h, sgnSpec, get_put _ rest (zig_lt hz.1 hz.2), putOne_length, if_neg (by simp), zag_zig, if_neg (by omega)]
 unfold RD.sgn
 rw [lensR_ok hs]
theorem fld_put {ys xs rest : List Nat} {a : Nat} {most : Int} (h : ys.drop a = putOne xs.length ++ xs ++ rest) (hl : xs.length < 18446744073709551616) (hm : (xs.length : Int) ≤ most) : (at0 a).fld ys most = (xs, at0 (a + (putOne xs.length ++ xs).length)) := by
 have hg : getSpec (ys.drop a) = (xs.length, sizeOf xs.length, 0) := by
  rw [h, List.append_assoc]; exact get_put _ _ hl
 have hs : fieldSpec most (ys.drop a) = ((putOne xs.length ++ xs).length, xs, 0) := by
  rw [fieldSpec_of (by rw [hg]) (by rw [hg]; simp; omega) (by rw [hg, h]; simp [putOne_length]), hg, h]
  simp only [List.length_append, putOne_length]
  rw [List.append_assoc, ← putOne_length, List.drop_left, List.take_left]
 unfold RD.fld
 rw [lensR_ok hs]
theorem note_none (a : Nat) (x : Nat) {b : Bool} (h : b = false) : (at0 a).note b x = at0 a := by subst h; rfl
theorem at0_err (a : Nat) : (at0 a).err = 0 := rfl
theorem count_put {ys rest : List Nat} {a n most : Nat} (h : ys.drop a = putOne n ++ rest) (h1 : 1 ≤ n) (hm : n ≤ most) (hx : most ≤ 1000) : (at0 a).count ys most = (n, at0 (a + (putOne n).length)) := by
 unfold RD.count
 rw [num_put h (by omega) (by omega)]
 simp only [note_none _ _ (decide_eq_false (show ¬ n = 0 by omega)), note_none _ _ (decide_eq_false (show ¬ most < n by omega)), at0_err, if_true]
theorem pts_put {ys : List Nat} : ∀ (l : List (Int × Int)) (last : Int × Int) (a : Nat) (rest : List Nat), ys.drop a = pathB last l ++ rest → near last.1 → near last.2 → l.any farP = false → RD.pts ys l.length last (at0 a) = (l, at0 (a + (pathB last l).length))
 | [], last, a, rest, h, _, _, _ => by simp [RD.pts, pathB]
 | x :: l, last, a, rest, h, n1, n2, hf => by
  rw [List.any_cons, Bool.or_eq_false_iff] at hf
  have hx := of_decide_eq_false hf.1
  unfold near at n1 n2
  rw [pathB, putAll_two, List.append_assoc, List.append_assoc] at h
  have e1 := sgn_put (lo := -1000000 - last.1) (hi := 1000000 - last.1) h (by unfold inI64; omega) (by omega) (by omega)
  have h2 := drop_nx h
  have e2 := sgn_put (lo := -1000000 - last.2) (hi := 1000000 - last.2) h2 (by unfold inI64; omega) (by omega) (by omega)
  have h3 := drop_nx h2
  have e3 : (at0 a).pt ys last = (x, at0 (a + (putOne (zig (x.1 - last.1))).length + (putOne (zig (x.2 - last.2))).length)) := by
   unfold RD.pt
   rw [e1, e2]
   simp only [Prod.mk.injEq, and_true]
   exact Prod.ext (by simp; omega) (by simp; omega)
  rw [List.length_cons, RD.pts, e3]
  simp only [at0_err, if_true]
  rw [pts_put l x _ rest h3 (by unfold near; omega) (by unfold near; omega) hf.2]
  simp only [pathB, putAll_two, List.length_append, Nat.add_assoc]
theorem cls_put {ys : List Nat} : ∀ (l : List Int) (last : Int) (a : Nat) (rest : List Nat), ys.drop a = cellsB last l ++ rest → -1 ≤ last → cellsGo last l = 0 → RD.cls ys l.length last (at0 a) = (l, at0 (a + (cellsB last l).length))
 | [], last, a, rest, h, _, _ => by simp [RD.cls, cellsB]
 | c :: l, last, a, rest, h, hl, hg => by
  rw [cellsGo] at hg
  by_cases g1 : c < 0 ∨ 65535 < c
  ·rw [if_pos g1] at hg; omega
  rw [if_neg g1] at hg
  by_cases g2 : c ≤ last
  ·rw [if_pos g2] at hg; omega
  rw [if_neg g2] at hg
  rw [cellsB, putAll_one, List.append_assoc] at h
  have e1 := num_put (most := 65535) h (by omega) (by omega)
  have h2 := drop_nx h
  have ec : last + (((c - last - 1).toNat : Int) + 1) = c := by omega
  rw [List.length_cons, RD.cls, e1]
  simp only [ec]
  rw [note_none _ _ (decide_eq_false (show ¬ 65535 < c by omega)), if_pos (at0_err _), cls_put l c _ rest h2 (by omega) hg]
  simp only [cellsB, putAll_one, List.length_append, Nat.add_assoc]
def setF (m' m : Mg) (f : Fld) : Mg :=
 if f.sort = 1 then m'.put f.place (m.num f.place) else if f.sort = 2 then m'.put f.place (m.num f.place)
 else if f.sort = 3 then { m' with p := m.p } else if f.sort = 4 then { m' with c := m.c } else if f.sort = 5 then { m' with t := m.t } else { m' with g := m.g }
theorem textOf_bytesOf' (s : ByteArray) : textOf (bytesOf s) = s := by
 unfold textOf bytesOf
 rw [List.map_map]
 have : (s.data.toList.map (UInt8.ofNat ∘ UInt8.toNat)) = s.data.toList := by
  conv => rhs; rw [← List.map_id s.data.toList]
  refine List.map_congr_left fun x _ => ?_
  simp
 rw [this]
theorem field_put {ys rest : List Nat} {a : Nat} {m m' : Mg} {f : Fld} (hf : f ∈ fieldsOf m.k) (hm : m.fine) (hw : rwrongE m f = 0) (h : ys.drop a = partB m f ++ rest) : (at0 a).field ys m' f = (setF m' m f, at0 (a + (partB m f).length)) := by
 have h3 := fieldsOf_ok3 f hf
 have hst := fieldsOf_std f hf
 obtain ⟨q1, q2, q3, q4, q5, q6⟩ := fits_of hf hm hw
 have hwe := wrong_eq (m := m) hst
 rw [hw] at hwe
 obtain ⟨s3, s4, s5, s6⟩ := hst
 obtain ⟨o1, o2, o3, o4⟩ := fieldsOf_ok6 f hf
 have hmany : ∀ n, manyE n f = 0 → f.least ≤ n ∧ (n : Int) ≤ f.most := fun n hn => by
  unfold manyE at hn
  split at hn
  ·omega
  split at hn <;> omega
 unfold wrongE at hwe
 unfold RD.field setF
 unfold partB at h ⊢
 by_cases z1 : f.sort = 1
 ·rw [if_pos z1] at h ⊢
  rw [if_pos z1, if_pos z1]
  rw [if_neg (by omega), if_neg (by omega), if_neg (by omega), if_neg (by omega)] at hwe
  have hr : ¬ (m.num f.place < f.least ∨ f.most < m.num f.place) := fun hh => by rw [if_pos hh] at hwe; omega
  have hq := q1 z1
  rw [putAll_one] at h ⊢
  rw [num_put (most := f.most.toNat) h (by omega) (by omega)]
  have : (((m.num f.place).toNat : Nat) : Int) = m.num f.place := by omega
  simp only [this]
  rw [note_none _ _ (decide_eq_false (by omega))]
 rw [if_neg z1] at h ⊢
 rw [if_neg z1, if_neg z1]
 by_cases z2 : f.sort = 2
 ·rw [if_pos z2] at h ⊢
  rw [if_pos z2, if_pos z2]
  rw [if_neg (by omega), if_neg (by omega), if_neg (by omega), if_neg (by omega)] at hwe
  have hr : ¬ (m.num f.place < f.least ∨ f.most < m.num f.place) := fun hh => by rw [if_pos hh] at hwe; omega
  rw [putAll_one] at h ⊢
  rw [sgn_put h (q2 z2) (by omega) (by omega)]
 rw [if_neg z2] at h ⊢
 rw [if_neg z2, if_neg z2]
 by_cases z3 : f.sort = 3
 ·rw [if_pos z3] at h hwe ⊢
  rw [if_pos z3, if_pos z3]
  unfold pathE at hwe
  have hc : manyE m.p.length f = 0 := Classical.byContradiction fun hh => by rw [if_pos hh] at hwe; exact hh hwe
  obtain ⟨c1, c2⟩ := hmany _ hc
  obtain ⟨b1, b2⟩ := s3 z3
  rw [putAll_one, List.append_assoc] at h
  rw [putAll_one]
  unfold RD.path
  rw [count_put (most := 16) h (by omega) (by omega) (by omega)]
  have hp := pts_put m.p (0, 0) _ rest (drop_nx h) (by unfold near; omega) (by unfold near; omega) (q3 z3).2
  rw [hp, List.length_append, Nat.add_assoc]
 rw [if_neg z3] at h hwe ⊢
 rw [if_neg z3, if_neg z3]
 by_cases z4 : f.sort = 4
 ·rw [if_pos z4] at h hwe ⊢
  rw [if_pos z4, if_pos z4]
  unfold cellsE at hwe
  have hc : manyE m.c.length f = 0 := Classical.byContradiction fun hh => by rw [if_pos hh] at hwe; exact hh hwe
  obtain ⟨c1, c2⟩ := hmany _ hc
  obtain ⟨b1, b2⟩ := s4 z4
  rw [putAll_one, List.append_assoc] at h
  rw [putAll_one]
  unfold RD.cells
  rw [count_put (most := 32) h (by omega) (by omega) (by omega)]
  have hp := cls_put m.c (-1) _ rest (drop_nx h) (by omega) (q4 z4).2
  rw [hp, List.length_append, Nat.add_assoc]
 rw [if_neg z4] at h hwe ⊢
 rw [if_neg z4, if_neg z4]
 have htx : ∀ t : ByteArray, textE t f = 0 → ys.drop a = putAll [(bytesOf t).length] ++ bytesOf t ++ rest → (at0 a).text ys f.most = (bytesOf t, at0 (a + (putAll [(bytesOf t).length] ++ bytesOf t).length)) := fun t ht hd => by
  unfold textE at ht
  have hc : manyE t.size f = 0 := Classical.byContradiction fun hh => by rw [if_pos hh] at ht; exact hh ht
  rw [if_neg (by omega)] at ht
  obtain ⟨c1, c2⟩ := hmany _ hc
  have hbad : (bytesOf t).any badB = false := by
   cases hb : (bytesOf t).any badB
   ·rfl
   ·rw [hb] at ht; simp at ht
  have hl : (bytesOf t).length = t.size := bytesOf_len t
  rw [putAll_one] at hd ⊢
  unfold RD.text
  rw [fld_put hd (by omega) (by omega)]
  simp only [note_none _ _ hbad]
 by_cases z5 : f.sort = 5
 ·rw [if_pos z5] at h hwe ⊢
  rw [if_pos z5, if_pos z5, htx _ hwe h]
  simp only [textOf_bytesOf']
 ·have z6 : f.sort = 6 := by rcases h3 with ⟨_, z⟩ | ⟨z, _⟩ <;> omega
  rw [if_neg z5] at h hwe ⊢
  rw [if_pos z6] at hwe
  rw [if_neg z5, if_neg z5, htx _ hwe h]
  simp only [textOf_bytesOf']
def setAll (m' m : Mg) (L : List Fld) : Mg := L.foldl (fun x f => setF x m f) m'
theorem stS_put {ys rest : List Nat} {m m0 : Mg} {L : List Fld} (hL : ∀ f ∈ L, f ∈ fieldsOf m.k ∧ rwrongE m f = 0) (hm : m.fine) (h : ys = bodyB m L ++ rest) : ∀ j, j ≤ L.length → stS ys L m0 j = (setAll m0 m (L.take j), at0 (bodyB m (L.take j)).length)
 | 0, _ => by simp [stS, setAll, bodyB]
 | j + 1, hj => by
  have hj' : j < L.length := by omega
  have hmem := hL _ (getD_mem hj')
  have hsplit : L = L.take j ++ (L.getD j fld0 :: L.drop (j + 1)) := by
   rw [List.getD_eq_getElem?_getD, List.getElem?_eq_getElem hj', Option.getD_some, List.getElem_cons_drop, List.take_append_drop]
  have hd : ys.drop (bodyB m (L.take j)).length = partB m (L.getD j fld0) ++ (bodyB m (L.drop (j + 1)) ++ rest) := by
   have : bodyB m L = bodyB m (L.take j) ++ (partB m (L.getD j fld0) ++ bodyB m (L.drop (j + 1))) := by
    conv => lhs; rw [hsplit]
    simp only [bodyB, List.flatMap_append, List.flatMap_cons]
   rw [h, this, List.append_assoc, List.drop_left, List.append_assoc]
  rw [stS, stS_put hL hm h j (by omega), field_put hmem.1 hm hmem.2 hd, bodyB_step m hj', List.length_append]
  have : L.take (j + 1) = L.take j ++ [L.getD j fld0] := by
   rw [List.take_add_one]; simp [hj']
  rw [this]
  simp only [setAll, List.foldl_append, List.foldl_cons, List.foldl_nil]
theorem lastS_put {ys rest : List Nat} {m m0 : Mg} {L : List Fld} (hL : ∀ f ∈ L, f ∈ fieldsOf m.k ∧ rwrongE m f = 0) (hm : m.fine) (h : ys = bodyB m L ++ rest) : lastS ys L m0 = (setAll m0 m L, at0 (bodyB m L).length) := by
 unfold lastS
 rw [endS_all (fun i hi => by rw [stopS, stS_put hL hm h (i + 1) (by omega), if_pos (at0_err _)]), stS_put hL hm h _ (Nat.le_refl _), List.take_length]
set_option maxRecDepth 10000 in
set_option maxHeartbeats 4000000 in
theorem set_back {m : Mg} (h : checkM m = 0) {v : Int} (hv : v = 1 ∨ v = 2) : projectM (setAll { mg0 with k := m.k } m (versionFields m.k v)) v = projectM m v := by
 obtain ⟨h0, h1, h2⟩ := (checkM_zero m).1 h
 obtain ⟨k, n0, n1, n2, n3, n4, n5, p, c, t, g⟩ := m
 simp only at h0 h1 h2 ⊢
 clear h h1
 have hk : k = 1 ∨ k = 2 ∨ k = 3 ∨ k = 4 ∨ k = 5 := Classical.byContradiction fun hh => h0 (by
  unfold fieldsOf
  rw [if_neg (by omega), if_neg (by omega), if_neg (by omega), if_neg (by omega), if_neg (by omega)])
 clear h0
 rcases hv with rfl | rfl
 ·rw [projectM_one, projectM_one]
  rcases hk with rfl | rfl | rfl | rfl | rfl <;>
  ·simp [fieldsOf, withoutM, Mg.put, mg0] at h2
   simp [versionFields, fieldsOf, setAll, setF, Mg.put, Mg.num, mg0, h2]
 ·rw [projectM_ne (by omega), projectM_ne (by omega)]
  rcases hk with rfl | rfl | rfl | rfl | rfl <;>
  ·simp [fieldsOf, withoutM, Mg.put, mg0] at h2
   simp [versionFields, fieldsOf, setAll, setF, Mg.put, Mg.num, mg0, h2]
theorem encB_eq {m : Mg} {v : Int} (h : checkM m = 0) (hv : v = 1 ∨ v = 2) : encB m v = bodyB m (versionFields m.k v) := by
 rw [encB, partFields, if_pos (by rw [bcheckE, if_neg (by omega), h])]
theorem vf_mem {m : Mg} {v : Int} (h : checkM m = 0) : ∀ f ∈ versionFields m.k v, f ∈ fieldsOf m.k ∧ rwrongE m f = 0 := fun f hf =>
 ⟨(List.mem_filter.1 hf).1, ((checkM_zero m).1 h).2.1 f (List.mem_filter.1 hf).1⟩
theorem dec_enc {m : Mg} {v : Int} {rest : List Nat} (h : checkM m = 0) (hm : m.fine) (hv : v = 1 ∨ v = 2) : decM m.k v (encB m v ++ rest) = if rest = [] then (projectM m v, 0) else (mg0, 3) := by
 rw [decM, if_neg (by omega), if_neg ((checkM_zero m).1 h).1]
 rw [lastS_put (m := m) (vf_mem h) hm (by rw [encB_eq h hv])]
 rw [if_neg (by simp [RD.err]), encB_eq h hv]
 cases rest with
 | nil => rw [if_pos rfl, if_neg (by simp), set_back h hv]
 | cons x l => rw [if_pos (by simp), if_neg (List.cons_ne_nil x l)]
theorem vf_two (k : Int) : versionFields k 2 = fieldsOf k := by
 rw [versionFields, List.filter_eq_self]
 intro f hf
 have := (fieldsOf_ok4 f hf).1
 exact decide_eq_true (by omega)
theorem encB_len {m : Mg} (hm : m.fine) (v : Int) : (encB m v).length ≤ 1152 := by
 have h := bodyB_len (v := v) hm _ (Nat.le_refl _)
 rw [List.take_length] at h
 have := partFields_len m v
 unfold encB
 omega
theorem pathB_byte : ∀ (l : List (Int × Int)) (last : Int × Int), ∀ b ∈ pathB last l, b < 256
 | [], _ => by simp [pathB]
 | x :: l, last => fun b hb => by
  rw [pathB] at hb
  rcases List.mem_append.1 hb with h | h
  ·exact putAll_byte _ b h
  ·exact pathB_byte l x b h
theorem cellsB_byte : ∀ (l : List Int) (last : Int), ∀ b ∈ cellsB last l, b < 256
 | [], _ => by simp [cellsB]
 | x :: l, last => fun b hb => by
  rw [cellsB] at hb
  rcases List.mem_append.1 hb with h | h
  ·exact putAll_byte _ b h
  ·exact cellsB_byte l x b h
theorem partB_byte (m : Mg) (f : Fld) : ∀ b ∈ partB m f, b < 256 := fun b hb => by
 unfold partB at hb
 have two : ∀ X Y : List Nat, (∀ b ∈ X, b < 256) → (∀ b ∈ Y, b < 256) → b ∈ X ++ Y → b < 256 := fun X Y h1 h2 h => by
  rcases List.mem_append.1 h with h | h
  ·exact h1 b h
  ·exact h2 b h
 split at hb
 ·exact putAll_byte _ b hb
 split at hb
 ·exact putAll_byte _ b hb
 split at hb
 ·exact two _ _ (putAll_byte _) (pathB_byte _ _) hb
 split at hb
 ·exact two _ _ (putAll_byte _) (cellsB_byte _ _) hb
 split at hb
 ·exact two _ _ (putAll_byte _) (bytesOf_lt _) hb
 ·exact two _ _ (putAll_byte _) (bytesOf_lt _) hb
theorem encB_byte (m : Mg) (v : Int) : ∀ b ∈ encB m v, b < 256 := fun b hb => by
 obtain ⟨f, _, hf⟩ := List.mem_flatMap.1 hb
 exact partB_byte m f b hf
theorem err_zero {s : RD} (h : s.err = 0) : s.w = 0 ∧ s.e = 0 := by
 unfold RD.err at h
 split at h
 ·exact ⟨by assumption, h⟩
 ·exact absurd h (by assumption)
theorem note_err0 {s : RD} {b : Bool} {x : Nat} (hx : x ≠ 0) (h : (s.note b x).err = 0) : s.err = 0 ∧ b = false ∧ s.note b x = s := by
 unfold RD.note at h ⊢
 by_cases hb : b = true ∧ s.err = 0
 ·rw [if_pos hb] at h
  have := (err_zero h).1
  exact absurd this hx
 ·rw [if_neg hb] at h ⊢
  refine ⟨h, ?_, rfl⟩
  cases hbb : b
  ·rfl
  ·exact absurd ⟨hbb, h⟩ hb
theorem lensR_stick {α : Type} {d : α} {ys : List Nat} {a e : Nat} {sp : List Nat → Nat × α × Nat} (h : (lensR d ys a e sp).2.2 = 0) : e = 0 := by
 unfold lensR at h
 by_cases he : e ≠ 0
 ·rw [if_pos he] at h; exact h
 ·omega
theorem sgn_stick {ys : List Nat} {s : RD} {lo hi : Int} (h : (s.sgn ys lo hi).2.err = 0) : s.err = 0 := by
 obtain ⟨h1, h2⟩ := err_zero h
 unfold RD.sgn at h1 h2
 have := lensR_stick h2
 unfold RD.err; rw [if_pos h1]; exact this
theorem num_stick {ys : List Nat} {s : RD} {most : Nat} (h : (s.num ys most).2.err = 0) : s.err = 0 := by
 obtain ⟨h1, h2⟩ := err_zero h
 unfold RD.num at h1 h2
 have := lensR_stick h2
 unfold RD.err; rw [if_pos h1]; exact this
theorem fld_stick {ys : List Nat} {s : RD} {most : Int} (h : (s.fld ys most).2.err = 0) : s.err = 0 := by
 obtain ⟨h1, h2⟩ := err_zero h
 unfold RD.fld at h1 h2
 have := lensR_stick h2
 unfold RD.err; rw [if_pos h1]; exact this
theorem path_err {ys : List Nat} : ∀ (n : Nat) (l : Int × Int) (s : RD), (RD.pts ys n l s).2.err = 0 → s.err = 0
 | 0, l, s, h => h
 | n + 1, l, s, h => by
  rw [RD.pts] at h
  by_cases hp : (s.pt ys l).2.err = 0
  ·exact sgn_stick (sgn_stick hp)
  ·rw [if_neg hp] at h; exact absurd h hp
theorem cls_err {ys : List Nat} : ∀ (n : Nat) (l : Int) (s : RD), (RD.cls ys n l s).2.err = 0 → s.err = 0
 | 0, l, s, h => h
 | n + 1, l, s, h => by
  rw [RD.cls] at h
  by_cases hp : ((s.num ys 65535).2.note (decide (65535 < l + (((s.num ys 65535).1 : Int) + 1))) 5).err = 0
  ·exact num_stick (note_err0 (by omega) hp).1
  ·rw [if_neg hp] at h; exact absurd h hp
theorem last_zero {ys : List Nat} {L : List Fld} {m0 : Mg} (h : (lastS ys L m0).2.err = 0) : (∀ j, j < L.length → (stS ys L m0 (j + 1)).2.err = 0) ∧ lastS ys L m0 = stS ys L m0 L.length := by
 unfold lastS at *
 obtain ⟨a, b, c⟩ := endS_spec (ys := ys) (L := L) (m0 := m0) L.length 0 (by intro i hi; omega)
 rcases c with ⟨c1, c2⟩ | ⟨c1, c2⟩
 ·have c3 : endS ys L m0 L.length 0 = L.length := by omega
  refine ⟨fun j hj => ?_, by rw [c3]⟩
  have := c1 j (by omega)
  unfold stopS at this
  by_cases he : (stS ys L m0 (j + 1)).2.err = 0
  ·exact he
  ·rw [if_neg he] at this; cases this
 ·have := (stopS_cases c2).2
  rw [show endS ys L m0 L.length 0 - 1 + 1 = endS ys L m0 L.length 0 by omega] at this
  exact absurd h this
end Go.Proofs.Ytgjldipoagkncaa
