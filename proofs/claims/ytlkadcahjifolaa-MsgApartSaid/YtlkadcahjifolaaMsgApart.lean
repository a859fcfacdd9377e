/-
  What is written into the lists of the copy, the projection and the message that Set hands back leaves the message itself as it was (its first few points and cells). By an AI agent. No person has read it.
-/
import Derived.Test.YtlkadcahjifolaaMSGD
import Derived.Test.YtlkadcahjifolaaMSGA
import Derived.Test.YtlkadcahjifolaaMSGC
import Derived.Test.YtlkadcahjifolaaAm6
import Derived.OpenShut
import Derived.Test.YtlkadcahjifolaaRows
set_option linter.unusedSimpArgs false
set_option linter.unusedVariables false

namespace Go.Proofs.Ytlkadcahjifolaa
open Go Go.Am
set_option linter.unusedSimpArgs false
set_option linter.unusedVariables false

set_option maxRecDepth 10000 in
set_option maxHeartbeats 8000000 in
theorem msgapart_ok {x : Mg} (hx : x.fine) (v : Int) : FunOK Try.prog F.cuneiformlaw17_MsgApart [.agg (encM x), .int .i64 v] [] fun av _ => av = .bool true := by
  refine fun_V 60 cuneiformlaw17_MsgApart_code rfl ?_
  simp (disch := first | omega | (simp only [lnx]; omega)) only [stdh, stdx, ↓reduceIte, seval, cuneiformlaw17_MsgApart, cuneiformlaw17_MsgApart.body, encM]
  refine callK_fn (cut17_ok _ x hx _ ?_)
  have sm := cutM_small x
  have fm := (cutM_fine2 x).fine
  generalize cutM x = m at *
  refine runL_V 60 ?_
  simp (disch := first | omega | (simp only [lnx]; omega)) only [stdh, stdx, ↓reduceIte, seval, encM]
  refine callK_fn (copy_ok _ m sm _ ?_)
  refine runL_V 60 ?_
  simp (disch := first | omega | (simp only [lnx]; omega)) only [stdh, stdx, ↓reduceIte, seval]
  refine callK_fn (of17_ok _ m sm _ ?_)
  have happ : ∀ H n, H[n]? = some (.vec [] T.int 1) → ∃ P, appendA H T.int 1 8 (.slc n 0 0 1) (ints false m.c) = some (P, .slc H.length 0 m.c.length 1, H.set n .dead ++ [.vec (m.c.map (AVal.int .i64)) T.int 1]) ∧ P := fun H n hn => by
    have ho : Own 1 T.int 0 H (.slc n 0 0 1) 0 [] := ⟨rfl, .inr ⟨n, Nat.zero_le _, rfl, hn⟩⟩
    obtain ⟨p, a1, hp⟩ := Own.append3 ho (x := ints false m.c) (k := m.c.length) (ys := m.c.map (AVal.int .i64)) 8 rfl rfl (by simp) (by omega) (by have := sm.c; omega) (by have := sm.c; omega) (by simp [AVal.cellish])
    refine ⟨p, ?_, hp⟩
    rw [a1, Nat.zero_add]; rfl
  obtain ⟨P, a1, hP⟩ := happ [.cells (encM m) T.msg_Msg, .cells (encM m) T.cuneiformref17_M, .vec [] T.int 1] 2 rfl
  simp only [encM] at a1
  refine runL_V 9 ?_
  simp (disch := first | omega | (simp only [lnx]; omega)) only [stdh, stdx, ↓reduceIte, seval, encM, a1, hP]
  refine runL_iceLast (H := [.cells (encM m) T.msg_Msg, .cells (encM m) T.cuneiformref17_M, .dead]) (el := T.int) (w := 1) (cs := m.c.map (AVal.int .i64)) ?_ (by exact closed_ints false m.c) (by intro n hn; cases hn) ?_
  · intro n c hc
    match n, hc with
    | 0, hc => cases hc; exact closeds_encM m
    | 1, hc => cases hc; exact closeds_encM m
    | 2, hc => cases hc; trivial
    | n + 3, hc => cases hc
  have hlen3 : ([ABlk.cells (encM m) T.msg_Msg, .cells (encM m) T.cuneiformref17_M, .dead] : AHeap).length = 3 := rfl
  rw [hlen3]
  generalize hrr : mvRegs (iceF 3 (m.c.map (AVal.int .i64))) _ = rr
  have q1 : rget rr 1 = .int .i64 v := by rw [← hrr, rget_mv]; rfl
  have q2 : rget rr 2 = .ptr 0 0 := by rw [← hrr, rget_mv]; rfl
  have q5 : rget rr 5 = .ptr 1 0 := by rw [← hrr, rget_mv]; rfl
  have q20 : rget rr 20 = ints false m.c := by
    rw [← hrr, rget_mv]
    show mv (iceF 3 (m.c.map (AVal.int .i64))) (.slc 3 0 m.c.length 1) = _
    rw [mv_iceAt (by simp)]; rfl
  clear hrr
  refine runL_V 4 ?_
  simp (disch := first | omega | (simp only [lnx]; omega)) only [stdh, stdx, ↓reduceIte, seval, q1, q2, q5, q20, encM]
  refine run_rest (A := ApD m) ?_ (fun rest s hs => ?_)
  · rintro r G ⟨a, b, m1, m2, pa, ca, pb, cb, r2, r5, r6, r7, g0, g1, ga, gb, o1, o2, o3, o4⟩
    have g0' := g0
    simp only [encM] at g0'
    refine run_V0 60 ?_
    simp (disch := first | omega | (simp only [lnx]; omega)) only [stdh, stdx, ↓reduceIte, seval, r2, r5, r6, r7, g0', encM]
    refine callK_fn (set_own _ m sm _ _ _ fun G3 m3 ps cs bo k3 o5 o6 => ?_)
    refine runL_V 60 ?_
    have c5 := o5.cell
    have c6 := o6.cell
    simp (disch := first | omega | (simp only [lnx]; omega)) only [stdh, stdx, ↓reduceIte, seval, encV, c5.1, c5.2, c6.1, c6.2, List.getElem?_set_self]
    obtain ⟨Z, hZ⟩ : ∃ Z, Z = G3 ++ [ABlk.cells [.int .i64 m3.k, .int .i64 m3.n0, .int .i64 m3.n1, .int .i64 m3.n2, .int .i64 m3.n3, .int .i64 m3.n4, .int .i64 m3.n5, ps, cs, .str m3.t, .str m3.g] T.msg_Msg] := ⟨_, rfl⟩
    rw [← hZ]
    have kz : Keeps G3 Z := by rw [hZ]; exact keeps_append _ _
    have z0 : Z[0]? = some (.cells (encM m) T.msg_Msg) := kz.get (k3.get g0)
    have z1 : Z[1]? = some (.cells (encM m) T.cuneiformref17_M) := kz.get (k3.get g1)
    have za : boxV Z a m1 pa ca := kz.get (k3.get ga)
    have zb : boxV Z b m2 pb cb := kz.get (k3.get gb)
    have zs : boxV Z G3.length m3 ps cs := by rw [boxV, hZ]; exact at_0
    obtain ⟨n1, l1, hn1, w1⟩ := (o1.keep k3).keep kz
    obtain ⟨n2, l2, hn2, w2⟩ := (o2.keep k3).keep kz
    obtain ⟨n3, l3, hn3, w3⟩ := (o3.keep k3).keep kz
    obtain ⟨n4, l4, hn4, w4⟩ := (o4.keep k3).keep kz
    obtain ⟨n5, l5, hn5, w5⟩ := o5.keep kz
    obtain ⟨n6, l6, hn6, w6⟩ := o6.keep kz
    clear hZ kz g0 g1 ga gb k3
    refine ap_loop1 _ _ hn1 ?_ za zb zs ⟨l1, w1⟩ ⟨l3, w3⟩ ⟨l5, w5⟩ _ 0 _ rfl (Nat.zero_le _) (Wrote.refl _)
    intro Y r' wy s2 s5 s6 s7 s8
    refine run_V0 60 ?_
    simp (disch := first | omega | (simp only [lnx]; omega)) only [stdh, stdx, ↓reduceIte, seval, s2, s5, s6, s7, s8]
    refine ap_loop2 _ _ hn2 ?_ (wy.box za) (wy.box zb) (wy.box zs) (wy.own ⟨l2, w2⟩) (wy.own ⟨l4, w4⟩) (wy.own ⟨l6, w6⟩) _ 0 _ rfl (Nat.zero_le _) (Wrote.refl _)
    intro X r'' wx t2 t5 t6 t7 t8
    have x0 := wx.box (wy.box z0)
    have x1 := wx.box (wy.box z1)
    simp only [encM] at x0 x1
    refine run_V0 60 ?_
    simp (disch := first | omega | (simp only [lnx]; omega)) only [stdh, stdx, ↓reduceIte, seval, t2, t5, cuneiformlaw17_MsgApart.d5]
    refine callD_fn (known17_ok _ _ ?_)
    refine ⟨by simp (disch := first | omega | (simp only [lnx]; omega)) only [stdh, stdx, ↓reduceIte, seval, x0, x1, t2, t5, encM], ?_⟩
    refine runD_V 60 ?_
    simp (disch := first | omega | (simp only [lnx]; omega)) only [stdh, stdx, ↓reduceIte, seval, x0, x1, t2, t5]
    refine callD_fn (of17_ok _ m sm _ ?_)
    refine ⟨by simp (disch := first | omega | (simp only [lnx]; omega)) only [stdh, stdx, ↓reduceIte, seval, x0, x1, t2, t5, encM], ?_⟩
    refine runD_V 60 ?_
    simp (disch := first | omega | (simp only [lnx]; omega)) only [stdh, stdx, ↓reduceIte, seval, x1, t5, t2]
    refine callD_fn (rsame_ok _ m m sm.fit2 _ ?_)
    rw [decide_eq_true rfl]
    refine ⟨by simp (disch := first | omega | (simp only [lnx]; omega)) only [stdh, stdx, ↓reduceIte, seval, x0, x1, t2, t5, encM], ?_⟩
    refine runD_V 60 ?_
    simp (disch := first | omega | (simp only [lnx]; omega)) only [stdh, stdx, ↓reduceIte, seval]
  simp only [List.mem_cons, List.not_mem_nil, or_false] at hs
  rcases hs with rfl | rfl | rfl | rfl | rfl | rfl | rfl | rfl | rfl | rfl | rfl | rfl
  · refine runD_V 60 ?_
    simp (disch := first | omega | (simp only [lnx]; omega)) only [stdh, stdx, ↓reduceIte, seval, cuneiformlaw17_MsgApart.d0, encM]
    refine callD_fn (copy_own _ m sm _ fun H1 pv cv k1 o1 p1 => ?_)
    have hl1 := k1.le
    simp only [List.length_cons, List.length_nil] at hl1
    have h10 : H1[0]? = some (ABlk.cells (encM m) T.msg_Msg) := k1.get rfl
    have h11 : H1[1]? = some (ABlk.cells (encM m) T.cuneiformref17_M) := k1.get rfl
    have h10' := h10
    simp only [encM] at h10'
    refine ⟨by simp (disch := first | omega | (simp only [lnx]; omega)) only [stdh, stdx, ↓reduceIte, seval, h10', encM], ?_⟩
    refine runD_V 60 ?_
    simp (disch := first | omega | (simp only [lnx]; omega)) only [stdh, stdx, ↓reduceIte, seval, h10', at_low, encM]
    refine callD_fn (project_own _ m v sm _ fun H2 m2 pv2 cv2 k2 o2 p2 => ?_)
    have hl2 := k2.le
    have h20 : H2[0]? = some (ABlk.cells (encM m) T.msg_Msg) := k2.get (h10)
    have h21 : H2[1]? = some (ABlk.cells (encM m) T.cuneiformref17_M) := k2.get (h11)
    have h20' := h20
    simp only [encM] at h20'
    refine ⟨by simp (disch := first | omega | (simp only [lnx]; omega)) only [stdh, stdx, ↓reduceIte, seval, h20', encM], ?_⟩
    refine runD_V 2 ?_
    simp (disch := first | omega | (simp only [lnx]; omega)) only [stdh, stdx, ↓reduceIte, seval, h20', at_low, encM]
    exact ap_stores rest (a := H2.length) (b := H2.length + 1) (m1 := m) (m2 := m2) ((at_low (by omega)).trans h20) ((at_low (by omega)).trans h21) (at_0) (at_k) (by omega) ((o1.keep k2).keep (keeps_append _ _)) ((p1.keep k2).keep (keeps_append _ _)) (o2.keep (keeps_append _ _)) (p2.keep (keeps_append _ _)) rfl rfl rfl rfl rfl rfl
  · refine runD_V 60 ?_
    simp (disch := first | omega | (simp only [lnx]; omega)) only [stdh, stdx, ↓reduceIte, seval, cuneiformlaw17_MsgApart.d0, encM]
    refine callD_fn (copy_own _ m sm _ fun H1 pv cv k1 o1 p1 => ?_)
    have hl1 := k1.le
    simp only [List.length_cons, List.length_nil] at hl1
    have h10 : H1[0]? = some (ABlk.cells (encM m) T.msg_Msg) := k1.get rfl
    have h11 : H1[1]? = some (ABlk.cells (encM m) T.cuneiformref17_M) := k1.get rfl
    have h10' := h10
    simp only [encM] at h10'
    refine ⟨by simp (disch := first | omega | (simp only [lnx]; omega)) only [stdh, stdx, ↓reduceIte, seval, h10', encM], ?_⟩
    refine runD_V 60 ?_
    simp (disch := first | omega | (simp only [lnx]; omega)) only [stdh, stdx, ↓reduceIte, seval, h10', at_low, encM]
    refine callD_fn (project_own _ m v sm _ fun H2 m2 pv2 cv2 k2 o2 p2 => ?_)
    have hl2 := k2.le
    have h20 : H2[0]? = some (ABlk.cells (encM m) T.msg_Msg) := k2.get (h10)
    have h21 : H2[1]? = some (ABlk.cells (encM m) T.cuneiformref17_M) := k2.get (h11)
    have h20' := h20
    simp only [encM] at h20'
    refine ⟨by simp (disch := first | omega | (simp only [lnx]; omega)) only [stdh, stdx, ↓reduceIte, seval, h20', encM], ?_⟩
    refine runD_V 2 ?_
    simp (disch := first | omega | (simp only [lnx]; omega)) only [stdh, stdx, ↓reduceIte, seval, h20', at_low, encM]
    exact ap_stores rest (a := H2.length + 1) (b := H2.length) (m1 := m) (m2 := m2) ((at_low (by omega)).trans h20) ((at_low (by omega)).trans h21) (at_k) (at_0) (by omega) ((o1.keep k2).keep (keeps_append _ _)) ((p1.keep k2).keep (keeps_append _ _)) (o2.keep (keeps_append _ _)) (p2.keep (keeps_append _ _)) rfl rfl rfl rfl rfl rfl
  · refine runD_V 60 ?_
    simp (disch := first | omega | (simp only [lnx]; omega)) only [stdh, stdx, ↓reduceIte, seval, cuneiformlaw17_MsgApart.d0, encM]
    refine callD_fn (copy_own _ m sm _ fun H1 pv cv k1 o1 p1 => ?_)
    have hl1 := k1.le
    simp only [List.length_cons, List.length_nil] at hl1
    have h10 : H1[0]? = some (ABlk.cells (encM m) T.msg_Msg) := k1.get rfl
    have h11 : H1[1]? = some (ABlk.cells (encM m) T.cuneiformref17_M) := k1.get rfl
    have h10' := h10
    simp only [encM] at h10'
    refine ⟨by simp (disch := first | omega | (simp only [lnx]; omega)) only [stdh, stdx, ↓reduceIte, seval, h10', encM], ?_⟩
    refine runD_V 60 ?_
    simp (disch := first | omega | (simp only [lnx]; omega)) only [stdh, stdx, ↓reduceIte, seval, h10', at_low, encM]
    refine callD_fn (project_own _ m v sm _ fun H2 m2 pv2 cv2 k2 o2 p2 => ?_)
    have hl2 := k2.le
    simp only [List.length_append, List.length_cons, List.length_nil] at hl2
    have h20 : H2[0]? = some (ABlk.cells (encM m) T.msg_Msg) := k2.get ((at_low (by omega)).trans h10)
    have h21 : H2[1]? = some (ABlk.cells (encM m) T.cuneiformref17_M) := k2.get ((at_low (by omega)).trans h11)
    have h20' := h20
    simp only [encM] at h20'
    refine ⟨by simp (disch := first | omega | (simp only [lnx]; omega)) only [stdh, stdx, ↓reduceIte, seval, h20', encM], ?_⟩
    refine runD_V 1 ?_
    simp (disch := first | omega | (simp only [lnx]; omega)) only [stdh, stdx, ↓reduceIte, seval, h20', at_low, encM]
    exact ap_stores rest (a := H1.length) (b := H2.length) (m1 := m) (m2 := m2) ((at_low (by omega)).trans h20) ((at_low (by omega)).trans h21) ((at_low (by omega)).trans (k2.get at_0)) (at_0) (by omega) ((o1.keep ((keeps_append _ _).trans k2)).keep (keeps_append _ _)) ((p1.keep ((keeps_append _ _).trans k2)).keep (keeps_append _ _)) (o2.keep (keeps_append _ _)) (p2.keep (keeps_append _ _)) rfl rfl rfl rfl rfl rfl
  · refine runD_V 60 ?_
    simp (disch := first | omega | (simp only [lnx]; omega)) only [stdh, stdx, ↓reduceIte, seval, cuneiformlaw17_MsgApart.d0, encM]
    refine callD_fn (copy_own _ m sm _ fun H1 pv cv k1 o1 p1 => ?_)
    have hl1 := k1.le
    simp only [List.length_cons, List.length_nil] at hl1
    have h10 : H1[0]? = some (ABlk.cells (encM m) T.msg_Msg) := k1.get rfl
    have h11 : H1[1]? = some (ABlk.cells (encM m) T.cuneiformref17_M) := k1.get rfl
    have h10' := h10
    simp only [encM] at h10'
    refine ⟨by simp (disch := first | omega | (simp only [lnx]; omega)) only [stdh, stdx, ↓reduceIte, seval, h10', encM], ?_⟩
    refine runD_V 60 ?_
    simp (disch := first | omega | (simp only [lnx]; omega)) only [stdh, stdx, ↓reduceIte, seval, h10', at_low, encM]
    refine callD_fn (project_own _ m v sm _ fun H2 m2 pv2 cv2 k2 o2 p2 => ?_)
    have hl2 := k2.le
    simp only [List.length_append, List.length_cons, List.length_nil] at hl2
    have h20 : H2[0]? = some (ABlk.cells (encM m) T.msg_Msg) := k2.get ((at_low (by omega)).trans h10)
    have h21 : H2[1]? = some (ABlk.cells (encM m) T.cuneiformref17_M) := k2.get ((at_low (by omega)).trans h11)
    have h20' := h20
    simp only [encM] at h20'
    refine ⟨by simp (disch := first | omega | (simp only [lnx]; omega)) only [stdh, stdx, ↓reduceIte, seval, h20', encM], ?_⟩
    exact ap_stores rest (a := H1.length) (b := H1.length + 1) (m1 := m) (m2 := m2) (h20) (h21) ((k2.get at_0)) ((k2.get at_k)) (by omega) (o1.keep ((keeps_append _ _).trans k2)) (p1.keep ((keeps_append _ _).trans k2)) o2 p2 rfl rfl rfl rfl rfl rfl
  · refine runD_V 60 ?_
    simp (disch := first | omega | (simp only [lnx]; omega)) only [stdh, stdx, ↓reduceIte, seval, cuneiformlaw17_MsgApart.d0, encM]
    refine callD_fn (copy_own _ m sm _ fun H1 pv cv k1 o1 p1 => ?_)
    have hl1 := k1.le
    simp only [List.length_cons, List.length_nil] at hl1
    have h10 : H1[0]? = some (ABlk.cells (encM m) T.msg_Msg) := k1.get rfl
    have h11 : H1[1]? = some (ABlk.cells (encM m) T.cuneiformref17_M) := k1.get rfl
    have h10' := h10
    simp only [encM] at h10'
    refine ⟨by simp (disch := first | omega | (simp only [lnx]; omega)) only [stdh, stdx, ↓reduceIte, seval, h10', encM], ?_⟩
    refine runD_V 60 ?_
    simp (disch := first | omega | (simp only [lnx]; omega)) only [stdh, stdx, ↓reduceIte, seval, h10', at_low, encM]
    refine callD_fn (project_own _ m v sm _ fun H2 m2 pv2 cv2 k2 o2 p2 => ?_)
    have hl2 := k2.le
    simp only [List.length_append, List.length_cons, List.length_nil] at hl2
    have h20 : H2[0]? = some (ABlk.cells (encM m) T.msg_Msg) := k2.get ((at_low (by omega)).trans h10)
    have h21 : H2[1]? = some (ABlk.cells (encM m) T.cuneiformref17_M) := k2.get ((at_low (by omega)).trans h11)
    have h20' := h20
    simp only [encM] at h20'
    refine ⟨by simp (disch := first | omega | (simp only [lnx]; omega)) only [stdh, stdx, ↓reduceIte, seval, h20', encM], ?_⟩
    refine runD_V 1 ?_
    simp (disch := first | omega | (simp only [lnx]; omega)) only [stdh, stdx, ↓reduceIte, seval, h20', at_low, encM]
    exact ap_stores rest (a := H2.length) (b := H1.length) (m1 := m) (m2 := m2) ((at_low (by omega)).trans h20) ((at_low (by omega)).trans h21) (at_0) ((at_low (by omega)).trans (k2.get at_0)) (by omega) ((o1.keep ((keeps_append _ _).trans k2)).keep (keeps_append _ _)) ((p1.keep ((keeps_append _ _).trans k2)).keep (keeps_append _ _)) (o2.keep (keeps_append _ _)) (p2.keep (keeps_append _ _)) rfl rfl rfl rfl rfl rfl
  · refine runD_V 60 ?_
    simp (disch := first | omega | (simp only [lnx]; omega)) only [stdh, stdx, ↓reduceIte, seval, cuneiformlaw17_MsgApart.d0, encM]
    refine callD_fn (copy_own _ m sm _ fun H1 pv cv k1 o1 p1 => ?_)
    have hl1 := k1.le
    simp only [List.length_cons, List.length_nil] at hl1
    have h10 : H1[0]? = some (ABlk.cells (encM m) T.msg_Msg) := k1.get rfl
    have h11 : H1[1]? = some (ABlk.cells (encM m) T.cuneiformref17_M) := k1.get rfl
    have h10' := h10
    simp only [encM] at h10'
    refine ⟨by simp (disch := first | omega | (simp only [lnx]; omega)) only [stdh, stdx, ↓reduceIte, seval, h10', encM], ?_⟩
    refine runD_V 60 ?_
    simp (disch := first | omega | (simp only [lnx]; omega)) only [stdh, stdx, ↓reduceIte, seval, h10', at_low, encM]
    refine callD_fn (project_own _ m v sm _ fun H2 m2 pv2 cv2 k2 o2 p2 => ?_)
    have hl2 := k2.le
    simp only [List.length_append, List.length_cons, List.length_nil] at hl2
    have h20 : H2[0]? = some (ABlk.cells (encM m) T.msg_Msg) := k2.get ((at_low (by omega)).trans h10)
    have h21 : H2[1]? = some (ABlk.cells (encM m) T.cuneiformref17_M) := k2.get ((at_low (by omega)).trans h11)
    have h20' := h20
    simp only [encM] at h20'
    refine ⟨by simp (disch := first | omega | (simp only [lnx]; omega)) only [stdh, stdx, ↓reduceIte, seval, h20', encM], ?_⟩
    exact ap_stores rest (a := H1.length + 1) (b := H1.length) (m1 := m) (m2 := m2) (h20) (h21) ((k2.get at_k)) ((k2.get at_0)) (by omega) (o1.keep ((keeps_append _ _).trans k2)) (p1.keep ((keeps_append _ _).trans k2)) o2 p2 rfl rfl rfl rfl rfl rfl
  · refine runD_V 60 ?_
    simp (disch := first | omega | (simp only [lnx]; omega)) only [stdh, stdx, ↓reduceIte, seval, cuneiformlaw17_MsgApart.d0, encM]
    refine callD_fn (copy_own _ m sm _ fun H1 pv cv k1 o1 p1 => ?_)
    have hl1 := k1.le
    simp only [List.length_cons, List.length_nil] at hl1
    have h10 : H1[0]? = some (ABlk.cells (encM m) T.msg_Msg) := k1.get rfl
    have h11 : H1[1]? = some (ABlk.cells (encM m) T.cuneiformref17_M) := k1.get rfl
    have h10' := h10
    simp only [encM] at h10'
    refine ⟨by simp (disch := first | omega | (simp only [lnx]; omega)) only [stdh, stdx, ↓reduceIte, seval, h10', encM], ?_⟩
    refine runD_V 60 ?_
    simp (disch := first | omega | (simp only [lnx]; omega)) only [stdh, stdx, ↓reduceIte, seval, h10', at_low, encM]
    refine callD_fn (project_own _ m v sm _ fun H2 m2 pv2 cv2 k2 o2 p2 => ?_)
    have hl2 := k2.le
    have h20 : H2[0]? = some (ABlk.cells (encM m) T.msg_Msg) := k2.get (h10)
    have h21 : H2[1]? = some (ABlk.cells (encM m) T.cuneiformref17_M) := k2.get (h11)
    have h20' := h20
    simp only [encM] at h20'
    refine ⟨by simp (disch := first | omega | (simp only [lnx]; omega)) only [stdh, stdx, ↓reduceIte, seval, h20', encM], ?_⟩
    refine runD_V 1 ?_
    simp (disch := first | omega | (simp only [lnx]; omega)) only [stdh, stdx, ↓reduceIte, seval, h20', at_low, encM]
    exact ap_stores rest (a := 4) (b := H2.length) (m1 := m) (m2 := m2) ((at_low (by omega)).trans h20) ((at_low (by omega)).trans h21) ((at_low (by omega)).trans (k2.get ((k1.get rfl)))) (at_0) (by omega) ((o1.keep k2).keep (keeps_append _ _)) ((p1.keep k2).keep (keeps_append _ _)) (o2.keep (keeps_append _ _)) (p2.keep (keeps_append _ _)) rfl rfl rfl rfl rfl rfl
  · refine runD_V 60 ?_
    simp (disch := first | omega | (simp only [lnx]; omega)) only [stdh, stdx, ↓reduceIte, seval, cuneiformlaw17_MsgApart.d0, encM]
    refine callD_fn (copy_own _ m sm _ fun H1 pv cv k1 o1 p1 => ?_)
    have hl1 := k1.le
    simp only [List.length_cons, List.length_nil] at hl1
    have h10 : H1[0]? = some (ABlk.cells (encM m) T.msg_Msg) := k1.get rfl
    have h11 : H1[1]? = some (ABlk.cells (encM m) T.cuneiformref17_M) := k1.get rfl
    have h10' := h10
    simp only [encM] at h10'
    refine ⟨by simp (disch := first | omega | (simp only [lnx]; omega)) only [stdh, stdx, ↓reduceIte, seval, h10', encM], ?_⟩
    refine runD_V 60 ?_
    simp (disch := first | omega | (simp only [lnx]; omega)) only [stdh, stdx, ↓reduceIte, seval, h10', at_low, encM]
    refine callD_fn (project_own _ m v sm _ fun H2 m2 pv2 cv2 k2 o2 p2 => ?_)
    have hl2 := k2.le
    simp only [List.length_append, List.length_cons, List.length_nil] at hl2
    have h20 : H2[0]? = some (ABlk.cells (encM m) T.msg_Msg) := k2.get ((at_low (by omega)).trans h10)
    have h21 : H2[1]? = some (ABlk.cells (encM m) T.cuneiformref17_M) := k2.get ((at_low (by omega)).trans h11)
    have h20' := h20
    simp only [encM] at h20'
    refine ⟨by simp (disch := first | omega | (simp only [lnx]; omega)) only [stdh, stdx, ↓reduceIte, seval, h20', encM], ?_⟩
    exact ap_stores rest (a := 4) (b := H1.length) (m1 := m) (m2 := m2) (h20) (h21) ((k2.get ((at_low (by omega)).trans (k1.get rfl)))) ((k2.get at_0)) (by omega) (o1.keep ((keeps_append _ _).trans k2)) (p1.keep ((keeps_append _ _).trans k2)) o2 p2 rfl rfl rfl rfl rfl rfl
  · refine runD_V 60 ?_
    simp (disch := first | omega | (simp only [lnx]; omega)) only [stdh, stdx, ↓reduceIte, seval, cuneiformlaw17_MsgApart.d0, encM]
    refine callD_fn (copy_own _ m sm _ fun H1 pv cv k1 o1 p1 => ?_)
    have hl1 := k1.le
    simp only [List.length_cons, List.length_nil] at hl1
    have h10 : H1[0]? = some (ABlk.cells (encM m) T.msg_Msg) := k1.get rfl
    have h11 : H1[1]? = some (ABlk.cells (encM m) T.cuneiformref17_M) := k1.get rfl
    have h10' := h10
    simp only [encM] at h10'
    refine ⟨by simp (disch := first | omega | (simp only [lnx]; omega)) only [stdh, stdx, ↓reduceIte, seval, h10', encM], ?_⟩
    refine runD_V 60 ?_
    simp (disch := first | omega | (simp only [lnx]; omega)) only [stdh, stdx, ↓reduceIte, seval, h10', at_low, encM]
    refine callD_fn (project_own _ m v sm _ fun H2 m2 pv2 cv2 k2 o2 p2 => ?_)
    have hl2 := k2.le
    have h20 : H2[0]? = some (ABlk.cells (encM m) T.msg_Msg) := k2.get (h10)
    have h21 : H2[1]? = some (ABlk.cells (encM m) T.cuneiformref17_M) := k2.get (h11)
    have h20' := h20
    simp only [encM] at h20'
    refine ⟨by simp (disch := first | omega | (simp only [lnx]; omega)) only [stdh, stdx, ↓reduceIte, seval, h20', encM], ?_⟩
    exact ap_stores rest (a := 4) (b := 5) (m1 := m) (m2 := m2) (h20) (h21) ((k2.get ((k1.get rfl)))) ((k2.get ((k1.get rfl)))) (by omega) (o1.keep k2) (p1.keep k2) o2 p2 rfl rfl rfl rfl rfl rfl
  · refine runD_V 60 ?_
    simp (disch := first | omega | (simp only [lnx]; omega)) only [stdh, stdx, ↓reduceIte, seval, cuneiformlaw17_MsgApart.d0, encM]
    refine callD_fn (copy_own _ m sm _ fun H1 pv cv k1 o1 p1 => ?_)
    have hl1 := k1.le
    simp only [List.length_cons, List.length_nil] at hl1
    have h10 : H1[0]? = some (ABlk.cells (encM m) T.msg_Msg) := k1.get rfl
    have h11 : H1[1]? = some (ABlk.cells (encM m) T.cuneiformref17_M) := k1.get rfl
    have h10' := h10
    simp only [encM] at h10'
    refine ⟨by simp (disch := first | omega | (simp only [lnx]; omega)) only [stdh, stdx, ↓reduceIte, seval, h10', encM], ?_⟩
    refine runD_V 60 ?_
    simp (disch := first | omega | (simp only [lnx]; omega)) only [stdh, stdx, ↓reduceIte, seval, h10', at_low, encM]
    refine callD_fn (project_own _ m v sm _ fun H2 m2 pv2 cv2 k2 o2 p2 => ?_)
    have hl2 := k2.le
    have h20 : H2[0]? = some (ABlk.cells (encM m) T.msg_Msg) := k2.get (h10)
    have h21 : H2[1]? = some (ABlk.cells (encM m) T.cuneiformref17_M) := k2.get (h11)
    have h20' := h20
    simp only [encM] at h20'
    refine ⟨by simp (disch := first | omega | (simp only [lnx]; omega)) only [stdh, stdx, ↓reduceIte, seval, h20', encM], ?_⟩
    refine runD_V 1 ?_
    simp (disch := first | omega | (simp only [lnx]; omega)) only [stdh, stdx, ↓reduceIte, seval, h20', at_low, encM]
    exact ap_stores rest (a := H2.length) (b := 4) (m1 := m) (m2 := m2) ((at_low (by omega)).trans h20) ((at_low (by omega)).trans h21) (at_0) ((at_low (by omega)).trans (k2.get ((k1.get rfl)))) (by omega) ((o1.keep k2).keep (keeps_append _ _)) ((p1.keep k2).keep (keeps_append _ _)) (o2.keep (keeps_append _ _)) (p2.keep (keeps_append _ _)) rfl rfl rfl rfl rfl rfl
  · refine runD_V 60 ?_
    simp (disch := first | omega | (simp only [lnx]; omega)) only [stdh, stdx, ↓reduceIte, seval, cuneiformlaw17_MsgApart.d0, encM]
    refine callD_fn (copy_own _ m sm _ fun H1 pv cv k1 o1 p1 => ?_)
    have hl1 := k1.le
    simp only [List.length_cons, List.length_nil] at hl1
    have h10 : H1[0]? = some (ABlk.cells (encM m) T.msg_Msg) := k1.get rfl
    have h11 : H1[1]? = some (ABlk.cells (encM m) T.cuneiformref17_M) := k1.get rfl
    have h10' := h10
    simp only [encM] at h10'
    refine ⟨by simp (disch := first | omega | (simp only [lnx]; omega)) only [stdh, stdx, ↓reduceIte, seval, h10', encM], ?_⟩
    refine runD_V 60 ?_
    simp (disch := first | omega | (simp only [lnx]; omega)) only [stdh, stdx, ↓reduceIte, seval, h10', at_low, encM]
    refine callD_fn (project_own _ m v sm _ fun H2 m2 pv2 cv2 k2 o2 p2 => ?_)
    have hl2 := k2.le
    simp only [List.length_append, List.length_cons, List.length_nil] at hl2
    have h20 : H2[0]? = some (ABlk.cells (encM m) T.msg_Msg) := k2.get ((at_low (by omega)).trans h10)
    have h21 : H2[1]? = some (ABlk.cells (encM m) T.cuneiformref17_M) := k2.get ((at_low (by omega)).trans h11)
    have h20' := h20
    simp only [encM] at h20'
    refine ⟨by simp (disch := first | omega | (simp only [lnx]; omega)) only [stdh, stdx, ↓reduceIte, seval, h20', encM], ?_⟩
    exact ap_stores rest (a := H1.length) (b := 4) (m1 := m) (m2 := m2) (h20) (h21) ((k2.get at_0)) ((k2.get ((at_low (by omega)).trans (k1.get rfl)))) (by omega) (o1.keep ((keeps_append _ _).trans k2)) (p1.keep ((keeps_append _ _).trans k2)) o2 p2 rfl rfl rfl rfl rfl rfl
  · refine runD_V 60 ?_
    simp (disch := first | omega | (simp only [lnx]; omega)) only [stdh, stdx, ↓reduceIte, seval, cuneiformlaw17_MsgApart.d0, encM]
    refine callD_fn (copy_own _ m sm _ fun H1 pv cv k1 o1 p1 => ?_)
    have hl1 := k1.le
    simp only [List.length_cons, List.length_nil] at hl1
    have h10 : H1[0]? = some (ABlk.cells (encM m) T.msg_Msg) := k1.get rfl
    have h11 : H1[1]? = some (ABlk.cells (encM m) T.cuneiformref17_M) := k1.get rfl
    have h10' := h10
    simp only [encM] at h10'
    refine ⟨by simp (disch := first | omega | (simp only [lnx]; omega)) only [stdh, stdx, ↓reduceIte, seval, h10', encM], ?_⟩
    refine runD_V 60 ?_
    simp (disch := first | omega | (simp only [lnx]; omega)) only [stdh, stdx, ↓reduceIte, seval, h10', at_low, encM]
    refine callD_fn (project_own _ m v sm _ fun H2 m2 pv2 cv2 k2 o2 p2 => ?_)
    have hl2 := k2.le
    have h20 : H2[0]? = some (ABlk.cells (encM m) T.msg_Msg) := k2.get (h10)
    have h21 : H2[1]? = some (ABlk.cells (encM m) T.cuneiformref17_M) := k2.get (h11)
    have h20' := h20
    simp only [encM] at h20'
    refine ⟨by simp (disch := first | omega | (simp only [lnx]; omega)) only [stdh, stdx, ↓reduceIte, seval, h20', encM], ?_⟩
    exact ap_stores rest (a := 5) (b := 4) (m1 := m) (m2 := m2) (h20) (h21) ((k2.get ((k1.get rfl)))) ((k2.get ((k1.get rfl)))) (by omega) (o1.keep k2) (p1.keep k2) o2 p2 rfl rfl rfl rfl rfl rfl
end Go.Proofs.Ytlkadcahjifolaa

namespace Go.Proofs.Ytlkadcahjifolaa.msgApart
open Go Go.Am Go.ChangeShapes Go.WideShapes Go.ChangeAt Go.RowKit
set_option linter.unusedVariables false

theorem own : ownKnob Try.prog.godebug = none := by kernel_rfl
theorem laidOut : laidOutB Try.prog = true := by kernel_rfl

set_option maxRecDepth 100000 in
theorem lifted (os : Os) (started : os.Started) (H : Type) (enc : TypeId × Value → H) :
    ReturnsInHanded {} Try.checked os F.cuneiformlaw17_MsgApart .any (Rows.msgApartSpec.pre6 enc Try.prog Try.f3 Rows.msgApartRow.domain false) (Rows.msgApartSpec.post enc Try.prog Try.f3 false true false false) := by
  refine returnsInHanded_of_change (C := Try.checked) own started (by kernel_rfl) Try.func3
    (ChangeSpec.witness6 (enc := enc) (C := Try.checked) false ⟨#[], #[.agg #[.int .i64 0, .int .i64 0, .int .i64 0, .int .i64 0, .int .i64 0, .int .i64 0, .int .i64 0, .slice none 0 0, .slice none 0 0, .string ⟨#[]⟩, .string ⟨#[]⟩], .int .i64 1], []⟩ 8 (by kernel_rfl) (by kernel_rfl) (by kernel_rfl) (by kernel_rfl)) ?_
  intro W base args ds gs before hval hW hcnd _
  refine law_calls (shs := [shMsg, .int .i64]) (tb := 4) laidOut (by kernel_rfl) ?_ (by kernel_rfl) Try.underlying4 rfl ?_ ?_ hval hW
  · intro t ht
    have : ∀ t ∈ Try.f3.params.toList, (Try.prog.readableRec t && decide (t < Try.prog.types.size)) = true := List.all_eq_true.1 (by kernel_rfl)
    simpa using this t ht
  · intro H ds hd
    match ds, hd with
    | [d0, d1], _ => exact ⟨rfl, rfl, rfl⟩
  · rintro xs ⟨a, r, rfl, ha, b, r2, rfl, ⟨v, hv, _⟩, rfl⟩
    cases hv
    obtain ⟨x, x1, x2, _⟩ := msg_fits2 ha
    exact fun_sees (.cons x1 (.cons (.refl _) .nil)) (msgapart_ok ⟨x2.p, x2.c, x2.t, x2.g⟩ v)

theorem proved : Rows.MsgApartSaid :=
  OpenClaim.holds_of_wide F.cuneiformlaw17_MsgApart Try.f3 rfl rfl rfl rfl rfl rfl rfl ⟨rfl, rfl, rfl, rfl, rfl⟩ rfl rfl rfl rfl rfl (by kernel_rfl) Try.func3 (by kernel_rfl)
    (of_decide_eq_true (by kernel_rfl)) (by unfold Func.isWrapper; first | (rw [if_pos (by decide +kernel)]; kernel_rfl) | (rw [if_neg (by decide +kernel)]; exact ⟨rfl, rfl⟩))
    (fun os started H enc _ => lifted os started H enc)
end Go.Proofs.Ytlkadcahjifolaa.msgApart
