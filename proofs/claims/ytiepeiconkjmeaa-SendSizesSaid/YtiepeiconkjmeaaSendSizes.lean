/-
  A message of a body of n bytes has as many frames as the setting tells, of at most MTU bytes each, and as many bytes on the wire, for every setting and message (40 points and cells, 80 bytes). By an AI agent. No person has read it.
-/
import Derived.Test.YtiepeiconkjmeaaSENDD
import Derived.Test.YtiepeiconkjmeaaAm6
import Derived.OpenShut
import Derived.Test.YtiepeiconkjmeaaRows
set_option linter.unusedSimpArgs false
set_option linter.unusedVariables false

namespace Go.Proofs.Ytiepeiconkjmeaa
open Go Go.Am
set_option maxRecDepth 10000 in
set_option maxHeartbeats 4000000 in
/-- A message is sent as frames. -/
theorem sframes_ok (H : AHeap) {q cod : Nat} {v mtu st nx : Int} {sent : Nat} (hq : H[q]? = some (sndV v mtu st nx cod sent)) (hsent : sent ≤ 1000000) {m : Mg} (hm : m.fine) (hc : cfE v mtu = 0) (hb : bcheckE m v = 0) (Q : AVal → AHeap → Prop)
  (h : Q (.tup [recs encFr false (framesOf ⟨v, m.k, nx, 0, 0⟩ (encB m v) (mtu - 15)), .int .i64 0]) ((H ++ [ABlk.cells (encM m) T.msg_Msg]).set q (sndV v mtu st (IntKind.u32.wrap (nx + 1)) cod ((sent : Int) + 1)))) : FunOK Try.prog F.send_Sender_Frames [.ptr q 0, .agg (encM m)] H Q := by
 have hfe := frame_fine (nx := nx) hm hc hb
 have hl := encB_192 hm v
 obtain ⟨_, b1, b2⟩ := cfE_zero hc
 refine fun_V 60 send_Sender_Frames_code rfl ?_
 have hlt : q < H.length := (List.getElem?_eq_some_iff.1 hq).1
 have hq' : ∀ L, (H ++ L)[q]? = some (.cells [.int .i64 v, .int .i64 mtu, .int .u32 st, .ptr cod 0, .int .u32 nx, .int .i64 sent] T.send_Sender) := fun L => (at_low hlt).trans hq
 simp (disch := first | omega | (simp only [lnx]; omega)) only [stdh, stdx, ↓reduceIte, seval, send_Sender_Frames, send_Sender_Frames.body, send_Sender_Frames.d0, encM, eqA, hq']
 refine callD_fn (encode_ok _ m v hm _ ?_)
 refine ⟨by simp (disch := first | omega | (simp only [lnx]; omega)) only [stdh, stdx, ↓reduceIte, seval], ?_⟩
 rw [hb]
 refine runD_V 60 ?_
 simp (disch := first | omega | (simp only [lnx]; omega)) only [stdh, stdx, ↓reduceIte, seval, send_Sender_Frames.d1, hq']
 refine callD_fn (croom_ok _ st hc _ ?_)
 refine ⟨by simp (disch := first | omega | (simp only [lnx]; omega)) only [stdh, stdx, ↓reduceIte, seval, hq'], ?_⟩
 refine runD_V 60 ?_
 simp (disch := first | omega | (simp only [lnx]; omega)) only [stdh, stdx, ↓reduceIte, seval, hq']
 refine callD_fn (frames_ok _ ⟨v, m.k, nx, 0, 0⟩ (by omega) (by omega) _ ?_)
 refine ⟨by simp (disch := first | omega | (simp only [lnx]; omega)) only [stdh, stdx, ↓reduceIte, seval, hq'], ?_⟩
 rw [hfe]
 refine runD_V 60 ?_
 simp (disch := first | omega | (simp only [lnx]; omega)) only [stdh, stdx, ↓reduceIte, seval, hq']
 refine callK_fn (sadd_ok _ _ ?_)
 refine runL_V 60 ?_
 simp (disch := first | omega | (simp only [lnx]; omega)) only [stdh, stdx, ↓reduceIte, seval, hq', List.getElem?_set_self]
 rw [List.set_set]
 exact h
theorem sframes_bad (H : AHeap) {q cod : Nat} {v mtu st nx sent : Int} (hq : H[q]? = some (sndV v mtu st nx cod sent)) {m : Mg} (hm : m.fine) (hb : bcheckE m v ≠ 0) (Q : AVal → AHeap → Prop) (h : Q (.tup [.nils, .int .i64 (bcheckE m v)]) H) : FunOK Try.prog F.send_Sender_Frames [.ptr q 0, .agg (encM m)] H Q := by
 refine fun_iced send_Sender_Frames_code fun _ => ?_
 refine fun_V 60 send_Sender_Frames_code rfl ?_
 have hlt : q < H.length := (List.getElem?_eq_some_iff.1 hq).1
 have hq' : ∀ L, (H ++ L)[q]? = some (.cells [.int .i64 v, .int .i64 mtu, .int .u32 st, .ptr cod 0, .int .u32 nx, .int .i64 sent] T.send_Sender) := fun L => (at_low hlt).trans hq
 simp (disch := first | omega | (simp only [lnx]; omega)) only [stdh, stdx, ↓reduceIte, seval, send_Sender_Frames, send_Sender_Frames.body, send_Sender_Frames.d0, encM, eqA, hq']
 refine callD_fn (encode_ok _ m v hm _ ?_)
 refine ⟨by simp (disch := first | omega | (simp only [lnx]; omega)) only [stdh, stdx, ↓reduceIte, seval], ?_⟩
 refine runD_V 60 ?_
 simp (disch := first | omega | (simp only [lnx]; omega)) only [stdh, stdx, ↓reduceIte, seval, hb]
 exact ice_none ⟨trivial, trivial, trivial⟩ h
theorem ssent_ok (H : AHeap) {q cod : Nat} {v mtu st nx sent : Int} (hq : H[q]? = some (sndV v mtu st nx cod sent)) (Q : AVal → AHeap → Prop) (h : Q (.int .i64 sent) H) : FunOK Try.prog F.send_Sender_Sent [.ptr q 0] H Q := by
 refine fun_V 60 send_Sender_Sent_code rfl ?_
 have hq' : H[q]? = some (.cells [.int .i64 v, .int .i64 mtu, .int .u32 st, .ptr cod 0, .int .u32 nx, .int .i64 sent] T.send_Sender) := hq
 simp (disch := first | omega | (simp only [lnx]; omega)) only [stdh, stdx, ↓reduceIte, seval, send_Sender_Sent, send_Sender_Sent.body, eqA, hq']
 exact h
theorem snext_ok (H : AHeap) {q cod : Nat} {v mtu st nx sent : Int} (hq : H[q]? = some (sndV v mtu st nx cod sent)) (Q : AVal → AHeap → Prop) (h : Q (.int .u32 nx) H) : FunOK Try.prog F.send_Sender_Next [.ptr q 0] H Q := by
 refine fun_V 60 send_Sender_Next_code rfl ?_
 have hq' : H[q]? = some (.cells [.int .i64 v, .int .i64 mtu, .int .u32 st, .ptr cod 0, .int .u32 nx, .int .i64 sent] T.send_Sender) := hq
 simp (disch := first | omega | (simp only [lnx]; omega)) only [stdh, stdx, ↓reduceIte, seval, send_Sender_Next, send_Sender_Next.body, eqA, hq']
 exact h
abbrev szC : Ctx := ⟨F.cuneiformlaw22_SendSizes, 149, [.tmp 4], none⟩
set_option maxRecDepth 10000 in
set_option maxHeartbeats 4000000 in
theorem sz_loop (K : List AItem) {H : AHeap} (Q : AVal → AHeap → Prop) {v mtu st : Int} (e0 : H[0]? = some (.cells [.int .i64 v, .int .i64 mtu, .int .u32 st] T.conf_Sender)) {h : Hd} (hs : h.s = st) {ys : List Nat} {r k : Nat} (hr : 0 < r ∧ r ≤ 242) (hmr : mtu - 15 = (r : Int)) (hn : ys.length ≤ 192) (hk : k = cntP ys.length r)
  (hK : ∀ rr, rget rr 2 = .ptr 0 0 → rget rr 7 = .int .i64 (ys.length : Nat) → rget rr 8 = recs encFr false (framesN h ys r k) → rget rr 10 = .int .i64 ((ys.length + 15 * k : Nat) : Int) → Run Try.prog szC K rr H Q) :
  ∀ (z j : Nat), k - j = z → j ≤ k → Rounds Try.prog szC cuneiformlaw22_SendSizes.b2 [.inBlock 0] K [(2, .ptr 0 0), (7, .int .i64 (ys.length : Nat)), (8, recs encFr false (framesN h ys r k)), (10, .int .i64 ((ys.length - (ys.length - j * r) + 15 * j : Nat) : Int)), (11, .int .i64 (j : Nat))] H Q
 | z, j, h1, h2 => by
  refine loop_V 100 cuneiformlaw22_SendSizes.b2.eq_1 ?_
  have hkl : k ≤ ys.length := by rw [hk]; exact cntP_le hr.1
  have hfl : (framesN h ys r k).length = k := framesN_len
  by_cases hj : j < k
  ·have hlt : j * r < ys.length := (cntP_lt hr.1).1 (hk ▸ hj)
   have hjs : (j + 1) * r = j * r + r := by rw [Nat.add_mul, Nat.one_mul]
   have hgd : (framesN h ys r k).getD j default = frAt h ys r j := by simp [framesN, List.getD_eq_getElem?_getD, hj]
   have hld : ∀ o, o < 6 → loadA H none (.sptr (recs encFr false (framesN h ys r k)) (j * 6 + o)) = some (True, (encFr (frAt h ys r j)).getD o .junk) := fun o ho => by
    rw [← hgd]; exact load_rec1 (enc := encFr) (t := false) encFr_len (by omega) ho
   have l5 := hld 5 (by omega)
   have l2 := hld 2 (by omega)
   have l3 := hld 3 (by omega)
   have l4 := hld 4 (by omega)
   simp only [encFr, frAt, hdAt, List.getD_cons_succ, List.getD_cons_zero] at l5 l2 l3 l4
   rw [hs] at l2
   rw [← hk] at l4
   have hpl : (partP r ys j).length = min r (ys.length - j * r) := partP_len
   simp (disch := first | omega | (simp only [lnx]; omega)) only [stdh, stdx, ↓reduceIte, seval, l5, hfl]
   refine callK_fn (wire_ok _ (by rw [hpl]; omega) _ ?_)
   rw [hpl]
   refine runL_V 120 ?_
   have hss : decide (st = st) = true := decide_eq_true rfl
   have hjj : decide ((j : Int) = (j : Int)) = true := decide_eq_true rfl
   have hkk : decide ((k : Int) = (k : Int)) = true := decide_eq_true rfl
   have hw1 : decide (((min r (ys.length - j * r) : Nat) : Int) + 15 < 16) = false := decide_eq_false (by omega)
   have hw2 : decide (mtu < ((min r (ys.length - j * r) : Nat) : Int) + 15) = false := decide_eq_false (by omega)
   simp (disch := first | omega | (simp only [lnx]; omega)) only [stdh, stdx, ↓reduceIte, seval, cuneiformlaw22_SendSizes.d1, e0, l2, l3, l4, hss, hjj, hkk, hw1, hw2, hfl]
   have e2 : ((ys.length - (ys.length - j * r) + 15 * j : Nat) : Int) + (((min r (ys.length - j * r) : Nat) : Int) + 15) = ((ys.length - (ys.length - (j + 1) * r) + 15 * (j + 1) : Nat) : Int) := by rw [hjs]; generalize j * r = t at *; omega
   rw [e2, show (j : Int) + 1 = ((j + 1 : Nat) : Int) by omega]
   exact sz_loop K Q e0 hs hr hmr hn hk hK _ (j + 1) rfl (by omega)
  ·simp (disch := first | omega | (simp only [lnx]; omega)) only [stdh, stdx, ↓reduceIte, seval, hfl]
   have hz : ys.length - j * r = 0 := by
    have := cntP_ge (n := ys.length) hr.1
    have e : j = cntP ys.length r := by omega
    rw [e]; omega
   refine hK _ rfl rfl rfl ?_
   rw [hz, show j = k by omega]
   rfl
 termination_by z => z
set_option maxRecDepth 10000 in
set_option maxHeartbeats 8000000 in
theorem sendsizes_ok (v mtu st : Int) {a : Mg} (ha : a.fine) : FunOK Try.prog F.cuneiformlaw22_SendSizes [.agg (cfV v mtu st), .agg (encM a)] [] fun av _ => av = .bool true := by
 refine fun_V 60 cuneiformlaw22_SendSizes_code rfl ?_
 simp (disch := first | omega | (simp only [lnx]; omega)) only [stdh, stdx, ↓reduceIte, seval, cuneiformlaw22_SendSizes, cuneiformlaw22_SendSizes.body, encM, cfV]
 refine callK_fn (cut17_ok _ a ha _ ?_)
 have sm := cutM_small a
 have fm := (cutM_fine2 a).fine
 generalize cutM a = m at *
 refine runL_V 60 ?_
 simp (disch := first | omega | (simp only [lnx]; omega)) only [stdh, stdx, ↓reduceIte, seval, encM]
 by_cases hc : cfE v mtu = 0
 case neg =>
  have hd : decide ((cfE v mtu : Int) = 0) = false := decide_eq_false (by omega)
  refine callK_fn (snew_bad _ st hc _ ?_)
  refine runL_V 60 ?_
  simp (disch := first | omega | (simp only [lnx]; omega)) only [stdh, stdx, ↓reduceIte, seval, hd]
  refine callK_fn (known22_ok _ _ ?_)
  refine runL_V 60 ?_
  simp (disch := first | omega | (simp only [lnx]; omega)) only [stdh, stdx, ↓reduceIte, seval]
  refine callK_fn (conf_ok _ v mtu st _ ?_)
  refine runL_V 60 ?_
  simp (disch := first | omega | (simp only [lnx]; omega)) only [stdh, stdx, ↓reduceIte, seval, hd]
 obtain ⟨b0, b1, b2⟩ := cfE_zero hc
 obtain ⟨r, hr⟩ : ∃ r : Nat, mtu - 15 = (r : Int) := ⟨(mtu - 15).toNat, by omega⟩
 refine callK_fn (snew_ok _ st hc _ ?_)
 refine runL_V 60 ?_
 simp (disch := first | omega | (simp only [lnx]; omega)) only [stdh, stdx, ↓reduceIte, seval, cfV, eqA, sndV]
 refine callK_fn (bsize_ok _ m v fm _ ?_)
 refine runL_V 60 ?_
 simp (disch := first | omega | (simp only [lnx]; omega)) only [stdh, stdx, ↓reduceIte, seval]
 by_cases hb : bcheckE m v = 0
 case neg =>
  have he : encB m v = [] := by rw [encB, partFields, if_neg hb]; rfl
  refine callK_fn (sframes_bad _ (v := v) (mtu := mtu) (st := st) (nx := st) (cod := 3) (sent := 0) rfl fm hb _ ?_)
  refine runL_V 60 ?_
  rw [he]
  simp (disch := first | omega | (simp only [lnx]; omega)) only [stdh, stdx, ↓reduceIte, seval, hb, cuneiformlaw22_SendSizes.d0]
  refine callD_fn (known22_ok _ _ ?_)
  refine ⟨by simp (disch := first | omega | (simp only [lnx]; omega)) only [stdh, stdx, ↓reduceIte, seval], ?_⟩
  refine runD_V 60 ?_
  simp (disch := first | omega | (simp only [lnx]; omega)) only [stdh, stdx, ↓reduceIte, seval]
  refine callD_fn (ssent_ok _ (v := v) (mtu := mtu) (st := st) (nx := st) (cod := 3) (sent := 0) rfl _ ?_)
  refine ⟨by simp (disch := first | omega | (simp only [lnx]; omega)) only [stdh, stdx, ↓reduceIte, seval], ?_⟩
  refine runD_V 60 ?_
  simp (disch := first | omega | (simp only [lnx]; omega)) only [stdh, stdx, ↓reduceIte, seval]
  refine callD_fn (snext_ok _ (v := v) (mtu := mtu) (st := st) (nx := st) (cod := 3) (sent := 0) rfl _ ?_)
  refine ⟨by simp (disch := first | omega | (simp only [lnx]; omega)) only [stdh, stdx, ↓reduceIte, seval], ?_⟩
  refine runD_V 60 ?_
  have hss : decide (st = st) = true := decide_eq_true rfl
  simp (disch := first | omega | (simp only [lnx]; omega)) only [stdh, stdx, ↓reduceIte, seval, hss]
 refine callK_fn (sframes_ok _ (v := v) (mtu := mtu) (st := st) (nx := st) (cod := 3) (sent := 0) rfl (by omega) fm hc hb _ ?_)
 refine runL_V 60 ?_
 have hl := encB_192 fm v
 have hne := encB_ne (bcheck_zero hb).2 b0
 have hlp : 1 ≤ (encB m v).length := Nat.pos_of_ne_zero fun h => hne (List.length_eq_zero_iff.1 h)
 have hfr : framesOf ⟨v, m.k, st, 0, 0⟩ (encB m v) (mtu - 15) = framesN ⟨v, m.k, st, 0, 0⟩ (encB m v) r (cntP (encB m v).length r) := by
  rw [framesOf, if_pos (frame_fine fm hc hb), hr]; rfl
 rw [hfr]
 have hcf := fun H Q h => cframes_ok H st hc (n := (encB m v).length) ⟨hlp, hl⟩ Q h
 have hcb := fun H Q h => cbytes_ok H st hc (n := (encB m v).length) ⟨hlp, hl⟩ Q h
 rw [hr] at hcf hcb
 simp only [Int.toNat_natCast] at hcf hcb
 have hq : ((((encB m v).length : Nat) : Int) + (r : Int) - 1).tdiv (r : Int) = ((cntP (encB m v).length r : Nat) : Int) := by
  rw [show (((encB m v).length : Nat) : Int) + (r : Int) - 1 = (((encB m v).length - 1 + r : Nat) : Int) by omega, Int.tdiv_eq_ediv_of_nonneg (by omega), cntP, if_neg (by omega)]
  have : ((encB m v).length - 1 + r) / r = ((encB m v).length - 1) / r + 1 := Nat.add_div_right _ (by omega)
  rw [← this]; rfl
 have hk1 := cntP_pos (n := (encB m v).length) (r := r) (by omega)
 have hk2 := cntP_le (n := (encB m v).length) (r := r) (by omega)
 simp (disch := first | omega | (simp only [lnx]; omega)) only [stdh, stdx, ↓reduceIte, seval]
 rw [show ((10 : Nat), AVal.int .i64 0) = (10, AVal.int .i64 (((encB m v).length - ((encB m v).length - 0 * r) + 15 * 0 : Nat) : Int)) by simp]
 refine sz_loop _ _ (v := v) (mtu := mtu) (st := st) (ys := encB m v) (r := r) (k := cntP (encB m v).length r) (h := ⟨v, m.k, st, 0, 0⟩) ?_ rfl (by omega) hr hl rfl ?_ _ 0 rfl (Nat.zero_le _)
 ·rfl
 intro rr r2 r7 r8 r10
 refine run_V0 60 ?_
 simp (disch := first | omega | (simp only [lnx]; omega)) only [stdh, stdx, ↓reduceIte, seval, r2, r7, r8, r10]
 refine callK_fn (known22_ok _ _ ?_)
 refine runL_V 60 ?_
 rw [hr]
 have hfl : (framesN ⟨v, m.k, st, 0, 0⟩ (encB m v) r (cntP (encB m v).length r)).length = cntP (encB m v).length r := framesN_len
 have hmx : (if (1 : Int) < ((cntP (encB m v).length r : Nat) : Int) then ((cntP (encB m v).length r : Nat) : Int) else 1) = ((cntP (encB m v).length r : Nat) : Int) := by split <;> omega
 have hkk : decide (((cntP (encB m v).length r : Nat) : Int) = ((cntP (encB m v).length r : Nat) : Int)) = true := decide_eq_true rfl
 simp (disch := first | omega | (simp only [lnx]; omega)) only [stdh, stdx, ↓reduceIte, seval, r2, r7, r8, r10, hq, hfl, hmx, hkk]
 refine callK_fn (hcf _ _ ?_)
 refine runL_V 60 ?_
 simp (disch := first | omega | (simp only [lnx]; omega)) only [stdh, stdx, ↓reduceIte, seval, hkk]
 refine callK_fn (hcb _ _ ?_)
 refine runL_V 60 ?_
 have hbb : decide ((((encB m v).length + 15 * cntP (encB m v).length r : Nat) : Int) = (((encB m v).length + 15 * cntP (encB m v).length r : Nat) : Int)) = true := decide_eq_true rfl
 simp (disch := first | omega | (simp only [lnx]; omega)) only [stdh, stdx, ↓reduceIte, seval, hbb]
end Go.Proofs.Ytiepeiconkjmeaa

namespace Go.Proofs.Ytiepeiconkjmeaa.sendSizes
open Go Go.Am Go.ChangeShapes Go.WideShapes Go.ChangeAt Go.RowKit
set_option linter.unusedVariables false

theorem own : ownKnob Try.prog.godebug = none := by kernel_rfl
theorem laidOut : laidOutB Try.prog = true := by kernel_rfl

set_option maxRecDepth 100000 in
theorem lifted (os : Os) (started : os.Started) (H : Type) (enc : TypeId × Value → H) :
    ReturnsInHanded {} Try.checked os F.cuneiformlaw22_SendSizes .any (Rows.sendSizesSpec.pre6 enc Try.prog Try.f4 Rows.sendSizesRow.domain false) (Rows.sendSizesSpec.post enc Try.prog Try.f4 false true false false) := by
  refine returnsInHanded_of_change (C := Try.checked) own started (by kernel_rfl) Try.func4
    (ChangeSpec.witness6 (enc := enc) (C := Try.checked) false ⟨#[], #[.agg #[.int .i64 1, .int .i64 16, .int .u32 0], .agg #[.int .i64 0, .int .i64 0, .int .i64 0, .int .i64 0, .int .i64 0, .int .i64 0, .int .i64 0, .slice none 0 0, .slice none 0 0, .string ⟨#[]⟩, .string ⟨#[]⟩]], []⟩ 8 (by kernel_rfl) (by kernel_rfl) (by kernel_rfl) (by kernel_rfl)) ?_
  intro W base args ds gs before hval hW hcnd _
  refine law_calls (shs := [.struct [.int .i64, .int .i64, .int .u32], shMsg]) (tb := 4) laidOut (by kernel_rfl) ?_ (by kernel_rfl) Try.underlying4 rfl ?_ ?_ hval hW
  · intro t ht
    have : ∀ t ∈ Try.f4.params.toList, (Try.prog.readableRec t && decide (t < Try.prog.types.size)) = true := List.all_eq_true.1 (by kernel_rfl)
    simpa using this t ht
  · intro H ds hd
    match ds, hd with
    | [d0, d1], _ => exact ⟨rfl, rfl, rfl⟩
  · rintro xs ⟨a, r, rfl, ha, b, r2, rfl, hb, rfl⟩
    obtain ⟨l, rfl, h⟩ := ha
    obtain ⟨_, _, rfl, ⟨v, rfl, _⟩, h⟩ := h
    obtain ⟨_, _, rfl, ⟨mtu, rfl, _⟩, h⟩ := h
    obtain ⟨_, _, rfl, ⟨st, rfl, _⟩, h⟩ := h
    have h' : _ = ([] : List AVal) := h
    subst h'
    obtain ⟨x, x1, x2, _⟩ := msg_fits2 hb
    exact fun_sees (.cons (.refl _) (.cons x1 .nil)) (sendsizes_ok v mtu st ⟨x2.p, x2.c, x2.t, x2.g⟩)

theorem proved : Rows.SendSizesSaid :=
  OpenClaim.holds_of_wide F.cuneiformlaw22_SendSizes Try.f4 rfl rfl rfl rfl rfl rfl rfl ⟨rfl, rfl, rfl, rfl, rfl⟩ rfl rfl rfl rfl rfl (by kernel_rfl) Try.func4 (by kernel_rfl)
    (of_decide_eq_true (by kernel_rfl)) (by unfold Func.isWrapper; first | (rw [if_pos (by decide +kernel)]; kernel_rfl) | (rw [if_neg (by decide +kernel)]; exact ⟨rfl, rfl⟩))
    (fun os started H enc _ => lifted os started H enc)
end Go.Proofs.Ytiepeiconkjmeaa.sendSizes
