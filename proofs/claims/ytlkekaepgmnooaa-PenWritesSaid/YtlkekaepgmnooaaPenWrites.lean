/-
  whatever the room and the writes, the law PenWrites returns true, and the input reads as it did. No condition. By an AI agent. No person has read it.
-/
import Derived.Test.YtlkekaepgmnooaaREF
import Derived.Test.YtlkekaepgmnooaaAm5
import Derived.OpenShut
import Derived.Test.YtlkekaepgmnooaaRows

namespace Go.Proofs.Ytlkekaepgmnooaa
open Go Go.Am
set_option linter.unusedSimpArgs false
set_option linter.unusedVariables false

def cutAct (x : PAct) : PAct := ⟨x.kind, x.n, x.l.take 20, x.s.take 20, x.b.take 400⟩

/-- An act of whatever size. -/
structure PAct.wf (x : PAct) : Prop where
  n : x.n < 4294967296
  l : ∀ y ∈ x.l, y < 18446744073709551616
  s : ∀ z ∈ x.s, inI64 z
  b : ∀ y ∈ x.b, y < 256
  ll : x.l.length ≤ 9223372036854775807
  sl : x.s.length ≤ 9223372036854775807
  bl : x.b.length ≤ 9223372036854775807

theorem cut_wf {x : PAct} (h : x.wf) : (cutAct x).ok 20 400 :=
  ⟨h.n, fun y hy => h.l y (List.mem_of_mem_take hy), fun y hy => h.s y (List.mem_of_mem_take hy), fun y hy => h.b y (List.mem_of_mem_take hy), by simp [cutAct]; omega, by simp [cutAct]; omega, by simp [cutAct]; omega⟩

theorem cut_ok (H : AHeap) {x : PAct} (hx : x.wf) (Q : AVal → AHeap → Prop) (h : Q (.agg (encAct (cutAct x))) H) : FunOK Try.prog F.cuneiformlaw02_cut [.agg (encAct x)] H Q := by
  obtain ⟨k, n, l, s, b⟩ := x
  obtain ⟨hn, hl, hs, hb, hll, hsl, hbl⟩ := hx
  simp only at hn hl hs hb hll hsl hbl
  have m1 : (if (20 : Int) < (l.length : Int) then (20 : Int) else (l.length : Int)) = ((min l.length 20 : Nat) : Int) := by split <;> omega
  have m2 : (if (20 : Int) < (s.length : Int) then (20 : Int) else (s.length : Int)) = ((min s.length 20 : Nat) : Int) := by split <;> omega
  have m3 : (if (400 : Int) < (b.length : Int) then (400 : Int) else (b.length : Int)) = ((min b.length 400 : Nat) : Int) := by split <;> omega
  refine fun_iced cuneiformlaw02_cut_code fun _ => ?_
  refine fun_V 100 cuneiformlaw02_cut_code rfl ?_
  simp (disch := first | omega | (simp only [List.length_append, List.length_cons, List.length_nil, List.length_set, List.length_map, List.length_take, List.length_drop]; omega)) only [stdh, ↓reduceIte, Nat.reduceEqDiff, Int.reduceToNat, Int.reducePow, Nat.reduceAdd, Nat.reduceLeDiff, Nat.reduceMul, Nat.reduceBEq, reduceCtorEq, cuneiformlaw02_cut, cuneiformlaw02_cut.body, cuneiformlaw02_cut.d0, encAct, m1, m2, m3]
  have t1 : l.take (min l.length 20) = l.take 20 := List.take_eq_take_iff.2 (by omega)
  have t2 : s.take (min s.length 20) = s.take 20 := List.take_eq_take_iff.2 (by omega)
  have t3 : b.take (min b.length 400) = b.take 400 := List.take_eq_take_iff.2 (by omega)
  rw [t1, t2, t3]
  exact ice_keeps (keeps_append _ _) ⟨trivial, trivial, closed_nums _ _ _, closed_ints _ _, closed_nums _ _ _, trivial⟩ h

instance : Inhabited PAct := ⟨⟨0, 0, [], [], []⟩⟩
theorem encAct_len (x : PAct) : (encAct x).length = 5 := rfl

theorem known02_ok (H : AHeap) (Q : AVal → AHeap → Prop) (h : Q (.bool true) H) : FunOK Try.prog F.cuneiformlaw02_known [] H Q := fun_reck codes_ok 10000 (.bool true) (by kernel_rfl) rfl rfl H Q h

end Go.Proofs.Ytlkekaepgmnooaa

namespace Go.Proofs.Ytlkekaepgmnooaa
open Go Go.Am
set_option linter.unusedSimpArgs false
set_option linter.unusedVariables false

def shAct : Sh := .struct [.int .i64, .int .u32, .slice (.int .u64), .slice (.int .i64), .slice (.int .u8)]

theorem ints_fits {a : AVal} (h : Fits (.slice (.int .i64)) [a]) : ∃ zs : List Int, Sees a (ints false zs) ∧ (∀ z ∈ zs, inI64 z) ∧ zs.length ≤ 9223372036854775807 := by
  rcases h with h | ⟨gs, t, hg, h, hl⟩
  · cases h
    exact ⟨[], Sees.nils false, by simp, by simp⟩
  · cases h
    have : ∃ zs : List Int, gs = zs.map (fun z => [AVal.int .i64 z]) ∧ ∀ z ∈ zs, inI64 z := by
      clear hl
      induction gs with
      | nil => exact ⟨[], rfl, by simp⟩
      | cons g gs ih =>
        obtain ⟨zs, rfl, hz⟩ := ih fun x hx => hg x (by simp [hx])
        obtain ⟨z, rfl, hw⟩ := hg g (by simp)
        have hb := bounds_i64 hw
        refine ⟨z :: zs, rfl, fun y hy => ?_⟩
        rcases List.mem_cons.1 hy with rfl | hy
        · exact ⟨by omega, by omega⟩
        · exact hz y hy
    obtain ⟨zs, rfl, hz⟩ := this
    refine ⟨zs, ?_, hz, by simpa using hl⟩
    have e : (zs.map fun z => [AVal.int .i64 z]).flatten = zs.map fun z : Int => AVal.int .i64 z := by
      clear hl hg hz
      induction zs with
      | nil => rfl
      | cons z zs ih => simp only [List.map_cons, List.flatten_cons, ih]; rfl
    rw [e]
    have : ints false zs = .imm (zs.map fun z : Int => AVal.int .i64 z) (zs.map fun z => [AVal.int .i64 z]).length false := by simp [ints]
    rw [this]
    exact Sees.loose _ _ _

theorem slice_one {s : Sh} {l : List AVal} (h : Fits (.slice s) l) : ∃ p : AVal, l = [p] ∧ Fits (.slice s) [p] := by
  rcases h with rfl | ⟨gs, t, hg, rfl, hl⟩
  · exact ⟨_, rfl, .inl rfl⟩
  · exact ⟨_, rfl, .inr ⟨gs, t, hg, rfl, hl⟩⟩

theorem act_fits {g : List AVal} (h : Fits shAct g) : ∃ x : PAct, x.wf ∧ SeesL g (encAct x) := by
  obtain ⟨_, _, rfl, ⟨k, rfl, hk⟩, h⟩ := h
  obtain ⟨_, _, rfl, ⟨n, rfl, hn⟩, h⟩ := h
  obtain ⟨l3, _, rfl, h3, h⟩ := h
  obtain ⟨l4, _, rfl, h4, h⟩ := h
  obtain ⟨l5, _, rfl, h5, h⟩ := h
  have h' : _ = ([] : List AVal) := h
  subst h'
  obtain ⟨a, rfl, ha⟩ := slice_one h3
  obtain ⟨b, rfl, hb⟩ := slice_one h4
  obtain ⟨c, rfl, hc⟩ := slice_one h5
  obtain ⟨l, q1, q2, q3⟩ := nums_fits (k := .u64) rfl (show FitsA (.slice (.int .u64)) a from ha)
  obtain ⟨s, q4, q5, q6⟩ := ints_fits hb
  obtain ⟨by_, q7, q8, q9⟩ := nums_fits (k := .u8) rfl (show FitsA (.slice (.int .u8)) c from hc)
  have hnb := bounds_u32 hn
  obtain ⟨n, rfl⟩ := Int.eq_ofNat_of_zero_le hnb.1
  exact ⟨⟨k, n, l, s, by_⟩, ⟨by simp only; omega, fun y hy => by have := bounds_u64 (q2 y hy); omega, q5, fun y hy => by have := bounds_u8 (q8 y hy); omega, q3, q6, q9⟩,
    SeesL.cons (Sees.refl _) (SeesL.cons (Sees.refl _) (SeesL.cons q1 (SeesL.cons q4 (SeesL.cons q7 SeesL.nil))))⟩

theorem acts_fits {a : AVal} (h : FitsA (.slice shAct) a) : ∃ acts : List PAct, Sees a (recs encAct false acts) ∧ (∀ x ∈ acts, x.wf) ∧ acts.length ≤ 9223372036854775807 := by
  rcases h with h | ⟨gs, t, hg, h, hl⟩
  · cases h
    exact ⟨[], Sees.nils false, by simp, by simp⟩
  · cases h
    have : ∃ acts : List PAct, SeesL gs.flatten (acts.flatMap encAct) ∧ acts.length = gs.length ∧ ∀ x ∈ acts, x.wf := by
      clear hl
      induction gs with
      | nil => exact ⟨[], SeesL.nil, rfl, by simp⟩
      | cons g gs ih =>
        obtain ⟨acts, h1, h2, h3⟩ := ih fun x hx => hg x (by simp [hx])
        obtain ⟨x, hx, hs⟩ := act_fits (hg g (by simp))
        refine ⟨x :: acts, ?_, by simp [h2], fun y hy => ?_⟩
        · rw [List.flatten_cons, List.flatMap_cons]; exact SeesL.append hs h1
        · rcases List.mem_cons.1 hy with rfl | hy
          · exact hx
          · exact h3 y hy
    obtain ⟨acts, h1, h2, h3⟩ := this
    refine ⟨acts, ?_, h3, by omega⟩
    have : recs encAct false acts = .imm (acts.flatMap encAct) gs.length false := by simp [recs, h2]
    rw [this]
    exact (Sees.imm h1 _ _).trans (Sees.loose _ _ _)
end Go.Proofs.Ytlkekaepgmnooaa

namespace Go.Proofs.Ytlkekaepgmnooaa
open Go Go.Am
set_option linter.unusedSimpArgs false
set_option linter.unusedVariables false

theorem act_len {x : PAct} (h : x.ok 20 400) : (actBytes x).length ≤ 410 := by
  obtain ⟨k, n, l, s, b⟩ := x
  obtain ⟨hn, hl, hs, hb, hll, hsl, hbl⟩ := h
  simp only at hn hl hs hb hll hsl hbl
  have q1 := putAll_len l hl
  have q2 := putAll_len (s.map zig) (fun n hn => by
    obtain ⟨z, hz1, rfl⟩ := List.mem_map.1 hn
    exact zig_lt (hs z hz1).1 (hs z hz1).2)
  have q3 := putAll_len [b.length] (by simp; omega)
  simp only [List.length_map, List.length_cons, List.length_nil] at q2 q3
  simp only [actBytes]
  split
  · rw [wordBytes_len]; omega
  split
  · rw [wordBytes_len]; omega
  split
  · rw [wordBytes_len]; omega
  split
  · omega
  split
  · omega
  split
  · omega
  · rw [List.length_append]; omega

theorem PenAt.lt_ {H : AHeap} {p : Nat} {a : AVal} {xs : List Nat} {room : Nat} {full : Bool} (h : PenAt H p a xs room full) : p < H.length := (List.getElem?_eq_some_iff.1 h.is).1

theorem pbytes_own {H : AHeap} {p : Nat} {a : AVal} {xs : List Nat} {room : Nat} {full : Bool} (hp : PenAt H p a xs room full) (Q : AVal → AHeap → Prop) (h : ∀ v H2, Own 1 T.uint8 H.length H2 v xs.length (u8s xs) → Keeps H H2 → Q v H2) : FunOK Try.prog F.pen_Pen_Bytes [.ptr p 0] H Q := by
  have hc := hp.is
  have ho := hp.own
  have hsx := hp.sm
  refine fun_V 60 pen_Pen_Bytes_code rfl ?_
  simp (disch := first | omega | (simp only [List.length_append, List.length_cons, List.length_nil, List.length_set, List.length_map, List.length_take, List.length_drop]; omega)) only [stdh, ↓reduceIte, Nat.reduceEqDiff, Int.reduceToNat, Int.reducePow, Nat.reduceAdd, Nat.reduceLeDiff, Nat.reduceMul, Nat.reduceBEq, reduceCtorEq, pen_Pen_Bytes, pen_Pen_Bytes.body, eqA, hc]
  refine resK_append (k := xs.length) (ys := u8s xs) (Own.nil (B := H.length)) (Nat.le_refl _) ho.src.1 ho.src.2 (by simp [u8s]) (by omega) (by omega) (by omega) (by simp [u8s, AVal.cellish]) fun v H2 ov ht hn => ?_
  simp (disch := first | omega | (simp only [List.length_append, List.length_cons, List.length_nil, List.length_set, List.length_map, List.length_take, List.length_drop]; omega)) only [stdh, ↓reduceIte, Nat.reduceEqDiff, Int.reduceToNat, Int.reducePow, Nat.reduceAdd, Nat.reduceLeDiff, Nat.reduceMul, Nat.reduceBEq, reduceCtorEq]
  have ov' : Own 1 T.uint8 H.length H2 v xs.length (u8s xs) := by simpa using ov
  exact h v H2 ov' ⟨ht.le, fun m hm => ht.kept m hm (by simp [AVal.names])⟩

theorem pleft_ok {H : AHeap} {p : Nat} {a : AVal} {xs : List Nat} {room : Nat} (hp : PenAt H p a xs room false) (Q : AVal → AHeap → Prop) (h : Q (.int .i64 ((room - xs.length : Nat) : Int)) H) : FunOK Try.prog F.pen_Pen_Left [.ptr p 0] H Q := by
  have hc := hp.is
  have hsl := hp.own.slen
  have hle := hp.le
  have hlt := hp.lt
  refine fun_V 60 pen_Pen_Left_code rfl ?_
  have e : (room : Int) - (xs.length : Nat) = ((room - xs.length : Nat) : Int) := by omega
  simp (disch := first | omega | (simp only [List.length_append, List.length_cons, List.length_nil, List.length_set, List.length_map, List.length_take, List.length_drop]; omega)) only [stdh, ↓reduceIte, Nat.reduceEqDiff, Int.reduceToNat, Int.reducePow, Nat.reduceAdd, Nat.reduceLeDiff, Nat.reduceMul, Nat.reduceBEq, reduceCtorEq, pen_Pen_Left, pen_Pen_Left.body, pen_Pen_Left.d0, eqA, hc, hsl, e]

theorem pleft_full {H : AHeap} {p : Nat} {a : AVal} {xs : List Nat} {room : Nat} (hp : PenAt H p a xs room true) (Q : AVal → AHeap → Prop) (h : Q (.int .i64 0) H) : FunOK Try.prog F.pen_Pen_Left [.ptr p 0] H Q := by
  have hc := hp.is
  refine fun_V 60 pen_Pen_Left_code rfl ?_
  simp (disch := first | omega | (simp only [List.length_append, List.length_cons, List.length_nil, List.length_set, List.length_map, List.length_take, List.length_drop]; omega)) only [stdh, ↓reduceIte, Nat.reduceEqDiff, Int.reduceToNat, Int.reducePow, Nat.reduceAdd, Nat.reduceLeDiff, Nat.reduceMul, Nat.reduceBEq, reduceCtorEq, pen_Pen_Left, pen_Pen_Left.body, pen_Pen_Left.d0, eqA, hc]
  exact h

abbrev wrC : Ctx := ⟨F.cuneiformlaw02_PenWrites, 115, [.tmp 4], none⟩

set_option maxHeartbeats 4000000 in
theorem wr_loop (K : List AItem) (Q : AVal → AHeap → Prop) {acts : List PAct} (hw : ∀ x ∈ acts, x.wf) (hlen : acts.length ≤ 9223372036854775807) {room : Nat} (hroom : room ≤ 9223372036854775807)
    (hQ : ∀ r H, Run Try.prog wrC K r H Q) :
    ∀ (m i : Nat) (H : AHeap) (a mv : AVal) (xs : List Nat) (full : Bool), 40 - i = m → i ≤ 40 → Sees mv (nums .u8 false xs) → PenAt H 0 a xs room full → H[1]? = some (.cells [mv, .int .i64 (room : Nat), .bool full] T.cuneiformref02_P) → (∀ m ∈ a.names, 2 ≤ m) → xs.length ≤ 410 * i →
    Rounds Try.prog wrC cuneiformlaw02_PenWrites.b3 [.inBlock 0] K [(1, recs encAct false acts), (5, .ptr 0 0), (6, .ptr 1 0), (7, .int .i64 (i : Nat))] H Q := by
  intro m
  induction m using Nat.strongRecOn with
  | _ m ih =>
    intro i H a mv xs full h1 h2 hmv hp hm1 hna hxl
    refine loop_V 100 cuneiformlaw02_PenWrites.b3.eq_1 ?_
    by_cases hi : i < acts.length
    · by_cases hi2 : i < 40
      · have hld : ∀ H, loadA H (some 5) (.sptr (recs encAct false acts) (i * 5)) = some (True, .agg (encAct (acts.getD i default))) := fun H => load_recs (enc := encAct) (t := false) encAct_len hi
        have hwi : (acts.getD i default).wf := by
          rw [List.getD_eq_getElem?_getD, List.getElem?_eq_getElem hi]; exact hw _ (List.getElem_mem hi)
        generalize acts.getD i default = x at *
        have hok := cut_wf hwi
        have hal := act_len hok
        have h1l : 1 < H.length := (List.getElem?_eq_some_iff.1 hm1).1
        simp (disch := first | omega | (simp only [List.length_append, List.length_cons, List.length_nil, List.length_set, List.length_map, List.length_take, List.length_drop]; omega)) only [stdh, ↓reduceIte, Nat.reduceEqDiff, Int.reduceToNat, Int.reducePow, Nat.reduceAdd, Nat.reduceLeDiff, Nat.reduceMul, Nat.reduceBEq, reduceCtorEq, hld]
        refine callK_fn (cut_ok _ hwi _ ?_)
        refine runL_V 60 ?_
        generalize cutAct x = y at *
        have e5 : ∀ y : PAct, (encAct y).all AVal.cellish = true := fun y => rfl
        have f5 : ∀ y : PAct, fillAt [.int .i64 0, .int .u32 0, .nils, .nils, .nils] 0 (encAct y) = encAct y := fun y => rfl
        have t5 : ∀ y : PAct, List.take 5 (encAct y) = encAct y := fun y => rfl
        simp (disch := first | omega | (simp only [List.length_append, List.length_cons, List.length_nil, List.length_set, List.length_map, List.length_take, List.length_drop]; omega)) only [stdh, ↓reduceIte, Nat.reduceEqDiff, Int.reduceToNat, Int.reducePow, Nat.reduceAdd, Nat.reduceLeDiff, Nat.reduceMul, Nat.reduceBEq, reduceCtorEq, encAct_len, e5, f5, t5, cuneiformlaw02_PenWrites.d0, at_low, hm1]
        have hxy : xs.length + (actBytes y).length ≤ 1000000 := by omega
        have f3 : ∀ (u v w : AVal), fillAt [.nils, .int .i64 0, .bool false] 0 [u, v, w] = [u, v, w] := fun _ _ _ => rfl
        have bl := hp.lt_
        refine ⟨?_, ?_, ?_⟩
        all_goals
          refine callD_fn (bytes_ok _ hok _ ?_)
          refine ⟨by simp (disch := first | omega | (simp only [List.length_append, List.length_cons, List.length_nil, List.length_set, List.length_map, List.length_take, List.length_drop]; omega)) only [stdh, ↓reduceIte, Nat.reduceEqDiff, Int.reduceToNat, Int.reducePow, Nat.reduceAdd, Nat.reduceLeDiff, Nat.reduceMul, Nat.reduceBEq, reduceCtorEq, encAct_len, e5, t5, at_low, hm1], ?_⟩
          refine runD_V 60 ?_
          simp (disch := first | omega | (simp only [List.length_append, List.length_cons, List.length_nil, List.length_set, List.length_map, List.length_take, List.length_drop]; omega)) only [stdh, ↓reduceIte, Nat.reduceEqDiff, Int.reduceToNat, Int.reducePow, Nat.reduceAdd, Nat.reduceLeDiff, Nat.reduceMul, Nat.reduceBEq, reduceCtorEq, encAct_len, e5, t5, at_low, hm1, f3]
          refine callD_fn (fun_sees (SeesL.cons (Sees.agg (SeesL.cons hmv (SeesL.refl _))) (SeesL.refl _)) (rraw_ok _ hroom hxy _ ?_))
          refine ⟨by simp (disch := first | omega | (simp only [List.length_append, List.length_cons, List.length_nil, List.length_set, List.length_map, List.length_take, List.length_drop]; omega)) only [stdh, ↓reduceIte, Nat.reduceEqDiff, Int.reduceToNat, Int.reducePow, Nat.reduceAdd, Nat.reduceLeDiff, Nat.reduceMul, Nat.reduceBEq, reduceCtorEq, encAct_len, e5, t5, at_low, hm1], ?_⟩
          refine runD_V 60 ?_
          simp (disch := first | omega | (simp only [List.length_append, List.length_cons, List.length_nil, List.length_set, List.length_map, List.length_take, List.length_drop]; omega)) only [stdh, ↓reduceIte, Nat.reduceEqDiff, Int.reduceToNat, Int.reducePow, Nat.reduceAdd, Nat.reduceLeDiff, Nat.reduceMul, Nat.reduceBEq, reduceCtorEq, encAct_len, e5, t5, at_low, set_low, hm1, f3]
          have hs0 : ∀ (X b : ABlk) (L : AHeap), (H.set 1 X ++ b :: L)[H.length]? = some b := fun X b L => by
            rw [List.getElem?_append_right (by simp)]; simp
          have hs1 : ∀ (X : ABlk) (L : AHeap), (H.set 1 X ++ L)[1]? = some X := fun X L => by
            rw [List.getElem?_append_left (by simp; omega), List.getElem?_set_self h1l]
          have hsm : ∀ (X : ABlk) (L : AHeap) (m : Nat), m < H.length → m ≠ 1 → (H.set 1 X ++ L)[m]? = H[m]? := fun X L m q1 q2 => by
            rw [List.getElem?_append_left (by simp; omega), List.getElem?_set_ne (by omega)]
          have hsl : ∀ (X : ABlk) (L : AHeap), H.length ≤ (H.set 1 X ++ L).length := fun X L => by simp
          simp (disch := first | omega | (simp only [List.length_append, List.length_cons, List.length_nil, List.length_set, List.length_map, List.length_take, List.length_drop]; omega)) only [stdh, ↓reduceIte, Nat.reduceEqDiff, Int.reduceToNat, Int.reducePow, Nat.reduceAdd, Nat.reduceLeDiff, Nat.reduceMul, Nat.reduceBEq, reduceCtorEq, hs0, t5, encAct_len]
          generalize hXX : ABlk.cells [nums .u8 false (rawXs xs room full (actBytes y)), .int .i64 (room : Nat), .bool (rawFull xs room full (actBytes y))] T.cuneiformref02_P = X at *
          generalize hLL : (ABlk.cells (encAct y) T.cuneiformlaw02_Act :: _ : AHeap) = L at *
          clear hs0 hLL
          replace hs1 := hs1 X L
          replace hsm := hsm X L
          replace hsl := hsl X L
          generalize H.set 1 X ++ L = G at *
          have hpG : PenAt G 0 a xs room full := hp.moved (hsm 0 bl (by omega)) fun m hm => hsm m (hp.own.lt m hm).2 (by have := hna m hm; omega)
          refine callK_fn (do_ok hpG (by omega) hok _ ?_)
          intro a' H' g1 g2 g3
          have c1 : H'[1]? = some X := (g2.2 1 (by omega) (by omega) (fun hm => by have := hna 1 hm; omega)).trans hs1
          have hna' : ∀ m ∈ a'.names, 2 ≤ m := fun m hm => by
            rcases g3 m hm with q | q
            · exact hna m q
            · omega
          have hxl' : (rawXs xs room full (actBytes y)).length ≤ 410 * (i + 1) := by
            unfold rawXs
            split
            · omega
            · rw [List.length_append]; omega
          have hEF : rawErr xs room full (actBytes y) = if rawFull xs room full (actBytes y) = true then 2 else 0 := by
            unfold rawErr rawFull
            cases full <;> simp
          subst hXX
          refine runL_V 60 ?_
          generalize rawErr xs room full (actBytes y) = ER at *
          generalize rawXs xs room full (actBytes y) = XS at *
          generalize rawFull xs room full (actBytes y) = FU at *
          have hih : ∀ H a xs full, PenAt H 0 a xs room full → H[1]? = some (.cells [nums .u8 false xs, .int .i64 (room : Nat), .bool full] T.cuneiformref02_P) → (∀ m ∈ a.names, 2 ≤ m) → xs.length ≤ 410 * (i + 1) →
              Rounds Try.prog wrC cuneiformlaw02_PenWrites.b3 [.inBlock 0] K [(1, recs encAct false acts), (5, .ptr 0 0), (6, .ptr 1 0), (7, .int .i64 ((i + 1 : Nat) : Int))] H Q := fun H a xs full q1 q2 q3 q4 => ih (40 - (i + 1)) (by omega) (i + 1) H a _ xs full rfl (by omega) (Sees.refl _) q1 q2 q3 q4
          clear ih hs1 hsm hsl hpG g2 g3 hp hm1 hna
          have hXl := g1.le
          cases FU with
          | false =>
            have hER : ER = 0 := by simpa using hEF
            subst hER
            have eL : (room : Int) - (XS.length : Nat) = ((room - XS.length : Nat) : Int) := by omega
            simp (disch := first | omega | (simp only [List.length_append, List.length_cons, List.length_nil, List.length_set, List.length_map, List.length_take, List.length_drop]; omega)) only [stdh, ↓reduceIte, Nat.reduceEqDiff, Int.reduceToNat, Int.reducePow, Nat.reduceAdd, Nat.reduceLeDiff, Nat.reduceMul, Nat.reduceBEq, reduceCtorEq, c1, eL, cuneiformlaw02_PenWrites.d1]
            refine callD_fn (pbytes_ok g1 _ ?_)
            refine ⟨by simp (disch := first | omega | (simp only [List.length_append, List.length_cons, List.length_nil, List.length_set, List.length_map, List.length_take, List.length_drop]; omega)) only [stdh, ↓reduceIte, Nat.reduceEqDiff, Int.reduceToNat, Int.reducePow, Nat.reduceAdd, Nat.reduceLeDiff, Nat.reduceMul, Nat.reduceBEq, reduceCtorEq, c1], ?_⟩
            refine runD_V 60 ?_
            simp (disch := first | omega | (simp only [List.length_append, List.length_cons, List.length_nil, List.length_set, List.length_map, List.length_take, List.length_drop]; omega)) only [stdh, ↓reduceIte, Nat.reduceEqDiff, Int.reduceToNat, Int.reducePow, Nat.reduceAdd, Nat.reduceLeDiff, Nat.reduceMul, Nat.reduceBEq, reduceCtorEq, c1]
            refine callD_fn (same_ok _ (nums_nats _ _ _ _) (nums_nats _ _ _ _) (by omega) _ ?_)
            refine ⟨by simp (disch := first | omega | (simp only [List.length_append, List.length_cons, List.length_nil, List.length_set, List.length_map, List.length_take, List.length_drop]; omega)) only [stdh, ↓reduceIte, Nat.reduceEqDiff, Int.reduceToNat, Int.reducePow, Nat.reduceAdd, Nat.reduceLeDiff, Nat.reduceMul, Nat.reduceBEq, reduceCtorEq, c1], ?_⟩
            refine runD_V 60 ?_
            simp (disch := first | omega | (simp only [List.length_append, List.length_cons, List.length_nil, List.length_set, List.length_map, List.length_take, List.length_drop]; omega)) only [stdh, ↓reduceIte, Nat.reduceEqDiff, Int.reduceToNat, Int.reducePow, Nat.reduceAdd, Nat.reduceLeDiff, Nat.reduceMul, Nat.reduceBEq, reduceCtorEq, c1]
            refine callD_fn (plen_ok g1 _ ?_)
            refine ⟨by simp (disch := first | omega | (simp only [List.length_append, List.length_cons, List.length_nil, List.length_set, List.length_map, List.length_take, List.length_drop]; omega)) only [stdh, ↓reduceIte, Nat.reduceEqDiff, Int.reduceToNat, Int.reducePow, Nat.reduceAdd, Nat.reduceLeDiff, Nat.reduceMul, Nat.reduceBEq, reduceCtorEq, c1], ?_⟩
            refine runD_V 60 ?_
            simp (disch := first | omega | (simp only [List.length_append, List.length_cons, List.length_nil, List.length_set, List.length_map, List.length_take, List.length_drop]; omega)) only [stdh, ↓reduceIte, Nat.reduceEqDiff, Int.reduceToNat, Int.reducePow, Nat.reduceAdd, Nat.reduceLeDiff, Nat.reduceMul, Nat.reduceBEq, reduceCtorEq, c1]
            refine callD_fn (pleft_ok g1 _ ?_)
            refine ⟨by simp (disch := first | omega | (simp only [List.length_append, List.length_cons, List.length_nil, List.length_set, List.length_map, List.length_take, List.length_drop]; omega)) only [stdh, ↓reduceIte, Nat.reduceEqDiff, Int.reduceToNat, Int.reducePow, Nat.reduceAdd, Nat.reduceLeDiff, Nat.reduceMul, Nat.reduceBEq, reduceCtorEq, c1], ?_⟩
            refine runD_V 60 ?_
            simp (disch := first | omega | (simp only [List.length_append, List.length_cons, List.length_nil, List.length_set, List.length_map, List.length_take, List.length_drop]; omega)) only [stdh, ↓reduceIte, Nat.reduceEqDiff, Int.reduceToNat, Int.reducePow, Nat.reduceAdd, Nat.reduceLeDiff, Nat.reduceMul, Nat.reduceBEq, reduceCtorEq, c1]
            refine callD_fn (perr_ok g1 _ ?_)
            refine ⟨by simp (disch := first | omega | (simp only [List.length_append, List.length_cons, List.length_nil, List.length_set, List.length_map, List.length_take, List.length_drop]; omega)) only [stdh, ↓reduceIte, Nat.reduceEqDiff, Int.reduceToNat, Int.reducePow, Nat.reduceAdd, Nat.reduceLeDiff, Nat.reduceMul, Nat.reduceBEq, reduceCtorEq, c1], ?_⟩
            refine runD_V 60 ?_
            simp (disch := first | omega | (simp only [List.length_append, List.length_cons, List.length_nil, List.length_set, List.length_map, List.length_take, List.length_drop]; omega)) only [stdh, ↓reduceIte, Nat.reduceEqDiff, Int.reduceToNat, Int.reducePow, Nat.reduceAdd, Nat.reduceLeDiff, Nat.reduceMul, Nat.reduceBEq, reduceCtorEq, c1]
            refine callD_fn (perr_ok g1 _ ?_)
            refine ⟨by simp (disch := first | omega | (simp only [List.length_append, List.length_cons, List.length_nil, List.length_set, List.length_map, List.length_take, List.length_drop]; omega)) only [stdh, ↓reduceIte, Nat.reduceEqDiff, Int.reduceToNat, Int.reducePow, Nat.reduceAdd, Nat.reduceLeDiff, Nat.reduceMul, Nat.reduceBEq, reduceCtorEq, c1], ?_⟩
            refine runD_V 60 ?_
            simp (disch := first | omega | (simp only [List.length_append, List.length_cons, List.length_nil, List.length_set, List.length_map, List.length_take, List.length_drop]; omega)) only [stdh, ↓reduceIte, Nat.reduceEqDiff, Int.reduceToNat, Int.reducePow, Nat.reduceAdd, Nat.reduceLeDiff, Nat.reduceMul, Nat.reduceBEq, reduceCtorEq, c1]
            refine callK_fn (pbytes_own g1 _ ?_)
            intro v H2 ov hk
            refine runL_V 60 ?_
            have hov := ov.slen
            have g1' := g1.keep hk
            have c1' : H2[1]? = some (.cells [nums .u8 false XS, .int .i64 (room : Nat), .bool false] T.cuneiformref02_P) := (hk.2 1 (List.getElem?_eq_some_iff.1 c1).1).trans c1
            rcases ov.is with ⟨rfl, hz⟩ | ⟨q, hq, rfl, hH2⟩
            · have hz' : ¬ (0 : Int) < (XS.length : Nat) := by omega
              simp (disch := first | omega | (simp only [List.length_append, List.length_cons, List.length_nil, List.length_set, List.length_map, List.length_take, List.length_drop]; omega)) only [stdh, ↓reduceIte, Nat.reduceEqDiff, Int.reduceToNat, Int.reducePow, Nat.reduceAdd, Nat.reduceLeDiff, Nat.reduceMul, Nat.reduceBEq, reduceCtorEq, hov, hz']
              exact hih H2 a' XS false g1' c1' hna' hxl'
            · by_cases hz : XS.length = 0
              · have hz' : ¬ (0 : Int) < (XS.length : Nat) := by omega
                simp (disch := first | omega | (simp only [List.length_append, List.length_cons, List.length_nil, List.length_set, List.length_map, List.length_take, List.length_drop]; omega)) only [stdh, ↓reduceIte, Nat.reduceEqDiff, Int.reduceToNat, Int.reducePow, Nat.reduceAdd, Nat.reduceLeDiff, Nat.reduceMul, Nat.reduceBEq, reduceCtorEq, hz']
                exact hih H2 a' XS false g1' c1' hna' hxl'
              · have hz' : (0 : Int) < (XS.length : Nat) := by omega
                have hld0 := ov.load (j := 0) (by rw [u8s_len]; omega)
                have hx0 : (u8s XS).getD 0 .junk = .int .u8 ((XS.getD 0 0 : Nat) : Int) := by
                  cases XS with
                  | nil => exact absurd rfl hz
                  | cons x XS => rfl
                rw [hx0] at hld0
                have hul := u8s_len XS
                have hst : ∀ z, storeA H2 1 (.sptr (.slc q 0 XS.length 1) 0) (.int .u8 z) = some (True, H2.set q (.vec (fillAt (u8s XS) 0 [.int .u8 z]) T.uint8 1)) := by
                  intro z
                  simp only [storeA, hH2, Nat.add_zero, hul, AVal.cells]
                  congr 2
                  simp [AVal.cellish]; omega
                have hHl : 1 < H'.length := (List.getElem?_eq_some_iff.1 c1).1
                simp (disch := first | omega | (simp only [List.length_append, List.length_cons, List.length_nil, List.length_set, List.length_map, List.length_take, List.length_drop]; omega)) only [stdh, ↓reduceIte, Nat.reduceEqDiff, Int.reduceToNat, Int.reducePow, Nat.reduceAdd, Nat.reduceLeDiff, Nat.reduceMul, Nat.reduceBEq, reduceCtorEq, hz', hld0, hH2, hul, ov.isSome, hst]
                have c5 : ∀ B : ABlk, (H2.set q B)[1]? = H2[1]? := fun B => List.getElem?_set_ne (by omega)
                have g5 : ∀ B : ABlk, PenAt (H2.set q B) 0 a' XS room _ := fun B => g1'.moved (List.getElem?_set_ne (by omega)) fun m hm => List.getElem?_set_ne (by have := (g1.own.lt m hm).2; omega)
                have c6 := fun B => (c5 B).trans c1'
                simp (disch := first | omega | (simp only [List.length_append, List.length_cons, List.length_nil, List.length_set, List.length_map, List.length_take, List.length_drop]; omega)) only [stdh, ↓reduceIte, Nat.reduceEqDiff, Int.reduceToNat, Int.reducePow, Nat.reduceAdd, Nat.reduceLeDiff, Nat.reduceMul, Nat.reduceBEq, reduceCtorEq, cuneiformlaw02_PenWrites.d2, c6]
                refine callD_fn (pbytes_ok (g5 _) _ ?_)
                refine ⟨by simp (disch := first | omega | (simp only [List.length_append, List.length_cons, List.length_nil, List.length_set, List.length_map, List.length_take, List.length_drop]; omega)) only [stdh, ↓reduceIte, Nat.reduceEqDiff, Int.reduceToNat, Int.reducePow, Nat.reduceAdd, Nat.reduceLeDiff, Nat.reduceMul, Nat.reduceBEq, reduceCtorEq, c6], ?_⟩
                refine runD_V 60 ?_
                simp (disch := first | omega | (simp only [List.length_append, List.length_cons, List.length_nil, List.length_set, List.length_map, List.length_take, List.length_drop]; omega)) only [stdh, ↓reduceIte, Nat.reduceEqDiff, Int.reduceToNat, Int.reducePow, Nat.reduceAdd, Nat.reduceLeDiff, Nat.reduceMul, Nat.reduceBEq, reduceCtorEq, c6]
                refine callD_fn (same_ok _ (nums_nats _ _ _ _) (nums_nats _ _ _ _) (by omega) _ ?_)
                refine ⟨by simp (disch := first | omega | (simp only [List.length_append, List.length_cons, List.length_nil, List.length_set, List.length_map, List.length_take, List.length_drop]; omega)) only [stdh, ↓reduceIte, Nat.reduceEqDiff, Int.reduceToNat, Int.reducePow, Nat.reduceAdd, Nat.reduceLeDiff, Nat.reduceMul, Nat.reduceBEq, reduceCtorEq, c6], ?_⟩
                refine runD_V 60 ?_
                simp (disch := first | omega | (simp only [List.length_append, List.length_cons, List.length_nil, List.length_set, List.length_map, List.length_take, List.length_drop]; omega)) only [stdh, ↓reduceIte, Nat.reduceEqDiff, Int.reduceToNat, Int.reducePow, Nat.reduceAdd, Nat.reduceLeDiff, Nat.reduceMul, Nat.reduceBEq, reduceCtorEq, c6]
                exact hih _ a' XS _ (g5 _) (c6 _) hna' hxl'
          | true =>
            have hER : ER = 2 := by simpa using hEF
            subst hER
            simp (disch := first | omega | (simp only [List.length_append, List.length_cons, List.length_nil, List.length_set, List.length_map, List.length_take, List.length_drop]; omega)) only [stdh, ↓reduceIte, Nat.reduceEqDiff, Int.reduceToNat, Int.reducePow, Nat.reduceAdd, Nat.reduceLeDiff, Nat.reduceMul, Nat.reduceBEq, reduceCtorEq, c1, cuneiformlaw02_PenWrites.d1]
            refine callD_fn (pbytes_ok g1 _ ?_)
            refine ⟨by simp (disch := first | omega | (simp only [List.length_append, List.length_cons, List.length_nil, List.length_set, List.length_map, List.length_take, List.length_drop]; omega)) only [stdh, ↓reduceIte, Nat.reduceEqDiff, Int.reduceToNat, Int.reducePow, Nat.reduceAdd, Nat.reduceLeDiff, Nat.reduceMul, Nat.reduceBEq, reduceCtorEq, c1], ?_⟩
            refine runD_V 60 ?_
            simp (disch := first | omega | (simp only [List.length_append, List.length_cons, List.length_nil, List.length_set, List.length_map, List.length_take, List.length_drop]; omega)) only [stdh, ↓reduceIte, Nat.reduceEqDiff, Int.reduceToNat, Int.reducePow, Nat.reduceAdd, Nat.reduceLeDiff, Nat.reduceMul, Nat.reduceBEq, reduceCtorEq, c1]
            refine callD_fn (same_ok _ (nums_nats _ _ _ _) (nums_nats _ _ _ _) (by omega) _ ?_)
            refine ⟨by simp (disch := first | omega | (simp only [List.length_append, List.length_cons, List.length_nil, List.length_set, List.length_map, List.length_take, List.length_drop]; omega)) only [stdh, ↓reduceIte, Nat.reduceEqDiff, Int.reduceToNat, Int.reducePow, Nat.reduceAdd, Nat.reduceLeDiff, Nat.reduceMul, Nat.reduceBEq, reduceCtorEq, c1], ?_⟩
            refine runD_V 60 ?_
            simp (disch := first | omega | (simp only [List.length_append, List.length_cons, List.length_nil, List.length_set, List.length_map, List.length_take, List.length_drop]; omega)) only [stdh, ↓reduceIte, Nat.reduceEqDiff, Int.reduceToNat, Int.reducePow, Nat.reduceAdd, Nat.reduceLeDiff, Nat.reduceMul, Nat.reduceBEq, reduceCtorEq, c1]
            refine callD_fn (plen_ok g1 _ ?_)
            refine ⟨by simp (disch := first | omega | (simp only [List.length_append, List.length_cons, List.length_nil, List.length_set, List.length_map, List.length_take, List.length_drop]; omega)) only [stdh, ↓reduceIte, Nat.reduceEqDiff, Int.reduceToNat, Int.reducePow, Nat.reduceAdd, Nat.reduceLeDiff, Nat.reduceMul, Nat.reduceBEq, reduceCtorEq, c1], ?_⟩
            refine runD_V 60 ?_
            simp (disch := first | omega | (simp only [List.length_append, List.length_cons, List.length_nil, List.length_set, List.length_map, List.length_take, List.length_drop]; omega)) only [stdh, ↓reduceIte, Nat.reduceEqDiff, Int.reduceToNat, Int.reducePow, Nat.reduceAdd, Nat.reduceLeDiff, Nat.reduceMul, Nat.reduceBEq, reduceCtorEq, c1]
            refine callD_fn (pleft_full g1 _ ?_)
            refine ⟨by simp (disch := first | omega | (simp only [List.length_append, List.length_cons, List.length_nil, List.length_set, List.length_map, List.length_take, List.length_drop]; omega)) only [stdh, ↓reduceIte, Nat.reduceEqDiff, Int.reduceToNat, Int.reducePow, Nat.reduceAdd, Nat.reduceLeDiff, Nat.reduceMul, Nat.reduceBEq, reduceCtorEq, c1], ?_⟩
            refine runD_V 60 ?_
            simp (disch := first | omega | (simp only [List.length_append, List.length_cons, List.length_nil, List.length_set, List.length_map, List.length_take, List.length_drop]; omega)) only [stdh, ↓reduceIte, Nat.reduceEqDiff, Int.reduceToNat, Int.reducePow, Nat.reduceAdd, Nat.reduceLeDiff, Nat.reduceMul, Nat.reduceBEq, reduceCtorEq, c1]
            refine callD_fn (perr_ok g1 _ ?_)
            refine ⟨by simp (disch := first | omega | (simp only [List.length_append, List.length_cons, List.length_nil, List.length_set, List.length_map, List.length_take, List.length_drop]; omega)) only [stdh, ↓reduceIte, Nat.reduceEqDiff, Int.reduceToNat, Int.reducePow, Nat.reduceAdd, Nat.reduceLeDiff, Nat.reduceMul, Nat.reduceBEq, reduceCtorEq, c1], ?_⟩
            refine runD_V 60 ?_
            simp (disch := first | omega | (simp only [List.length_append, List.length_cons, List.length_nil, List.length_set, List.length_map, List.length_take, List.length_drop]; omega)) only [stdh, ↓reduceIte, Nat.reduceEqDiff, Int.reduceToNat, Int.reducePow, Nat.reduceAdd, Nat.reduceLeDiff, Nat.reduceMul, Nat.reduceBEq, reduceCtorEq, c1]
            refine callK_fn (pbytes_own g1 _ ?_)
            intro v H2 ov hk
            refine runL_V 60 ?_
            have hov := ov.slen
            have g1' := g1.keep hk
            have c1' : H2[1]? = some (.cells [nums .u8 false XS, .int .i64 (room : Nat), .bool true] T.cuneiformref02_P) := (hk.2 1 (List.getElem?_eq_some_iff.1 c1).1).trans c1
            rcases ov.is with ⟨rfl, hz⟩ | ⟨q, hq, rfl, hH2⟩
            · have hz' : ¬ (0 : Int) < (XS.length : Nat) := by omega
              simp (disch := first | omega | (simp only [List.length_append, List.length_cons, List.length_nil, List.length_set, List.length_map, List.length_take, List.length_drop]; omega)) only [stdh, ↓reduceIte, Nat.reduceEqDiff, Int.reduceToNat, Int.reducePow, Nat.reduceAdd, Nat.reduceLeDiff, Nat.reduceMul, Nat.reduceBEq, reduceCtorEq, hov, hz']
              exact hih H2 a' XS true g1' c1' hna' hxl'
            · by_cases hz : XS.length = 0
              · have hz' : ¬ (0 : Int) < (XS.length : Nat) := by omega
                simp (disch := first | omega | (simp only [List.length_append, List.length_cons, List.length_nil, List.length_set, List.length_map, List.length_take, List.length_drop]; omega)) only [stdh, ↓reduceIte, Nat.reduceEqDiff, Int.reduceToNat, Int.reducePow, Nat.reduceAdd, Nat.reduceLeDiff, Nat.reduceMul, Nat.reduceBEq, reduceCtorEq, hz']
                exact hih H2 a' XS true g1' c1' hna' hxl'
              · have hz' : (0 : Int) < (XS.length : Nat) := by omega
                have hld0 := ov.load (j := 0) (by rw [u8s_len]; omega)
                have hx0 : (u8s XS).getD 0 .junk = .int .u8 ((XS.getD 0 0 : Nat) : Int) := by
                  cases XS with
                  | nil => exact absurd rfl hz
                  | cons x XS => rfl
                rw [hx0] at hld0
                have hul := u8s_len XS
                have hst : ∀ z, storeA H2 1 (.sptr (.slc q 0 XS.length 1) 0) (.int .u8 z) = some (True, H2.set q (.vec (fillAt (u8s XS) 0 [.int .u8 z]) T.uint8 1)) := by
                  intro z
                  simp only [storeA, hH2, Nat.add_zero, hul, AVal.cells]
                  congr 2
                  simp [AVal.cellish]; omega
                have hHl : 1 < H'.length := (List.getElem?_eq_some_iff.1 c1).1
                simp (disch := first | omega | (simp only [List.length_append, List.length_cons, List.length_nil, List.length_set, List.length_map, List.length_take, List.length_drop]; omega)) only [stdh, ↓reduceIte, Nat.reduceEqDiff, Int.reduceToNat, Int.reducePow, Nat.reduceAdd, Nat.reduceLeDiff, Nat.reduceMul, Nat.reduceBEq, reduceCtorEq, hz', hld0, hH2, hul, ov.isSome, hst]
                have c5 : ∀ B : ABlk, (H2.set q B)[1]? = H2[1]? := fun B => List.getElem?_set_ne (by omega)
                have g5 : ∀ B : ABlk, PenAt (H2.set q B) 0 a' XS room _ := fun B => g1'.moved (List.getElem?_set_ne (by omega)) fun m hm => List.getElem?_set_ne (by have := (g1.own.lt m hm).2; omega)
                have c6 := fun B => (c5 B).trans c1'
                simp (disch := first | omega | (simp only [List.length_append, List.length_cons, List.length_nil, List.length_set, List.length_map, List.length_take, List.length_drop]; omega)) only [stdh, ↓reduceIte, Nat.reduceEqDiff, Int.reduceToNat, Int.reducePow, Nat.reduceAdd, Nat.reduceLeDiff, Nat.reduceMul, Nat.reduceBEq, reduceCtorEq, cuneiformlaw02_PenWrites.d2, c6]
                refine callD_fn (pbytes_ok (g5 _) _ ?_)
                refine ⟨by simp (disch := first | omega | (simp only [List.length_append, List.length_cons, List.length_nil, List.length_set, List.length_map, List.length_take, List.length_drop]; omega)) only [stdh, ↓reduceIte, Nat.reduceEqDiff, Int.reduceToNat, Int.reducePow, Nat.reduceAdd, Nat.reduceLeDiff, Nat.reduceMul, Nat.reduceBEq, reduceCtorEq, c6], ?_⟩
                refine runD_V 60 ?_
                simp (disch := first | omega | (simp only [List.length_append, List.length_cons, List.length_nil, List.length_set, List.length_map, List.length_take, List.length_drop]; omega)) only [stdh, ↓reduceIte, Nat.reduceEqDiff, Int.reduceToNat, Int.reducePow, Nat.reduceAdd, Nat.reduceLeDiff, Nat.reduceMul, Nat.reduceBEq, reduceCtorEq, c6]
                refine callD_fn (same_ok _ (nums_nats _ _ _ _) (nums_nats _ _ _ _) (by omega) _ ?_)
                refine ⟨by simp (disch := first | omega | (simp only [List.length_append, List.length_cons, List.length_nil, List.length_set, List.length_map, List.length_take, List.length_drop]; omega)) only [stdh, ↓reduceIte, Nat.reduceEqDiff, Int.reduceToNat, Int.reducePow, Nat.reduceAdd, Nat.reduceLeDiff, Nat.reduceMul, Nat.reduceBEq, reduceCtorEq, c6], ?_⟩
                refine runD_V 60 ?_
                simp (disch := first | omega | (simp only [List.length_append, List.length_cons, List.length_nil, List.length_set, List.length_map, List.length_take, List.length_drop]; omega)) only [stdh, ↓reduceIte, Nat.reduceEqDiff, Int.reduceToNat, Int.reducePow, Nat.reduceAdd, Nat.reduceLeDiff, Nat.reduceMul, Nat.reduceBEq, reduceCtorEq, c6]
                exact hih _ a' XS _ (g5 _) (c6 _) hna' hxl'
      · simp (disch := first | omega | (simp only [List.length_append, List.length_cons, List.length_nil, List.length_set, List.length_map, List.length_take, List.length_drop]; omega)) only [stdh, ↓reduceIte, Nat.reduceEqDiff, Int.reduceToNat, Int.reducePow, Nat.reduceAdd, Nat.reduceLeDiff, Nat.reduceMul, Nat.reduceBEq, reduceCtorEq]
        exact hQ _ _
    · simp (disch := first | omega | (simp only [List.length_append, List.length_cons, List.length_nil, List.length_set, List.length_map, List.length_take, List.length_drop]; omega)) only [stdh, ↓reduceIte, Nat.reduceEqDiff, Int.reduceToNat, Int.reducePow, Nat.reduceAdd, Nat.reduceLeDiff, Nat.reduceMul, Nat.reduceBEq, reduceCtorEq]
      exact hQ _ _

end Go.Proofs.Ytlkekaepgmnooaa

namespace Go.Proofs.Ytlkekaepgmnooaa
open Go Go.Am
set_option linter.unusedSimpArgs false
set_option linter.unusedVariables false

theorem pnew_any (H : AHeap) {room : Int} (h0 : -9223372036854775808 ≤ room) (h1 : room < 9223372036854775808) (Q : AVal → AHeap → Prop) (h : Q (.ptr H.length 0) (H ++ [.cells [.nils, .int .i64 (room.toNat : Nat), .bool false] T.pen_Pen])) : FunOK Try.prog F.pen_New [.int .i64 room] H Q := by
  refine fun_V 60 pen_New_code rfl ?_
  by_cases hr : room < 0
  · have e : ((room.toNat : Nat) : Int) = 0 := by omega
    rw [e] at h
    simp (disch := first | omega | (simp only [List.length_append, List.length_cons, List.length_nil, List.length_set, List.length_map, List.length_take, List.length_drop]; omega)) only [stdh, ↓reduceIte, Nat.reduceEqDiff, Int.reduceToNat, Int.reducePow, Nat.reduceAdd, Nat.reduceLeDiff, Nat.reduceMul, Nat.reduceBEq, reduceCtorEq, pen_New, pen_New.body, hr]
    exact h
  · have e : ((room.toNat : Nat) : Int) = room := by omega
    rw [e] at h
    simp (disch := first | omega | (simp only [List.length_append, List.length_cons, List.length_nil, List.length_set, List.length_map, List.length_take, List.length_drop]; omega)) only [stdh, ↓reduceIte, Nat.reduceEqDiff, Int.reduceToNat, Int.reducePow, Nat.reduceAdd, Nat.reduceLeDiff, Nat.reduceMul, Nat.reduceBEq, reduceCtorEq, pen_New, pen_New.body, hr]
    exact h

theorem penwrites_ok {room : Int} (h0 : -9223372036854775808 ≤ room) (h1 : room < 9223372036854775808) {acts : List PAct} (hw : ∀ x ∈ acts, x.wf) (hlen : acts.length ≤ 9223372036854775807) :
    FunOK Try.prog F.cuneiformlaw02_PenWrites [.int .i64 room, recs encAct false acts] [] fun av _ => av = .bool true := by
  refine fun_V 60 cuneiformlaw02_PenWrites_code rfl ?_
  simp (disch := first | omega | (simp only [List.length_append, List.length_cons, List.length_nil, List.length_set, List.length_map, List.length_take, List.length_drop]; omega)) only [stdh, ↓reduceIte, Nat.reduceEqDiff, Int.reduceToNat, Int.reducePow, Nat.reduceAdd, Nat.reduceLeDiff, Nat.reduceMul, Nat.reduceBEq, reduceCtorEq, cuneiformlaw02_PenWrites, cuneiformlaw02_PenWrites.body]
  refine callK_fn (pnew_any _ h0 h1 _ ?_)
  refine runL_V 60 ?_
  have fin : ∀ r H, Run Try.prog wrC [.code (.seq (.region [⟨(some 114), .call (.const (.fn F.cuneiformlaw02_known [] [])) [], none⟩, ⟨(some 4), .mov (.tmp 114), none⟩] [4]) (.ret))] r H fun av _ => av = .bool true := by
    intro r H
    refine run_V0 60 ?_
    simp (disch := first | omega | (simp only [List.length_append, List.length_cons, List.length_nil, List.length_set, List.length_map, List.length_take, List.length_drop]; omega)) only [stdh, ↓reduceIte, Nat.reduceEqDiff, Int.reduceToNat, Int.reducePow, Nat.reduceAdd, Nat.reduceLeDiff, Nat.reduceMul, Nat.reduceBEq, reduceCtorEq]
    refine callK_fn (known02_ok _ _ ?_)
    refine runL_V 60 ?_
    simp (disch := first | omega | (simp only [List.length_append, List.length_cons, List.length_nil, List.length_set, List.length_map, List.length_take, List.length_drop]; omega)) only [stdh, ↓reduceIte, Nat.reduceEqDiff, Int.reduceToNat, Int.reducePow, Nat.reduceAdd, Nat.reduceLeDiff, Nat.reduceMul, Nat.reduceBEq, reduceCtorEq]
  by_cases hr : room < 0
  · have e : room.toNat = 0 := by omega
    rw [e]
    simp (disch := first | omega | (simp only [List.length_append, List.length_cons, List.length_nil, List.length_set, List.length_map, List.length_take, List.length_drop]; omega)) only [stdh, ↓reduceIte, Nat.reduceEqDiff, Int.reduceToNat, Int.reducePow, Nat.reduceAdd, Nat.reduceLeDiff, Nat.reduceMul, Nat.reduceBEq, reduceCtorEq, hr, eqA]
    exact wr_loop _ _ hw hlen (room := 0) (by omega) fin 40 0 _ .nils .nils [] false rfl (by omega) (Sees.nils false) ⟨rfl, Own.nil, by simp, by omega, by simp⟩ rfl (by simp [AVal.names]) (by simp)
  · have e : ((room.toNat : Nat) : Int) = room := by omega
    simp (disch := first | omega | (simp only [List.length_append, List.length_cons, List.length_nil, List.length_set, List.length_map, List.length_take, List.length_drop]; omega)) only [stdh, ↓reduceIte, Nat.reduceEqDiff, Int.reduceToNat, Int.reducePow, Nat.reduceAdd, Nat.reduceLeDiff, Nat.reduceMul, Nat.reduceBEq, reduceCtorEq, hr, eqA]
    have e2 : (ABlk.cells [.nils, .int .i64 room, .bool false] T.cuneiformref02_P) = ABlk.cells [.nils, .int .i64 (room.toNat : Nat), .bool false] T.cuneiformref02_P := by rw [e]
    rw [e2]
    exact wr_loop _ _ hw hlen (room := room.toNat) (by omega) fin 40 0 _ .nils .nils [] false rfl (by omega) (Sees.nils false) ⟨rfl, Own.nil, by simp, by omega, by simp⟩ rfl (by simp [AVal.names]) (by simp)
end Go.Proofs.Ytlkekaepgmnooaa

namespace Go.Proofs.Ytlkekaepgmnooaa.penWrites
open Go Go.Am Go.ChangeShapes Go.WideShapes Go.ChangeAt Go.RowKit
set_option linter.unusedVariables false

theorem own : ownKnob Try.prog.godebug = none := by kernel_rfl
theorem laidOut : laidOutB Try.prog = true := by kernel_rfl

set_option maxRecDepth 100000 in
theorem lifted (os : Os) (started : os.Started) (H : Type) (enc : TypeId × Value → H) :
    ReturnsInHanded {} Try.checked os F.cuneiformlaw02_PenWrites .any (Rows.penWritesSpec.pre6 enc Try.prog Try.f4 Rows.penWritesRow.domain false) (Rows.penWritesSpec.post enc Try.prog Try.f4 false true false false) := by
  refine returnsInHanded_of_change (C := Try.checked) own started (by kernel_rfl) Try.func4
    (ChangeSpec.witness6 (enc := enc) (C := Try.checked) false ⟨#[], #[.int .i64 0, .slice none 0 0], []⟩ 8 (by kernel_rfl) (by kernel_rfl) (by kernel_rfl) (by kernel_rfl)) ?_
  intro W base args ds gs before hval hW hcnd _
  refine law_calls (shs := [.int .i64, .slice shAct]) (tb := 4) laidOut (by kernel_rfl) ?_ (by kernel_rfl) Try.underlying4 rfl ?_ ?_ hval hW
  · intro t ht
    have : ∀ t ∈ Try.f4.params.toList, (Try.prog.readableRec t && decide (t < Try.prog.types.size)) = true := List.all_eq_true.1 (by kernel_rfl)
    simpa using this t ht
  · intro H ds hd
    match ds, hd with
    | [d0, d1], _ => exact ⟨rfl, rfl, rfl⟩
  · rintro xs ⟨a, r, rfl, ⟨s, hs, ws⟩, b, r', rfl, hb, rfl⟩
    cases hs
    have h4 := bounds_i64 ws
    obtain ⟨acts, q1, q2, q3⟩ := acts_fits hb
    exact fun_sees (.cons (.refl _) (.cons q1 .nil)) (penwrites_ok (by omega) (by omega) q2 q3)

theorem proved : Rows.PenWritesSaid :=
  OpenClaim.holds_of_wide F.cuneiformlaw02_PenWrites Try.f4 rfl rfl rfl rfl rfl rfl rfl ⟨rfl, rfl, rfl, rfl, rfl⟩ rfl rfl rfl rfl rfl (by kernel_rfl) Try.func4 (by kernel_rfl)
    (of_decide_eq_true (by kernel_rfl)) (by unfold Func.isWrapper; first | (rw [if_pos (by decide +kernel)]; kernel_rfl) | (rw [if_neg (by decide +kernel)]; exact ⟨rfl, rfl⟩))
    (fun os started H enc _ => lifted os started H enc)
end Go.Proofs.Ytlkekaepgmnooaa.penWrites
