/-
  whatever the room and the writes, the law PenFull returns true, and the input reads as it did. No condition. By an AI agent. No person has read it.
-/
import Derived.Test.YtlkekaepgmnooaaPEN
import Derived.Test.YtlkekaepgmnooaaAm5
import Derived.OpenShut
import Derived.Test.YtlkekaepgmnooaaRows

namespace Go.Proofs.Ytlkekaepgmnooaa
open Go Go.Am
set_option linter.unusedSimpArgs false
set_option linter.unusedVariables false

def cutAct (x : PAct) : PAct := ⟨x.kind, x.n, x.l.take 20, x.s.take 20, x.b.take 400⟩

/-- An act of whatever size. -/
structure PAct.wf (x : PAct) : Prop where
  n : x.n < 4294967296
  l : ∀ y ∈ x.l, y < 18446744073709551616
  s : ∀ z ∈ x.s, inI64 z
  b : ∀ y ∈ x.b, y < 256
  ll : x.l.length ≤ 9223372036854775807
  sl : x.s.length ≤ 9223372036854775807
  bl : x.b.length ≤ 9223372036854775807

theorem cut_wf {x : PAct} (h : x.wf) : (cutAct x).ok 20 400 :=
  ⟨h.n, fun y hy => h.l y (List.mem_of_mem_take hy), fun y hy => h.s y (List.mem_of_mem_take hy), fun y hy => h.b y (List.mem_of_mem_take hy), by simp [cutAct]; omega, by simp [cutAct]; omega, by simp [cutAct]; omega⟩

theorem cut_ok (H : AHeap) {x : PAct} (hx : x.wf) (Q : AVal → AHeap → Prop) (h : Q (.agg (encAct (cutAct x))) H) : FunOK Try.prog F.cuneiformlaw02_cut [.agg (encAct x)] H Q := by
  obtain ⟨k, n, l, s, b⟩ := x
  obtain ⟨hn, hl, hs, hb, hll, hsl, hbl⟩ := hx
  simp only at hn hl hs hb hll hsl hbl
  have m1 : (if (20 : Int) < (l.length : Int) then (20 : Int) else (l.length : Int)) = ((min l.length 20 : Nat) : Int) := by split <;> omega
  have m2 : (if (20 : Int) < (s.length : Int) then (20 : Int) else (s.length : Int)) = ((min s.length 20 : Nat) : Int) := by split <;> omega
  have m3 : (if (400 : Int) < (b.length : Int) then (400 : Int) else (b.length : Int)) = ((min b.length 400 : Nat) : Int) := by split <;> omega
  refine fun_iced cuneiformlaw02_cut_code fun _ => ?_
  refine fun_V 100 cuneiformlaw02_cut_code rfl ?_
  simp (disch := first | omega | (simp only [List.length_append, List.length_cons, List.length_nil, List.length_set, List.length_map, List.length_take, List.length_drop]; omega)) only [stdh, ↓reduceIte, Nat.reduceEqDiff, Int.reduceToNat, Int.reducePow, Nat.reduceAdd, Nat.reduceLeDiff, Nat.reduceMul, Nat.reduceBEq, reduceCtorEq, cuneiformlaw02_cut, cuneiformlaw02_cut.body, cuneiformlaw02_cut.d0, encAct, m1, m2, m3]
  have t1 : l.take (min l.length 20) = l.take 20 := List.take_eq_take_iff.2 (by omega)
  have t2 : s.take (min s.length 20) = s.take 20 := List.take_eq_take_iff.2 (by omega)
  have t3 : b.take (min b.length 400) = b.take 400 := List.take_eq_take_iff.2 (by omega)
  rw [t1, t2, t3]
  exact ice_keeps (keeps_append _ _) ⟨trivial, trivial, closed_nums _ _ _, closed_ints _ _, closed_nums _ _ _, trivial⟩ h

instance : Inhabited PAct := ⟨⟨0, 0, [], [], []⟩⟩
theorem encAct_len (x : PAct) : (encAct x).length = 5 := rfl

theorem known02_ok (H : AHeap) (Q : AVal → AHeap → Prop) (h : Q (.bool true) H) : FunOK Try.prog F.cuneiformlaw02_known [] H Q := fun_reck codes_ok 10000 (.bool true) (by kernel_rfl) rfl rfl H Q h

abbrev fullC : Ctx := ⟨F.cuneiformlaw02_PenFull, 80, [.tmp 4], none⟩

theorem full_loop (K : List AItem) (Q : AVal → AHeap → Prop) {acts : List PAct} (hw : ∀ x ∈ acts, x.wf) (hlen : acts.length ≤ 9223372036854775807) {room : Nat} (hroom : room < 2000)
    (hQ : ∀ r H, Run Try.prog fullC K r H Q) :
    ∀ (m i : Nat) (H : AHeap) (a : AVal) (xs : List Nat) (full : Bool), 40 - i = m → i ≤ 40 → PenAt H 0 a xs room full →
    Rounds Try.prog fullC cuneiformlaw02_PenFull.b0 [.inBlock 0] K [(0, .int .i64 (room : Nat)), (1, recs encAct false acts), (5, .ptr 0 0), (6, .bool full), (7, .int .i64 (i : Nat))] H Q := by
  intro m
  induction m using Nat.strongRecOn with
  | _ m ih =>
    intro i H a xs full h1 h2 hp
    refine loop_V 100 cuneiformlaw02_PenFull.b0.eq_1 ?_
    by_cases hi : i < acts.length
    · by_cases hi2 : i < 40
      · have hld : ∀ H, loadA H (some 5) (.sptr (recs encAct false acts) (i * 5)) = some (True, .agg (encAct (acts.getD i default))) := fun H => load_recs (enc := encAct) (t := false) encAct_len hi
        have hwi : (acts.getD i default).wf := by
          rw [List.getD_eq_getElem?_getD, List.getElem?_eq_getElem hi]; exact hw _ (List.getElem_mem hi)
        generalize acts.getD i default = x at *
        simp (disch := first | omega | (simp only [List.length_append, List.length_cons, List.length_nil, List.length_set, List.length_map, List.length_take, List.length_drop]; omega)) only [stdh, ↓reduceIte, Nat.reduceEqDiff, Int.reduceToNat, Int.reducePow, Nat.reduceAdd, Nat.reduceLeDiff, Nat.reduceMul, Nat.reduceBEq, reduceCtorEq]
        refine callK_fn (pbytes_ok hp _ ?_)
        refine runL_V 60 ?_
        simp (disch := first | omega | (simp only [List.length_append, List.length_cons, List.length_nil, List.length_set, List.length_map, List.length_take, List.length_drop]; omega)) only [stdh, ↓reduceIte, Nat.reduceEqDiff, Int.reduceToNat, Int.reducePow, Nat.reduceAdd, Nat.reduceLeDiff, Nat.reduceMul, Nat.reduceBEq, reduceCtorEq, hld]
        refine callK_fn (cut_ok _ hwi _ ?_)
        refine runL_V 60 ?_
        simp (disch := first | omega | (simp only [List.length_append, List.length_cons, List.length_nil, List.length_set, List.length_map, List.length_take, List.length_drop]; omega)) only [stdh, ↓reduceIte, Nat.reduceEqDiff, Int.reduceToNat, Int.reducePow, Nat.reduceAdd, Nat.reduceLeDiff, Nat.reduceMul, Nat.reduceBEq, reduceCtorEq]
        refine callK_fn (do_ok hp (cut_wf hwi) _ ?_)
        intro a' H' g1 g2 g3
        generalize actBytes (cutAct x) = ys at *
        refine runL_V 60 ?_
        have hxl := hp.le
        by_cases hc : full = true ∨ room < xs.length + ys.length
        · have e1 : rawXs xs room full ys = xs := by unfold rawXs; rw [if_pos hc]
          have e2 : rawFull xs room full ys = true := by unfold rawFull; rcases hc with hc | hc <;> simp [hc]
          have e3 : rawErr xs room full ys = 2 := by unfold rawErr; rw [if_pos hc]
          rw [e1, e2] at g1
          rw [e3]
          simp (disch := first | omega | (simp only [List.length_append, List.length_cons, List.length_nil, List.length_set, List.length_map, List.length_take, List.length_drop]; omega)) only [stdh, ↓reduceIte, Nat.reduceEqDiff, Int.reduceToNat, Int.reducePow, Nat.reduceAdd, Nat.reduceLeDiff, Nat.reduceMul, Nat.reduceBEq, reduceCtorEq]
          refine callK_fn (plen_ok g1 _ ?_)
          refine runL_V 60 ?_
          have hxl2 : ¬ (room : Int) < (xs.length : Nat) := by omega
          simp (disch := first | omega | (simp only [List.length_append, List.length_cons, List.length_nil, List.length_set, List.length_map, List.length_take, List.length_drop]; omega)) only [stdh, ↓reduceIte, Nat.reduceEqDiff, Int.reduceToNat, Int.reducePow, Nat.reduceAdd, Nat.reduceLeDiff, Nat.reduceMul, Nat.reduceBEq, reduceCtorEq, hxl2]
          refine callK_fn (perr_ok g1 _ ?_)
          refine runL_V 60 ?_
          cases full
          all_goals
            simp (disch := first | omega | (simp only [List.length_append, List.length_cons, List.length_nil, List.length_set, List.length_map, List.length_take, List.length_drop]; omega)) only [stdh, ↓reduceIte, Nat.reduceEqDiff, Int.reduceToNat, Int.reducePow, Nat.reduceAdd, Nat.reduceLeDiff, Nat.reduceMul, Nat.reduceBEq, reduceCtorEq]
            refine callK_fn (pbytes_ok g1 _ ?_)
            refine runL_V 60 ?_
            simp (disch := first | omega | (simp only [List.length_append, List.length_cons, List.length_nil, List.length_set, List.length_map, List.length_take, List.length_drop]; omega)) only [stdh, ↓reduceIte, Nat.reduceEqDiff, Int.reduceToNat, Int.reducePow, Nat.reduceAdd, Nat.reduceLeDiff, Nat.reduceMul, Nat.reduceBEq, reduceCtorEq]
            refine callK_fn (same_ok _ (nums_nats _ _ _ _) (nums_nats _ _ _ _) (by omega) _ ?_)
            refine runL_V 60 ?_
            simp (disch := first | omega | (simp only [List.length_append, List.length_cons, List.length_nil, List.length_set, List.length_map, List.length_take, List.length_drop]; omega)) only [stdh, ↓reduceIte, Nat.reduceEqDiff, Int.reduceToNat, Int.reducePow, Nat.reduceAdd, Nat.reduceLeDiff, Nat.reduceMul, Nat.reduceBEq, reduceCtorEq]
            refine callK_fn (pbytes_ok g1 _ ?_)
            refine runL_V 60 ?_
            simp (disch := first | omega | (simp only [List.length_append, List.length_cons, List.length_nil, List.length_set, List.length_map, List.length_take, List.length_drop]; omega)) only [stdh, ↓reduceIte, Nat.reduceEqDiff, Int.reduceToNat, Int.reducePow, Nat.reduceAdd, Nat.reduceLeDiff, Nat.reduceMul, Nat.reduceBEq, reduceCtorEq]
            refine callK_fn (same_ok _ (nums_nats _ _ _ _) (nums_nats _ _ _ _) (by simp; omega) _ ?_)
            refine runL_V 60 ?_
            simp (disch := first | omega | (simp only [List.length_append, List.length_cons, List.length_nil, List.length_set, List.length_map, List.length_take, List.length_drop]; omega)) only [stdh, ↓reduceIte, Nat.reduceEqDiff, Int.reduceToNat, Int.reducePow, Nat.reduceAdd, Nat.reduceLeDiff, Nat.reduceMul, Nat.reduceBEq, reduceCtorEq, List.take_length]
            exact ih (40 - (i + 1)) (by omega) (i + 1) H' a' xs true rfl (by omega) g1
        · have hf : full = false := by cases full <;> simp_all
          subst hf
          have hc' : ¬ room < xs.length + ys.length := fun h => hc (.inr h)
          have e1 : rawXs xs room false ys = xs ++ ys := by unfold rawXs; rw [if_neg hc]
          have e2 : rawFull xs room false ys = false := by unfold rawFull; simp [hc']
          have e3 : rawErr xs room false ys = 0 := by unfold rawErr; rw [if_neg hc]
          rw [e1, e2] at g1
          rw [e3]
          simp (disch := first | omega | (simp only [List.length_append, List.length_cons, List.length_nil, List.length_set, List.length_map, List.length_take, List.length_drop]; omega)) only [stdh, ↓reduceIte, Nat.reduceEqDiff, Int.reduceToNat, Int.reducePow, Nat.reduceAdd, Nat.reduceLeDiff, Nat.reduceMul, Nat.reduceBEq, reduceCtorEq]
          refine callK_fn (plen_ok g1 _ ?_)
          refine runL_V 60 ?_
          have hxl2 : ¬ (room : Int) < ((xs ++ ys).length : Nat) := by rw [List.length_append]; omega
          have hts2 : List.take xs.length (xs ++ ys) = xs := by simp
          simp (disch := first | omega | (simp only [List.length_append, List.length_cons, List.length_nil, List.length_set, List.length_map, List.length_take, List.length_drop]; omega)) only [stdh, ↓reduceIte, Nat.reduceEqDiff, Int.reduceToNat, Int.reducePow, Nat.reduceAdd, Nat.reduceLeDiff, Nat.reduceMul, Nat.reduceBEq, reduceCtorEq, hxl2]
          refine callK_fn (perr_ok g1 _ ?_)
          refine runL_V 60 ?_
          simp (disch := first | omega | (simp only [List.length_append, List.length_cons, List.length_nil, List.length_set, List.length_map, List.length_take, List.length_drop]; omega)) only [stdh, ↓reduceIte, Nat.reduceEqDiff, Int.reduceToNat, Int.reducePow, Nat.reduceAdd, Nat.reduceLeDiff, Nat.reduceMul, Nat.reduceBEq, reduceCtorEq]
          refine callK_fn (pbytes_ok g1 _ ?_)
          refine runL_V 60 ?_
          simp (disch := first | omega | (simp only [List.length_append, List.length_cons, List.length_nil, List.length_set, List.length_map, List.length_take, List.length_drop]; omega)) only [stdh, ↓reduceIte, Nat.reduceEqDiff, Int.reduceToNat, Int.reducePow, Nat.reduceAdd, Nat.reduceLeDiff, Nat.reduceMul, Nat.reduceBEq, reduceCtorEq]
          refine callK_fn (same_ok _ (nums_nats _ _ _ _) (nums_nats _ _ _ _) (by simp; omega) _ ?_)
          refine runL_V 60 ?_
          simp (disch := first | omega | (simp only [List.length_append, List.length_cons, List.length_nil, List.length_set, List.length_map, List.length_take, List.length_drop]; omega)) only [stdh, ↓reduceIte, Nat.reduceEqDiff, Int.reduceToNat, Int.reducePow, Nat.reduceAdd, Nat.reduceLeDiff, Nat.reduceMul, Nat.reduceBEq, reduceCtorEq, hts2]
          exact ih (40 - (i + 1)) (by omega) (i + 1) H' a' (xs ++ ys) false rfl (by omega) g1
      · simp (disch := first | omega | (simp only [List.length_append, List.length_cons, List.length_nil, List.length_set, List.length_map, List.length_take, List.length_drop]; omega)) only [stdh, ↓reduceIte, Nat.reduceEqDiff, Int.reduceToNat, Int.reducePow, Nat.reduceAdd, Nat.reduceLeDiff, Nat.reduceMul, Nat.reduceBEq, reduceCtorEq]
        exact hQ _ _
    · simp (disch := first | omega | (simp only [List.length_append, List.length_cons, List.length_nil, List.length_set, List.length_map, List.length_take, List.length_drop]; omega)) only [stdh, ↓reduceIte, Nat.reduceEqDiff, Int.reduceToNat, Int.reducePow, Nat.reduceAdd, Nat.reduceLeDiff, Nat.reduceMul, Nat.reduceBEq, reduceCtorEq]
      exact hQ _ _
end Go.Proofs.Ytlkekaepgmnooaa

namespace Go.Proofs.Ytlkekaepgmnooaa
open Go Go.Am
set_option linter.unusedSimpArgs false
set_option linter.unusedVariables false

theorem penfull_ok {room : Int} (h0 : -9223372036854775808 ≤ room) (h1 : room < 9223372036854775808) {acts : List PAct} (hw : ∀ x ∈ acts, x.wf) (hlen : acts.length ≤ 9223372036854775807) :
    FunOK Try.prog F.cuneiformlaw02_PenFull [.int .i64 room, recs encAct false acts] [] fun av _ => av = .bool true := by
  refine fun_V 60 cuneiformlaw02_PenFull_code rfl ?_
  have hu : IntKind.u64.wrap room = room % 18446744073709551616 := by rw [wrap_u64']
  have hr0 : 0 ≤ room % 18446744073709551616 := by omega
  have hr : (room % 18446744073709551616).tmod 2000 = (((room % 18446744073709551616 % 2000).toNat : Nat) : Int) := by rw [Int.tmod_eq_emod_of_nonneg hr0]; omega
  have hlt : (room % 18446744073709551616 % 2000).toNat < 2000 := by omega
  simp (disch := first | omega | (simp only [List.length_append, List.length_cons, List.length_nil, List.length_set, List.length_map, List.length_take, List.length_drop]; omega)) only [stdh, ↓reduceIte, Nat.reduceEqDiff, Int.reduceToNat, Int.reducePow, Nat.reduceAdd, Nat.reduceLeDiff, Nat.reduceMul, Nat.reduceBEq, reduceCtorEq, cuneiformlaw02_PenFull, cuneiformlaw02_PenFull.body, hu, hr]
  generalize (room % 18446744073709551616 % 2000).toNat = n at *
  refine callK_fn (pnew_ok _ (by omega) _ ?_)
  refine runL_V 60 ?_
  simp (disch := first | omega | (simp only [List.length_append, List.length_cons, List.length_nil, List.length_set, List.length_map, List.length_take, List.length_drop]; omega)) only [stdh, ↓reduceIte, Nat.reduceEqDiff, Int.reduceToNat, Int.reducePow, Nat.reduceAdd, Nat.reduceLeDiff, Nat.reduceMul, Nat.reduceBEq, reduceCtorEq, eqA]
  refine full_loop _ _ hw hlen hlt ?_ 40 0 _ .nils [] false rfl (by omega) (pnew_at [] (by omega))
  intro r H
  refine run_V0 60 ?_
  simp (disch := first | omega | (simp only [List.length_append, List.length_cons, List.length_nil, List.length_set, List.length_map, List.length_take, List.length_drop]; omega)) only [stdh, ↓reduceIte, Nat.reduceEqDiff, Int.reduceToNat, Int.reducePow, Nat.reduceAdd, Nat.reduceLeDiff, Nat.reduceMul, Nat.reduceBEq, reduceCtorEq]
  refine callK_fn (known02_ok _ _ ?_)
  refine runL_V 60 ?_
  simp (disch := first | omega | (simp only [List.length_append, List.length_cons, List.length_nil, List.length_set, List.length_map, List.length_take, List.length_drop]; omega)) only [stdh, ↓reduceIte, Nat.reduceEqDiff, Int.reduceToNat, Int.reducePow, Nat.reduceAdd, Nat.reduceLeDiff, Nat.reduceMul, Nat.reduceBEq, reduceCtorEq]

def shAct : Sh := .struct [.int .i64, .int .u32, .slice (.int .u64), .slice (.int .i64), .slice (.int .u8)]

theorem ints_fits {a : AVal} (h : Fits (.slice (.int .i64)) [a]) : ∃ zs : List Int, Sees a (ints false zs) ∧ (∀ z ∈ zs, inI64 z) ∧ zs.length ≤ 9223372036854775807 := by
  rcases h with h | ⟨gs, t, hg, h, hl⟩
  · cases h
    exact ⟨[], Sees.nils false, by simp, by simp⟩
  · cases h
    have : ∃ zs : List Int, gs = zs.map (fun z => [AVal.int .i64 z]) ∧ ∀ z ∈ zs, inI64 z := by
      clear hl
      induction gs with
      | nil => exact ⟨[], rfl, by simp⟩
      | cons g gs ih =>
        obtain ⟨zs, rfl, hz⟩ := ih fun x hx => hg x (by simp [hx])
        obtain ⟨z, rfl, hw⟩ := hg g (by simp)
        have hb := bounds_i64 hw
        refine ⟨z :: zs, rfl, fun y hy => ?_⟩
        rcases List.mem_cons.1 hy with rfl | hy
        · exact ⟨by omega, by omega⟩
        · exact hz y hy
    obtain ⟨zs, rfl, hz⟩ := this
    refine ⟨zs, ?_, hz, by simpa using hl⟩
    have e : (zs.map fun z => [AVal.int .i64 z]).flatten = zs.map fun z : Int => AVal.int .i64 z := by
      clear hl hg hz
      induction zs with
      | nil => rfl
      | cons z zs ih => simp only [List.map_cons, List.flatten_cons, ih]; rfl
    rw [e]
    have : ints false zs = .imm (zs.map fun z : Int => AVal.int .i64 z) (zs.map fun z => [AVal.int .i64 z]).length false := by simp [ints]
    rw [this]
    exact Sees.loose _ _ _

theorem slice_one {s : Sh} {l : List AVal} (h : Fits (.slice s) l) : ∃ p : AVal, l = [p] ∧ Fits (.slice s) [p] := by
  rcases h with rfl | ⟨gs, t, hg, rfl, hl⟩
  · exact ⟨_, rfl, .inl rfl⟩
  · exact ⟨_, rfl, .inr ⟨gs, t, hg, rfl, hl⟩⟩

theorem act_fits {g : List AVal} (h : Fits shAct g) : ∃ x : PAct, x.wf ∧ SeesL g (encAct x) := by
  obtain ⟨_, _, rfl, ⟨k, rfl, hk⟩, h⟩ := h
  obtain ⟨_, _, rfl, ⟨n, rfl, hn⟩, h⟩ := h
  obtain ⟨l3, _, rfl, h3, h⟩ := h
  obtain ⟨l4, _, rfl, h4, h⟩ := h
  obtain ⟨l5, _, rfl, h5, h⟩ := h
  have h' : _ = ([] : List AVal) := h
  subst h'
  obtain ⟨a, rfl, ha⟩ := slice_one h3
  obtain ⟨b, rfl, hb⟩ := slice_one h4
  obtain ⟨c, rfl, hc⟩ := slice_one h5
  obtain ⟨l, q1, q2, q3⟩ := nums_fits (k := .u64) rfl (show FitsA (.slice (.int .u64)) a from ha)
  obtain ⟨s, q4, q5, q6⟩ := ints_fits hb
  obtain ⟨by_, q7, q8, q9⟩ := nums_fits (k := .u8) rfl (show FitsA (.slice (.int .u8)) c from hc)
  have hnb := bounds_u32 hn
  obtain ⟨n, rfl⟩ := Int.eq_ofNat_of_zero_le hnb.1
  exact ⟨⟨k, n, l, s, by_⟩, ⟨by simp only; omega, fun y hy => by have := bounds_u64 (q2 y hy); omega, q5, fun y hy => by have := bounds_u8 (q8 y hy); omega, q3, q6, q9⟩,
    SeesL.cons (Sees.refl _) (SeesL.cons (Sees.refl _) (SeesL.cons q1 (SeesL.cons q4 (SeesL.cons q7 SeesL.nil))))⟩

theorem acts_fits {a : AVal} (h : FitsA (.slice shAct) a) : ∃ acts : List PAct, Sees a (recs encAct false acts) ∧ (∀ x ∈ acts, x.wf) ∧ acts.length ≤ 9223372036854775807 := by
  rcases h with h | ⟨gs, t, hg, h, hl⟩
  · cases h
    exact ⟨[], Sees.nils false, by simp, by simp⟩
  · cases h
    have : ∃ acts : List PAct, SeesL gs.flatten (acts.flatMap encAct) ∧ acts.length = gs.length ∧ ∀ x ∈ acts, x.wf := by
      clear hl
      induction gs with
      | nil => exact ⟨[], SeesL.nil, rfl, by simp⟩
      | cons g gs ih =>
        obtain ⟨acts, h1, h2, h3⟩ := ih fun x hx => hg x (by simp [hx])
        obtain ⟨x, hx, hs⟩ := act_fits (hg g (by simp))
        refine ⟨x :: acts, ?_, by simp [h2], fun y hy => ?_⟩
        · rw [List.flatten_cons, List.flatMap_cons]; exact SeesL.append hs h1
        · rcases List.mem_cons.1 hy with rfl | hy
          · exact hx
          · exact h3 y hy
    obtain ⟨acts, h1, h2, h3⟩ := this
    refine ⟨acts, ?_, h3, by omega⟩
    have : recs encAct false acts = .imm (acts.flatMap encAct) gs.length false := by simp [recs, h2]
    rw [this]
    exact (Sees.imm h1 _ _).trans (Sees.loose _ _ _)
end Go.Proofs.Ytlkekaepgmnooaa

namespace Go.Proofs.Ytlkekaepgmnooaa.penFull
open Go Go.Am Go.ChangeShapes Go.WideShapes Go.ChangeAt Go.RowKit
set_option linter.unusedVariables false

theorem own : ownKnob Try.prog.godebug = none := by kernel_rfl
theorem laidOut : laidOutB Try.prog = true := by kernel_rfl

set_option maxRecDepth 100000 in
theorem lifted (os : Os) (started : os.Started) (H : Type) (enc : TypeId × Value → H) :
    ReturnsInHanded {} Try.checked os F.cuneiformlaw02_PenFull .any (Rows.penFullSpec.pre6 enc Try.prog Try.f3 Rows.penFullRow.domain false) (Rows.penFullSpec.post enc Try.prog Try.f3 false true false false) := by
  refine returnsInHanded_of_change (C := Try.checked) own started (by kernel_rfl) Try.func3
    (ChangeSpec.witness6 (enc := enc) (C := Try.checked) false ⟨#[], #[.int .i64 0, .slice none 0 0], []⟩ 8 (by kernel_rfl) (by kernel_rfl) (by kernel_rfl) (by kernel_rfl)) ?_
  intro W base args ds gs before hval hW hcnd _
  refine law_calls (shs := [.int .i64, .slice shAct]) (tb := 4) laidOut (by kernel_rfl) ?_ (by kernel_rfl) Try.underlying4 rfl ?_ ?_ hval hW
  · intro t ht
    have : ∀ t ∈ Try.f3.params.toList, (Try.prog.readableRec t && decide (t < Try.prog.types.size)) = true := List.all_eq_true.1 (by kernel_rfl)
    simpa using this t ht
  · intro H ds hd
    match ds, hd with
    | [d0, d1], _ => exact ⟨rfl, rfl, rfl⟩
  · rintro xs ⟨a, r, rfl, ⟨s, hs, ws⟩, b, r', rfl, hb, rfl⟩
    cases hs
    have h4 := bounds_i64 ws
    obtain ⟨acts, q1, q2, q3⟩ := acts_fits hb
    exact fun_sees (.cons (.refl _) (.cons q1 .nil)) (penfull_ok (by omega) (by omega) q2 q3)

theorem proved : Rows.PenFullSaid :=
  OpenClaim.holds_of_wide F.cuneiformlaw02_PenFull Try.f3 rfl rfl rfl rfl rfl rfl rfl ⟨rfl, rfl, rfl, rfl, rfl⟩ rfl rfl rfl rfl rfl (by kernel_rfl) Try.func3 (by kernel_rfl)
    (of_decide_eq_true (by kernel_rfl)) (by unfold Func.isWrapper; first | (rw [if_pos (by decide +kernel)]; kernel_rfl) | (rw [if_neg (by decide +kernel)]; exact ⟨rfl, rfl⟩))
    (fun os started H enc _ => lifted os started H enc)
end Go.Proofs.Ytlkekaepgmnooaa.penFull
