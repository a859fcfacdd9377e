/-
  whatever the two lists of writes, the law PenJoins returns true, and the input reads as it did. No condition. By an AI agent. No person has read it.
-/
import Derived.Test.YtlkekaepgmnooaaPEN
import Derived.Test.YtlkekaepgmnooaaAm5
import Derived.OpenShut
import Derived.Test.YtlkekaepgmnooaaRows

namespace Go.Proofs.Ytlkekaepgmnooaa
open Go Go.Am
set_option linter.unusedSimpArgs false
set_option linter.unusedVariables false

def cutAct (x : PAct) : PAct := ⟨x.kind, x.n, x.l.take 20, x.s.take 20, x.b.take 400⟩

/-- An act of whatever size. -/
structure PAct.wf (x : PAct) : Prop where
  n : x.n < 4294967296
  l : ∀ y ∈ x.l, y < 18446744073709551616
  s : ∀ z ∈ x.s, inI64 z
  b : ∀ y ∈ x.b, y < 256
  ll : x.l.length ≤ 9223372036854775807
  sl : x.s.length ≤ 9223372036854775807
  bl : x.b.length ≤ 9223372036854775807

theorem cut_wf {x : PAct} (h : x.wf) : (cutAct x).ok 20 400 :=
  ⟨h.n, fun y hy => h.l y (List.mem_of_mem_take hy), fun y hy => h.s y (List.mem_of_mem_take hy), fun y hy => h.b y (List.mem_of_mem_take hy), by simp [cutAct]; omega, by simp [cutAct]; omega, by simp [cutAct]; omega⟩

theorem cut_ok (H : AHeap) {x : PAct} (hx : x.wf) (Q : AVal → AHeap → Prop) (h : Q (.agg (encAct (cutAct x))) H) : FunOK Try.prog F.cuneiformlaw02_cut [.agg (encAct x)] H Q := by
  obtain ⟨k, n, l, s, b⟩ := x
  obtain ⟨hn, hl, hs, hb, hll, hsl, hbl⟩ := hx
  simp only at hn hl hs hb hll hsl hbl
  have m1 : (if (20 : Int) < (l.length : Int) then (20 : Int) else (l.length : Int)) = ((min l.length 20 : Nat) : Int) := by split <;> omega
  have m2 : (if (20 : Int) < (s.length : Int) then (20 : Int) else (s.length : Int)) = ((min s.length 20 : Nat) : Int) := by split <;> omega
  have m3 : (if (400 : Int) < (b.length : Int) then (400 : Int) else (b.length : Int)) = ((min b.length 400 : Nat) : Int) := by split <;> omega
  refine fun_iced cuneiformlaw02_cut_code fun _ => ?_
  refine fun_V 100 cuneiformlaw02_cut_code rfl ?_
  simp (disch := first | omega | (simp only [List.length_append, List.length_cons, List.length_nil, List.length_set, List.length_map, List.length_take, List.length_drop]; omega)) only [stdh, ↓reduceIte, Nat.reduceEqDiff, Int.reduceToNat, Int.reducePow, Nat.reduceAdd, Nat.reduceLeDiff, Nat.reduceMul, Nat.reduceBEq, reduceCtorEq, cuneiformlaw02_cut, cuneiformlaw02_cut.body, cuneiformlaw02_cut.d0, encAct, m1, m2, m3]
  have t1 : l.take (min l.length 20) = l.take 20 := List.take_eq_take_iff.2 (by omega)
  have t2 : s.take (min s.length 20) = s.take 20 := List.take_eq_take_iff.2 (by omega)
  have t3 : b.take (min b.length 400) = b.take 400 := List.take_eq_take_iff.2 (by omega)
  rw [t1, t2, t3]
  exact ice_keeps (keeps_append _ _) ⟨trivial, trivial, closed_nums _ _ _, closed_ints _ _, closed_nums _ _ _, trivial⟩ h

instance : Inhabited PAct := ⟨⟨0, 0, [], [], []⟩⟩
theorem encAct_len (x : PAct) : (encAct x).length = 5 := rfl

theorem known02_ok (H : AHeap) (Q : AVal → AHeap → Prop) (h : Q (.bool true) H) : FunOK Try.prog F.cuneiformlaw02_known [] H Q := fun_reck codes_ok 10000 (.bool true) (by kernel_rfl) rfl rfl H Q h

abbrev fullC : Ctx := ⟨F.cuneiformlaw02_PenFull, 80, [.tmp 4], none⟩

theorem full_loop (K : List AItem) (Q : AVal → AHeap → Prop) {acts : List PAct} (hw : ∀ x ∈ acts, x.wf) (hlen : acts.length ≤ 9223372036854775807) {room : Nat} (hroom : room < 2000)
    (hQ : ∀ r H, Run Try.prog fullC K r H Q) :
    ∀ (m i : Nat) (H : AHeap) (a : AVal) (xs : List Nat) (full : Bool), 40 - i = m → i ≤ 40 → PenAt H 0 a xs room full →
    Rounds Try.prog fullC cuneiformlaw02_PenFull.b0 [.inBlock 0] K [(0, .int .i64 (room : Nat)), (1, recs encAct false acts), (5, .ptr 0 0), (6, .bool full), (7, .int .i64 (i : Nat))] H Q := by
  intro m
  induction m using Nat.strongRecOn with
  | _ m ih =>
    intro i H a xs full h1 h2 hp
    refine loop_V 100 cuneiformlaw02_PenFull.b0.eq_1 ?_
    by_cases hi : i < acts.length
    · by_cases hi2 : i < 40
      · have hld : ∀ H, loadA H (some 5) (.sptr (recs encAct false acts) (i * 5)) = some (True, .agg (encAct (acts.getD i default))) := fun H => load_recs (enc := encAct) (t := false) encAct_len hi
        have hwi : (acts.getD i default).wf := by
          rw [List.getD_eq_getElem?_getD, List.getElem?_eq_getElem hi]; exact hw _ (List.getElem_mem hi)
        generalize acts.getD i default = x at *
        simp (disch := first | omega | (simp only [List.length_append, List.length_cons, List.length_nil, List.length_set, List.length_map, List.length_take, List.length_drop]; omega)) only [stdh, ↓reduceIte, Nat.reduceEqDiff, Int.reduceToNat, Int.reducePow, Nat.reduceAdd, Nat.reduceLeDiff, Nat.reduceMul, Nat.reduceBEq, reduceCtorEq]
        refine callK_fn (pbytes_ok hp _ ?_)
        refine runL_V 60 ?_
        simp (disch := first | omega | (simp only [List.length_append, List.length_cons, List.length_nil, List.length_set, List.length_map, List.length_take, List.length_drop]; omega)) only [stdh, ↓reduceIte, Nat.reduceEqDiff, Int.reduceToNat, Int.reducePow, Nat.reduceAdd, Nat.reduceLeDiff, Nat.reduceMul, Nat.reduceBEq, reduceCtorEq, hld]
        refine callK_fn (cut_ok _ hwi _ ?_)
        refine runL_V 60 ?_
        simp (disch := first | omega | (simp only [List.length_append, List.length_cons, List.length_nil, List.length_set, List.length_map, List.length_take, List.length_drop]; omega)) only [stdh, ↓reduceIte, Nat.reduceEqDiff, Int.reduceToNat, Int.reducePow, Nat.reduceAdd, Nat.reduceLeDiff, Nat.reduceMul, Nat.reduceBEq, reduceCtorEq]
        refine callK_fn (do_ok hp (cut_wf hwi) _ ?_)
        intro a' H' g1 g2 g3
        generalize actBytes (cutAct x) = ys at *
        refine runL_V 60 ?_
        have hxl := hp.le
        by_cases hc : full = true ∨ room < xs.length + ys.length
        · have e1 : rawXs xs room full ys = xs := by unfold rawXs; rw [if_pos hc]
          have e2 : rawFull xs room full ys = true := by unfold rawFull; rcases hc with hc | hc <;> simp [hc]
          have e3 : rawErr xs room full ys = 2 := by unfold rawErr; rw [if_pos hc]
          rw [e1, e2] at g1
          rw [e3]
          simp (disch := first | omega | (simp only [List.length_append, List.length_cons, List.length_nil, List.length_set, List.length_map, List.length_take, List.length_drop]; omega)) only [stdh, ↓reduceIte, Nat.reduceEqDiff, Int.reduceToNat, Int.reducePow, Nat.reduceAdd, Nat.reduceLeDiff, Nat.reduceMul, Nat.reduceBEq, reduceCtorEq]
          refine callK_fn (plen_ok g1 _ ?_)
          refine runL_V 60 ?_
          have hxl2 : ¬ (room : Int) < (xs.length : Nat) := by omega
          simp (disch := first | omega | (simp only [List.length_append, List.length_cons, List.length_nil, List.length_set, List.length_map, List.length_take, List.length_drop]; omega)) only [stdh, ↓reduceIte, Nat.reduceEqDiff, Int.reduceToNat, Int.reducePow, Nat.reduceAdd, Nat.reduceLeDiff, Nat.reduceMul, Nat.reduceBEq, reduceCtorEq, hxl2]
          refine callK_fn (perr_ok g1 _ ?_)
          refine runL_V 60 ?_
          cases full
          all_goals
            simp (disch := first | omega | (simp only [List.length_append, List.length_cons, List.length_nil, List.length_set, List.length_map, List.length_take, List.length_drop]; omega)) only [stdh, ↓reduceIte, Nat.reduceEqDiff, Int.reduceToNat, Int.reducePow, Nat.reduceAdd, Nat.reduceLeDiff, Nat.reduceMul, Nat.reduceBEq, reduceCtorEq]
            refine callK_fn (pbytes_ok g1 _ ?_)
            refine runL_V 60 ?_
            simp (disch := first | omega | (simp only [List.length_append, List.length_cons, List.length_nil, List.length_set, List.length_map, List.length_take, List.length_drop]; omega)) only [stdh, ↓reduceIte, Nat.reduceEqDiff, Int.reduceToNat, Int.reducePow, Nat.reduceAdd, Nat.reduceLeDiff, Nat.reduceMul, Nat.reduceBEq, reduceCtorEq]
            refine callK_fn (same_ok _ (nums_nats _ _ _ _) (nums_nats _ _ _ _) (by omega) _ ?_)
            refine runL_V 60 ?_
            simp (disch := first | omega | (simp only [List.length_append, List.length_cons, List.length_nil, List.length_set, List.length_map, List.length_take, List.length_drop]; omega)) only [stdh, ↓reduceIte, Nat.reduceEqDiff, Int.reduceToNat, Int.reducePow, Nat.reduceAdd, Nat.reduceLeDiff, Nat.reduceMul, Nat.reduceBEq, reduceCtorEq]
            refine callK_fn (pbytes_ok g1 _ ?_)
            refine runL_V 60 ?_
            simp (disch := first | omega | (simp only [List.length_append, List.length_cons, List.length_nil, List.length_set, List.length_map, List.length_take, List.length_drop]; omega)) only [stdh, ↓reduceIte, Nat.reduceEqDiff, Int.reduceToNat, Int.reducePow, Nat.reduceAdd, Nat.reduceLeDiff, Nat.reduceMul, Nat.reduceBEq, reduceCtorEq]
            refine callK_fn (same_ok _ (nums_nats _ _ _ _) (nums_nats _ _ _ _) (by simp; omega) _ ?_)
            refine runL_V 60 ?_
            simp (disch := first | omega | (simp only [List.length_append, List.length_cons, List.length_nil, List.length_set, List.length_map, List.length_take, List.length_drop]; omega)) only [stdh, ↓reduceIte, Nat.reduceEqDiff, Int.reduceToNat, Int.reducePow, Nat.reduceAdd, Nat.reduceLeDiff, Nat.reduceMul, Nat.reduceBEq, reduceCtorEq, List.take_length]
            exact ih (40 - (i + 1)) (by omega) (i + 1) H' a' xs true rfl (by omega) g1
        · have hf : full = false := by cases full <;> simp_all
          subst hf
          have hc' : ¬ room < xs.length + ys.length := fun h => hc (.inr h)
          have e1 : rawXs xs room false ys = xs ++ ys := by unfold rawXs; rw [if_neg hc]
          have e2 : rawFull xs room false ys = false := by unfold rawFull; simp [hc']
          have e3 : rawErr xs room false ys = 0 := by unfold rawErr; rw [if_neg hc]
          rw [e1, e2] at g1
          rw [e3]
          simp (disch := first | omega | (simp only [List.length_append, List.length_cons, List.length_nil, List.length_set, List.length_map, List.length_take, List.length_drop]; omega)) only [stdh, ↓reduceIte, Nat.reduceEqDiff, Int.reduceToNat, Int.reducePow, Nat.reduceAdd, Nat.reduceLeDiff, Nat.reduceMul, Nat.reduceBEq, reduceCtorEq]
          refine callK_fn (plen_ok g1 _ ?_)
          refine runL_V 60 ?_
          have hxl2 : ¬ (room : Int) < ((xs ++ ys).length : Nat) := by rw [List.length_append]; omega
          have hts2 : List.take xs.length (xs ++ ys) = xs := by simp
          simp (disch := first | omega | (simp only [List.length_append, List.length_cons, List.length_nil, List.length_set, List.length_map, List.length_take, List.length_drop]; omega)) only [stdh, ↓reduceIte, Nat.reduceEqDiff, Int.reduceToNat, Int.reducePow, Nat.reduceAdd, Nat.reduceLeDiff, Nat.reduceMul, Nat.reduceBEq, reduceCtorEq, hxl2]
          refine callK_fn (perr_ok g1 _ ?_)
          refine runL_V 60 ?_
          simp (disch := first | omega | (simp only [List.length_append, List.length_cons, List.length_nil, List.length_set, List.length_map, List.length_take, List.length_drop]; omega)) only [stdh, ↓reduceIte, Nat.reduceEqDiff, Int.reduceToNat, Int.reducePow, Nat.reduceAdd, Nat.reduceLeDiff, Nat.reduceMul, Nat.reduceBEq, reduceCtorEq]
          refine callK_fn (pbytes_ok g1 _ ?_)
          refine runL_V 60 ?_
          simp (disch := first | omega | (simp only [List.length_append, List.length_cons, List.length_nil, List.length_set, List.length_map, List.length_take, List.length_drop]; omega)) only [stdh, ↓reduceIte, Nat.reduceEqDiff, Int.reduceToNat, Int.reducePow, Nat.reduceAdd, Nat.reduceLeDiff, Nat.reduceMul, Nat.reduceBEq, reduceCtorEq]
          refine callK_fn (same_ok _ (nums_nats _ _ _ _) (nums_nats _ _ _ _) (by simp; omega) _ ?_)
          refine runL_V 60 ?_
          simp (disch := first | omega | (simp only [List.length_append, List.length_cons, List.length_nil, List.length_set, List.length_map, List.length_take, List.length_drop]; omega)) only [stdh, ↓reduceIte, Nat.reduceEqDiff, Int.reduceToNat, Int.reducePow, Nat.reduceAdd, Nat.reduceLeDiff, Nat.reduceMul, Nat.reduceBEq, reduceCtorEq, hts2]
          exact ih (40 - (i + 1)) (by omega) (i + 1) H' a' (xs ++ ys) false rfl (by omega) g1
      · simp (disch := first | omega | (simp only [List.length_append, List.length_cons, List.length_nil, List.length_set, List.length_map, List.length_take, List.length_drop]; omega)) only [stdh, ↓reduceIte, Nat.reduceEqDiff, Int.reduceToNat, Int.reducePow, Nat.reduceAdd, Nat.reduceLeDiff, Nat.reduceMul, Nat.reduceBEq, reduceCtorEq]
        exact hQ _ _
    · simp (disch := first | omega | (simp only [List.length_append, List.length_cons, List.length_nil, List.length_set, List.length_map, List.length_take, List.length_drop]; omega)) only [stdh, ↓reduceIte, Nat.reduceEqDiff, Int.reduceToNat, Int.reducePow, Nat.reduceAdd, Nat.reduceLeDiff, Nat.reduceMul, Nat.reduceBEq, reduceCtorEq]
      exact hQ _ _
end Go.Proofs.Ytlkekaepgmnooaa

namespace Go.Proofs.Ytlkekaepgmnooaa
open Go Go.Am
set_option linter.unusedSimpArgs false
set_option linter.unusedVariables false

def shAct : Sh := .struct [.int .i64, .int .u32, .slice (.int .u64), .slice (.int .i64), .slice (.int .u8)]

theorem ints_fits {a : AVal} (h : Fits (.slice (.int .i64)) [a]) : ∃ zs : List Int, Sees a (ints false zs) ∧ (∀ z ∈ zs, inI64 z) ∧ zs.length ≤ 9223372036854775807 := by
  rcases h with h | ⟨gs, t, hg, h, hl⟩
  · cases h
    exact ⟨[], Sees.nils false, by simp, by simp⟩
  · cases h
    have : ∃ zs : List Int, gs = zs.map (fun z => [AVal.int .i64 z]) ∧ ∀ z ∈ zs, inI64 z := by
      clear hl
      induction gs with
      | nil => exact ⟨[], rfl, by simp⟩
      | cons g gs ih =>
        obtain ⟨zs, rfl, hz⟩ := ih fun x hx => hg x (by simp [hx])
        obtain ⟨z, rfl, hw⟩ := hg g (by simp)
        have hb := bounds_i64 hw
        refine ⟨z :: zs, rfl, fun y hy => ?_⟩
        rcases List.mem_cons.1 hy with rfl | hy
        · exact ⟨by omega, by omega⟩
        · exact hz y hy
    obtain ⟨zs, rfl, hz⟩ := this
    refine ⟨zs, ?_, hz, by simpa using hl⟩
    have e : (zs.map fun z => [AVal.int .i64 z]).flatten = zs.map fun z : Int => AVal.int .i64 z := by
      clear hl hg hz
      induction zs with
      | nil => rfl
      | cons z zs ih => simp only [List.map_cons, List.flatten_cons, ih]; rfl
    rw [e]
    have : ints false zs = .imm (zs.map fun z : Int => AVal.int .i64 z) (zs.map fun z => [AVal.int .i64 z]).length false := by simp [ints]
    rw [this]
    exact Sees.loose _ _ _

theorem slice_one {s : Sh} {l : List AVal} (h : Fits (.slice s) l) : ∃ p : AVal, l = [p] ∧ Fits (.slice s) [p] := by
  rcases h with rfl | ⟨gs, t, hg, rfl, hl⟩
  · exact ⟨_, rfl, .inl rfl⟩
  · exact ⟨_, rfl, .inr ⟨gs, t, hg, rfl, hl⟩⟩

theorem act_fits {g : List AVal} (h : Fits shAct g) : ∃ x : PAct, x.wf ∧ SeesL g (encAct x) := by
  obtain ⟨_, _, rfl, ⟨k, rfl, hk⟩, h⟩ := h
  obtain ⟨_, _, rfl, ⟨n, rfl, hn⟩, h⟩ := h
  obtain ⟨l3, _, rfl, h3, h⟩ := h
  obtain ⟨l4, _, rfl, h4, h⟩ := h
  obtain ⟨l5, _, rfl, h5, h⟩ := h
  have h' : _ = ([] : List AVal) := h
  subst h'
  obtain ⟨a, rfl, ha⟩ := slice_one h3
  obtain ⟨b, rfl, hb⟩ := slice_one h4
  obtain ⟨c, rfl, hc⟩ := slice_one h5
  obtain ⟨l, q1, q2, q3⟩ := nums_fits (k := .u64) rfl (show FitsA (.slice (.int .u64)) a from ha)
  obtain ⟨s, q4, q5, q6⟩ := ints_fits hb
  obtain ⟨by_, q7, q8, q9⟩ := nums_fits (k := .u8) rfl (show FitsA (.slice (.int .u8)) c from hc)
  have hnb := bounds_u32 hn
  obtain ⟨n, rfl⟩ := Int.eq_ofNat_of_zero_le hnb.1
  exact ⟨⟨k, n, l, s, by_⟩, ⟨by simp only; omega, fun y hy => by have := bounds_u64 (q2 y hy); omega, q5, fun y hy => by have := bounds_u8 (q8 y hy); omega, q3, q6, q9⟩,
    SeesL.cons (Sees.refl _) (SeesL.cons (Sees.refl _) (SeesL.cons q1 (SeesL.cons q4 (SeesL.cons q7 SeesL.nil))))⟩

theorem acts_fits {a : AVal} (h : FitsA (.slice shAct) a) : ∃ acts : List PAct, Sees a (recs encAct false acts) ∧ (∀ x ∈ acts, x.wf) ∧ acts.length ≤ 9223372036854775807 := by
  rcases h with h | ⟨gs, t, hg, h, hl⟩
  · cases h
    exact ⟨[], Sees.nils false, by simp, by simp⟩
  · cases h
    have : ∃ acts : List PAct, SeesL gs.flatten (acts.flatMap encAct) ∧ acts.length = gs.length ∧ ∀ x ∈ acts, x.wf := by
      clear hl
      induction gs with
      | nil => exact ⟨[], SeesL.nil, rfl, by simp⟩
      | cons g gs ih =>
        obtain ⟨acts, h1, h2, h3⟩ := ih fun x hx => hg x (by simp [hx])
        obtain ⟨x, hx, hs⟩ := act_fits (hg g (by simp))
        refine ⟨x :: acts, ?_, by simp [h2], fun y hy => ?_⟩
        · rw [List.flatten_cons, List.flatMap_cons]; exact SeesL.append hs h1
        · rcases List.mem_cons.1 hy with rfl | hy
          · exact hx
          · exact h3 y hy
    obtain ⟨acts, h1, h2, h3⟩ := this
    refine ⟨acts, ?_, h3, by omega⟩
    have : recs encAct false acts = .imm (acts.flatMap encAct) gs.length false := by simp [recs, h2]
    rw [this]
    exact (Sees.imm h1 _ _).trans (Sees.loose _ _ _)
end Go.Proofs.Ytlkekaepgmnooaa

namespace Go.Proofs.Ytlkekaepgmnooaa
open Go Go.Am
set_option linter.unusedSimpArgs false
set_option linter.unusedVariables false

theorem act_len {x : PAct} (h : x.ok 20 400) : (actBytes x).length ≤ 410 := by
  obtain ⟨k, n, l, s, b⟩ := x
  obtain ⟨hn, hl, hs, hb, hll, hsl, hbl⟩ := h
  simp only at hn hl hs hb hll hsl hbl
  have q1 := putAll_len l hl
  have q2 := putAll_len (s.map zig) (fun n hn => by
    obtain ⟨z, hz1, rfl⟩ := List.mem_map.1 hn
    exact zig_lt (hs z hz1).1 (hs z hz1).2)
  have q3 := putAll_len [b.length] (by simp; omega)
  simp only [List.length_map, List.length_cons, List.length_nil] at q2 q3
  simp only [actBytes]
  split
  · rw [wordBytes_len]; omega
  split
  · rw [wordBytes_len]; omega
  split
  · rw [wordBytes_len]; omega
  split
  · omega
  split
  · omega
  split
  · omega
  · rw [List.length_append]; omega

theorem PenAt.lt_ {H : AHeap} {p : Nat} {a : AVal} {xs : List Nat} {room : Nat} {full : Bool} (h : PenAt H p a xs room full) : p < H.length := (List.getElem?_eq_some_iff.1 h.is).1

structure Three (H : AHeap) (a b c : AVal) (xs ys zs : List Nat) : Prop where
  px : PenAt H 0 a xs 20000 false
  py : PenAt H 1 b ys 20000 false
  pz : PenAt H 2 c zs 40000 false
  na : ∀ m ∈ a.names, 3 ≤ m
  nb : ∀ m ∈ b.names, 3 ≤ m
  nc : ∀ m ∈ c.names, 3 ≤ m
  ab : ∀ m ∈ a.names, m ∉ b.names
  ac : ∀ m ∈ a.names, m ∉ c.names
  bc : ∀ m ∈ b.names, m ∉ c.names

section
variable {H H' : AHeap} {a b c a' : AVal} {xs ys zs ws : List Nat}

theorem Three.big (h : Three H a b c xs ys zs) : 2 < H.length := h.pz.lt_

theorem Three.x (h : Three H a b c xs ys zs) (g1 : PenAt H' 0 a' ws 20000 false) (g2 : PenKeeps H 0 a H') (g3 : ∀ m ∈ a'.names, m ∈ a.names ∨ H.length ≤ m) : Three H' a' b c ws ys zs := by
  have hb := h.big
  have lb : ∀ m ∈ b.names, m < H.length := fun m hm => (h.py.own.lt m hm).2
  have lc : ∀ m ∈ c.names, m < H.length := fun m hm => (h.pz.own.lt m hm).2
  refine ⟨g1, h.py.moved (g2.2 1 (by omega) (by omega) (fun hm => by have := h.na 1 hm; omega)) (fun m hm => g2.2 m (lb m hm) (by have := h.nb m hm; omega) (fun hm2 => h.ab m hm2 hm)),
    h.pz.moved (g2.2 2 (by omega) (by omega) (fun hm => by have := h.na 2 hm; omega)) (fun m hm => g2.2 m (lc m hm) (by have := h.nc m hm; omega) (fun hm2 => h.ac m hm2 hm)), ?_, h.nb, h.nc, ?_, ?_, h.bc⟩
  · intro m hm
    rcases g3 m hm with q | q
    · exact h.na m q
    · omega
  · intro m hm hm2
    rcases g3 m hm with q | q
    · exact h.ab m q hm2
    · have := lb m hm2; omega
  · intro m hm hm2
    rcases g3 m hm with q | q
    · exact h.ac m q hm2
    · have := lc m hm2; omega

theorem Three.y (h : Three H a b c xs ys zs) (g1 : PenAt H' 1 a' ws 20000 false) (g2 : PenKeeps H 1 b H') (g3 : ∀ m ∈ a'.names, m ∈ b.names ∨ H.length ≤ m) : Three H' a a' c xs ws zs := by
  have hb := h.big
  have la : ∀ m ∈ a.names, m < H.length := fun m hm => (h.px.own.lt m hm).2
  have lc : ∀ m ∈ c.names, m < H.length := fun m hm => (h.pz.own.lt m hm).2
  refine ⟨h.px.moved (g2.2 0 (by omega) (by omega) (fun hm => by have := h.nb 0 hm; omega)) (fun m hm => g2.2 m (la m hm) (by have := h.na m hm; omega) (fun hm2 => h.ab m hm hm2)), g1,
    h.pz.moved (g2.2 2 (by omega) (by omega) (fun hm => by have := h.nb 2 hm; omega)) (fun m hm => g2.2 m (lc m hm) (by have := h.nc m hm; omega) (fun hm2 => h.bc m hm2 hm)), h.na, ?_, h.nc, ?_, h.ac, ?_⟩
  · intro m hm
    rcases g3 m hm with q | q
    · exact h.nb m q
    · omega
  · intro m hm hm2
    rcases g3 m hm2 with q | q
    · exact h.ab m hm q
    · have := la m hm; omega
  · intro m hm hm2
    rcases g3 m hm with q | q
    · exact h.bc m q hm2
    · have := lc m hm2; omega

theorem Three.z (h : Three H a b c xs ys zs) (g1 : PenAt H' 2 a' ws 40000 false) (g2 : PenKeeps H 2 c H') (g3 : ∀ m ∈ a'.names, m ∈ c.names ∨ H.length ≤ m) : Three H' a b a' xs ys ws := by
  have hb := h.big
  have la : ∀ m ∈ a.names, m < H.length := fun m hm => (h.px.own.lt m hm).2
  have lb : ∀ m ∈ b.names, m < H.length := fun m hm => (h.py.own.lt m hm).2
  refine ⟨h.px.moved (g2.2 0 (by omega) (by omega) (fun hm => by have := h.nc 0 hm; omega)) (fun m hm => g2.2 m (la m hm) (by have := h.na m hm; omega) (fun hm2 => h.ac m hm hm2)),
    h.py.moved (g2.2 1 (by omega) (by omega) (fun hm => by have := h.nc 1 hm; omega)) (fun m hm => g2.2 m (lb m hm) (by have := h.nb m hm; omega) (fun hm2 => h.bc m hm hm2)), g1, h.na, h.nb, ?_, h.ab, ?_, ?_⟩
  · intro m hm
    rcases g3 m hm with q | q
    · exact h.nc m q
    · omega
  · intro m hm hm2
    rcases g3 m hm2 with q | q
    · exact h.ac m hm q
    · have := la m hm; omega
  · intro m hm hm2
    rcases g3 m hm2 with q | q
    · exact h.bc m hm q
    · have := lb m hm; omega

theorem raw_fits {room : Nat} (h : xs.length + ws.length ≤ room) : rawXs xs room false ws = xs ++ ws ∧ rawFull xs room false ws = false := by
  have h1 : ¬ (false = true ∨ room < xs.length + ws.length) := by simp; omega
  have h2 : ¬ room < xs.length + ws.length := by omega
  exact ⟨by unfold rawXs; rw [if_neg h1], by unfold rawFull; simp [h2]⟩
end

abbrev joinC : Ctx := ⟨F.cuneiformlaw02_PenJoins, 108, [.tmp 4], none⟩

theorem join_b0 (K : List AItem) (Q : AVal → AHeap → Prop) {acts : List PAct} (hw : ∀ x ∈ acts, x.wf) (hlen : acts.length ≤ 9223372036854775807) (o : AVal) {ys : List Nat}
    (hQ : ∀ r H a b c xs, rget r 1 = o → rget r 5 = .ptr 0 0 → rget r 6 = .ptr 1 0 → rget r 7 = .ptr 2 0 → Three H a b c xs ys xs → xs.length ≤ 8200 → Run Try.prog joinC K r H Q) :
    ∀ (m i : Nat) (H : AHeap) (a b c : AVal) (xs : List Nat), 20 - i = m → i ≤ 20 → Three H a b c xs ys xs → xs.length ≤ 410 * i →
    Rounds Try.prog joinC cuneiformlaw02_PenJoins.b0 [.inBlock 0] K [(0, recs encAct false acts), (1, o), (5, .ptr 0 0), (6, .ptr 1 0), (7, .ptr 2 0), (8, .int .i64 (i : Nat))] H Q := by
  intro m
  induction m using Nat.strongRecOn with
  | _ m ih =>
    intro i H a b c xs h1 h2 h3 h4
    refine loop_V 100 cuneiformlaw02_PenJoins.b0.eq_1 ?_
    by_cases hi : i < acts.length
    · by_cases hi2 : i < 20
      · have hld : ∀ H, loadA H (some 5) (.sptr (recs encAct false acts) (i * 5)) = some (True, .agg (encAct (acts.getD i default))) := fun H => load_recs (enc := encAct) (t := false) encAct_len hi
        have hwi : (acts.getD i default).wf := by
          rw [List.getD_eq_getElem?_getD, List.getElem?_eq_getElem hi]; exact hw _ (List.getElem_mem hi)
        generalize acts.getD i default = x at *
        have hal := act_len (cut_wf hwi)
        simp (disch := first | omega | (simp only [List.length_append, List.length_cons, List.length_nil, List.length_set, List.length_map, List.length_take, List.length_drop]; omega)) only [stdh, ↓reduceIte, Nat.reduceEqDiff, Int.reduceToNat, Int.reducePow, Nat.reduceAdd, Nat.reduceLeDiff, Nat.reduceMul, Nat.reduceBEq, reduceCtorEq, hld]
        refine callK_fn (cut_ok _ hwi _ ?_)
        refine runL_V 60 ?_
        simp (disch := first | omega | (simp only [List.length_append, List.length_cons, List.length_nil, List.length_set, List.length_map, List.length_take, List.length_drop]; omega)) only [stdh, ↓reduceIte, Nat.reduceEqDiff, Int.reduceToNat, Int.reducePow, Nat.reduceAdd, Nat.reduceLeDiff, Nat.reduceMul, Nat.reduceBEq, reduceCtorEq]
        refine callK_fn (do_ok h3.px (cut_wf hwi) _ ?_)
        intro a' H1 g1 g2 g3
        have q1 := raw_fits (xs := xs) (ws := actBytes (cutAct x)) (room := 20000) (by omega)
        rw [q1.1, q1.2] at g1
        have t1 := h3.x g1 g2 g3
        refine runL_V 60 ?_
        simp (disch := first | omega | (simp only [List.length_append, List.length_cons, List.length_nil, List.length_set, List.length_map, List.length_take, List.length_drop]; omega)) only [stdh, ↓reduceIte, Nat.reduceEqDiff, Int.reduceToNat, Int.reducePow, Nat.reduceAdd, Nat.reduceLeDiff, Nat.reduceMul, Nat.reduceBEq, reduceCtorEq, hld]
        refine callK_fn (cut_ok _ hwi _ ?_)
        refine runL_V 60 ?_
        simp (disch := first | omega | (simp only [List.length_append, List.length_cons, List.length_nil, List.length_set, List.length_map, List.length_take, List.length_drop]; omega)) only [stdh, ↓reduceIte, Nat.reduceEqDiff, Int.reduceToNat, Int.reducePow, Nat.reduceAdd, Nat.reduceLeDiff, Nat.reduceMul, Nat.reduceBEq, reduceCtorEq]
        refine callK_fn (do_ok t1.pz (cut_wf hwi) _ ?_)
        intro c' H2 g4 g5 g6
        have q2 := raw_fits (xs := xs) (ws := actBytes (cutAct x)) (room := 40000) (by omega)
        rw [q2.1, q2.2] at g4
        have t2 := t1.z g4 g5 g6
        refine runL_V 60 ?_
        simp (disch := first | omega | (simp only [List.length_append, List.length_cons, List.length_nil, List.length_set, List.length_map, List.length_take, List.length_drop]; omega)) only [stdh, ↓reduceIte, Nat.reduceEqDiff, Int.reduceToNat, Int.reducePow, Nat.reduceAdd, Nat.reduceLeDiff, Nat.reduceMul, Nat.reduceBEq, reduceCtorEq]
        exact ih (20 - (i + 1)) (by omega) (i + 1) H2 a' b c' _ rfl (by omega) t2 (by rw [List.length_append]; omega)
      · simp (disch := first | omega | (simp only [List.length_append, List.length_cons, List.length_nil, List.length_set, List.length_map, List.length_take, List.length_drop]; omega)) only [stdh, ↓reduceIte, Nat.reduceEqDiff, Int.reduceToNat, Int.reducePow, Nat.reduceAdd, Nat.reduceLeDiff, Nat.reduceMul, Nat.reduceBEq, reduceCtorEq]
        exact hQ _ _ a b c xs rfl rfl rfl rfl h3 (by omega)
    · simp (disch := first | omega | (simp only [List.length_append, List.length_cons, List.length_nil, List.length_set, List.length_map, List.length_take, List.length_drop]; omega)) only [stdh, ↓reduceIte, Nat.reduceEqDiff, Int.reduceToNat, Int.reducePow, Nat.reduceAdd, Nat.reduceLeDiff, Nat.reduceMul, Nat.reduceBEq, reduceCtorEq]
      exact hQ _ _ a b c xs rfl rfl rfl rfl h3 (by omega)

theorem join_b1 (K : List AItem) (Q : AVal → AHeap → Prop) {acts : List PAct} (hw : ∀ x ∈ acts, x.wf) (hlen : acts.length ≤ 9223372036854775807) {xs : List Nat} (hx : xs.length ≤ 8200)
    (hQ : ∀ r H a b c ys, rget r 5 = .ptr 0 0 → rget r 6 = .ptr 1 0 → rget r 7 = .ptr 2 0 → Three H a b c xs ys (xs ++ ys) → ys.length ≤ 8200 → Run Try.prog joinC K r H Q) :
    ∀ (m i : Nat) (H : AHeap) (a b c : AVal) (ys : List Nat), 20 - i = m → i ≤ 20 → Three H a b c xs ys (xs ++ ys) → ys.length ≤ 410 * i →
    Rounds Try.prog joinC cuneiformlaw02_PenJoins.b1 [.inBlock 2] K [(1, recs encAct false acts), (5, .ptr 0 0), (6, .ptr 1 0), (7, .ptr 2 0), (9, .int .i64 (i : Nat))] H Q := by
  intro m
  induction m using Nat.strongRecOn with
  | _ m ih =>
    intro i H a b c ys h1 h2 h3 h4
    refine loop_V 100 cuneiformlaw02_PenJoins.b1.eq_1 ?_
    by_cases hi : i < acts.length
    · by_cases hi2 : i < 20
      · have hld : ∀ H, loadA H (some 5) (.sptr (recs encAct false acts) (i * 5)) = some (True, .agg (encAct (acts.getD i default))) := fun H => load_recs (enc := encAct) (t := false) encAct_len hi
        have hwi : (acts.getD i default).wf := by
          rw [List.getD_eq_getElem?_getD, List.getElem?_eq_getElem hi]; exact hw _ (List.getElem_mem hi)
        generalize acts.getD i default = x at *
        have hal := act_len (cut_wf hwi)
        simp (disch := first | omega | (simp only [List.length_append, List.length_cons, List.length_nil, List.length_set, List.length_map, List.length_take, List.length_drop]; omega)) only [stdh, ↓reduceIte, Nat.reduceEqDiff, Int.reduceToNat, Int.reducePow, Nat.reduceAdd, Nat.reduceLeDiff, Nat.reduceMul, Nat.reduceBEq, reduceCtorEq, hld]
        refine callK_fn (cut_ok _ hwi _ ?_)
        refine runL_V 60 ?_
        simp (disch := first | omega | (simp only [List.length_append, List.length_cons, List.length_nil, List.length_set, List.length_map, List.length_take, List.length_drop]; omega)) only [stdh, ↓reduceIte, Nat.reduceEqDiff, Int.reduceToNat, Int.reducePow, Nat.reduceAdd, Nat.reduceLeDiff, Nat.reduceMul, Nat.reduceBEq, reduceCtorEq]
        refine callK_fn (do_ok h3.py (cut_wf hwi) _ ?_)
        intro b' H1 g1 g2 g3
        have q1 := raw_fits (xs := ys) (ws := actBytes (cutAct x)) (room := 20000) (by omega)
        rw [q1.1, q1.2] at g1
        have t1 := h3.y g1 g2 g3
        refine runL_V 60 ?_
        simp (disch := first | omega | (simp only [List.length_append, List.length_cons, List.length_nil, List.length_set, List.length_map, List.length_take, List.length_drop]; omega)) only [stdh, ↓reduceIte, Nat.reduceEqDiff, Int.reduceToNat, Int.reducePow, Nat.reduceAdd, Nat.reduceLeDiff, Nat.reduceMul, Nat.reduceBEq, reduceCtorEq, hld]
        refine callK_fn (cut_ok _ hwi _ ?_)
        refine runL_V 60 ?_
        simp (disch := first | omega | (simp only [List.length_append, List.length_cons, List.length_nil, List.length_set, List.length_map, List.length_take, List.length_drop]; omega)) only [stdh, ↓reduceIte, Nat.reduceEqDiff, Int.reduceToNat, Int.reducePow, Nat.reduceAdd, Nat.reduceLeDiff, Nat.reduceMul, Nat.reduceBEq, reduceCtorEq]
        refine callK_fn (do_ok t1.pz (cut_wf hwi) _ ?_)
        intro c' H2 g4 g5 g6
        have q2 := raw_fits (xs := xs ++ ys) (ws := actBytes (cutAct x)) (room := 40000) (by rw [List.length_append]; omega)
        rw [q2.1, q2.2, List.append_assoc] at g4
        have t2 := t1.z g4 g5 g6
        refine runL_V 60 ?_
        simp (disch := first | omega | (simp only [List.length_append, List.length_cons, List.length_nil, List.length_set, List.length_map, List.length_take, List.length_drop]; omega)) only [stdh, ↓reduceIte, Nat.reduceEqDiff, Int.reduceToNat, Int.reducePow, Nat.reduceAdd, Nat.reduceLeDiff, Nat.reduceMul, Nat.reduceBEq, reduceCtorEq]
        exact ih (20 - (i + 1)) (by omega) (i + 1) H2 a b' c' _ rfl (by omega) t2 (by rw [List.length_append]; omega)
      · simp (disch := first | omega | (simp only [List.length_append, List.length_cons, List.length_nil, List.length_set, List.length_map, List.length_take, List.length_drop]; omega)) only [stdh, ↓reduceIte, Nat.reduceEqDiff, Int.reduceToNat, Int.reducePow, Nat.reduceAdd, Nat.reduceLeDiff, Nat.reduceMul, Nat.reduceBEq, reduceCtorEq]
        exact hQ _ _ a b c ys rfl rfl rfl h3 (by omega)
    · simp (disch := first | omega | (simp only [List.length_append, List.length_cons, List.length_nil, List.length_set, List.length_map, List.length_take, List.length_drop]; omega)) only [stdh, ↓reduceIte, Nat.reduceEqDiff, Int.reduceToNat, Int.reducePow, Nat.reduceAdd, Nat.reduceLeDiff, Nat.reduceMul, Nat.reduceBEq, reduceCtorEq]
      exact hQ _ _ a b c ys rfl rfl rfl h3 (by omega)

theorem pbytes_own {H : AHeap} {p : Nat} {a : AVal} {xs : List Nat} {room : Nat} {full : Bool} (hp : PenAt H p a xs room full) (Q : AVal → AHeap → Prop) (h : ∀ v H2, Own 1 T.uint8 H.length H2 v xs.length (u8s xs) → Keeps H H2 → Q v H2) : FunOK Try.prog F.pen_Pen_Bytes [.ptr p 0] H Q := by
  have hc := hp.is
  have ho := hp.own
  have hle := hp.le
  have hlt := hp.lt
  refine fun_V 60 pen_Pen_Bytes_code rfl ?_
  simp (disch := first | omega | (simp only [List.length_append, List.length_cons, List.length_nil, List.length_set, List.length_map, List.length_take, List.length_drop]; omega)) only [stdh, ↓reduceIte, Nat.reduceEqDiff, Int.reduceToNat, Int.reducePow, Nat.reduceAdd, Nat.reduceLeDiff, Nat.reduceMul, Nat.reduceBEq, reduceCtorEq, pen_Pen_Bytes, pen_Pen_Bytes.body, eqA, hc]
  refine resK_append (k := xs.length) (ys := u8s xs) (Own.nil (B := H.length)) (Nat.le_refl _) ho.src.1 ho.src.2 (by simp [u8s]) (by omega) (by omega) (by omega) (by simp [u8s, AVal.cellish]) fun v H2 ov ht hn => ?_
  simp (disch := first | omega | (simp only [List.length_append, List.length_cons, List.length_nil, List.length_set, List.length_map, List.length_take, List.length_drop]; omega)) only [stdh, ↓reduceIte, Nat.reduceEqDiff, Int.reduceToNat, Int.reducePow, Nat.reduceAdd, Nat.reduceLeDiff, Nat.reduceMul, Nat.reduceBEq, reduceCtorEq]
  have ov' : Own 1 T.uint8 H.length H2 v xs.length (u8s xs) := by simpa using ov
  exact h v H2 ov' ⟨ht.le, fun m hm => ht.kept m hm (by simp [AVal.names])⟩

theorem pleft_ok {H : AHeap} {p : Nat} {a : AVal} {xs : List Nat} {room : Nat} (hp : PenAt H p a xs room false) (Q : AVal → AHeap → Prop) (h : Q (.int .i64 ((room - xs.length : Nat) : Int)) H) : FunOK Try.prog F.pen_Pen_Left [.ptr p 0] H Q := by
  have hc := hp.is
  have hsl := hp.own.slen
  have hle := hp.le
  have hlt := hp.lt
  refine fun_V 60 pen_Pen_Left_code rfl ?_
  have e : (room : Int) - (xs.length : Nat) = ((room - xs.length : Nat) : Int) := by omega
  simp (disch := first | omega | (simp only [List.length_append, List.length_cons, List.length_nil, List.length_set, List.length_map, List.length_take, List.length_drop]; omega)) only [stdh, ↓reduceIte, Nat.reduceEqDiff, Int.reduceToNat, Int.reducePow, Nat.reduceAdd, Nat.reduceLeDiff, Nat.reduceMul, Nat.reduceBEq, reduceCtorEq, pen_Pen_Left, pen_Pen_Left.body, pen_Pen_Left.d0, eqA, hc, hsl, e]

theorem own_nats {H : AHeap} {B : Nat} {v : AVal} {xs : List Nat} {n : Nat} (h : Own 1 T.uint8 B H v n (u8s xs)) : Nats .u8 H v xs := by
  have hl := h.len
  rw [u8s_len, Nat.mul_one] at hl
  refine ⟨by rw [h.slen, hl], h.view, fun _ _ _ _ he => ?_⟩
  rcases h.is with ⟨rfl, _⟩ | ⟨_, _, rfl, _⟩
  · cases he
  · cases he; rfl

theorem penjoins_ok {as_ bs_ : List PAct} (hwa : ∀ x ∈ as_, x.wf) (hla : as_.length ≤ 9223372036854775807) (hwb : ∀ x ∈ bs_, x.wf) (hlb : bs_.length ≤ 9223372036854775807) :
    FunOK Try.prog F.cuneiformlaw02_PenJoins [recs encAct false as_, recs encAct false bs_] [] fun av _ => av = .bool true := by
  refine fun_V 60 cuneiformlaw02_PenJoins_code rfl ?_
  simp (disch := first | omega | (simp only [List.length_append, List.length_cons, List.length_nil, List.length_set, List.length_map, List.length_take, List.length_drop]; omega)) only [stdh, ↓reduceIte, Nat.reduceEqDiff, Int.reduceToNat, Int.reducePow, Nat.reduceAdd, Nat.reduceLeDiff, Nat.reduceMul, Nat.reduceBEq, reduceCtorEq, cuneiformlaw02_PenJoins, cuneiformlaw02_PenJoins.body]
  refine callK_fn (pnew_ok _ (room := 20000) (by omega) _ ?_)
  refine runL_V 60 ?_
  simp (disch := first | omega | (simp only [List.length_append, List.length_cons, List.length_nil, List.length_set, List.length_map, List.length_take, List.length_drop]; omega)) only [stdh, ↓reduceIte, Nat.reduceEqDiff, Int.reduceToNat, Int.reducePow, Nat.reduceAdd, Nat.reduceLeDiff, Nat.reduceMul, Nat.reduceBEq, reduceCtorEq]
  refine callK_fn (pnew_ok _ (room := 20000) (by omega) _ ?_)
  refine runL_V 60 ?_
  simp (disch := first | omega | (simp only [List.length_append, List.length_cons, List.length_nil, List.length_set, List.length_map, List.length_take, List.length_drop]; omega)) only [stdh, ↓reduceIte, Nat.reduceEqDiff, Int.reduceToNat, Int.reducePow, Nat.reduceAdd, Nat.reduceLeDiff, Nat.reduceMul, Nat.reduceBEq, reduceCtorEq]
  refine callK_fn (pnew_ok _ (room := 40000) (by omega) _ ?_)
  refine runL_V 60 ?_
  simp (disch := first | omega | (simp only [List.length_append, List.length_cons, List.length_nil, List.length_set, List.length_map, List.length_take, List.length_drop]; omega)) only [stdh, ↓reduceIte, Nat.reduceEqDiff, Int.reduceToNat, Int.reducePow, Nat.reduceAdd, Nat.reduceLeDiff, Nat.reduceMul, Nat.reduceBEq, reduceCtorEq, eqA]
  refine join_b0 _ _ hwa hla _ (ys := []) ?_ 20 0 _ .nils .nils .nils [] rfl (by omega) ?_ (by simp)
  · intro r H a b c xs f1 f5 f6 f7 h3 hx
    refine run_V0 60 ?_
    simp (disch := first | omega | (simp only [List.length_append, List.length_cons, List.length_nil, List.length_set, List.length_map, List.length_take, List.length_drop]; omega)) only [stdh, ↓reduceIte, Nat.reduceEqDiff, Int.reduceToNat, Int.reducePow, Nat.reduceAdd, Nat.reduceLeDiff, Nat.reduceMul, Nat.reduceBEq, reduceCtorEq, f1, f5, f6, f7]
    refine join_b1 _ _ hwb hlb hx ?_ 20 0 _ a b c [] rfl (by omega) (by simpa using h3) (by simp)
    clear h3 f1 f5 f6 f7
    intro r H a b c ys f5 f6 f7 h3 hy
    refine run_V0 60 ?_
    simp (disch := first | omega | (simp only [List.length_append, List.length_cons, List.length_nil, List.length_set, List.length_map, List.length_take, List.length_drop]; omega)) only [stdh, ↓reduceIte, Nat.reduceEqDiff, Int.reduceToNat, Int.reducePow, Nat.reduceAdd, Nat.reduceLeDiff, Nat.reduceMul, Nat.reduceBEq, reduceCtorEq, f5, f6, f7]
    refine callK_fn (known02_ok _ _ ?_)
    refine runL_V 60 ?_
    simp (disch := first | omega | (simp only [List.length_append, List.length_cons, List.length_nil, List.length_set, List.length_map, List.length_take, List.length_drop]; omega)) only [stdh, ↓reduceIte, Nat.reduceEqDiff, Int.reduceToNat, Int.reducePow, Nat.reduceAdd, Nat.reduceLeDiff, Nat.reduceMul, Nat.reduceBEq, reduceCtorEq, f5, f6, f7]
    refine callK_fn (perr_ok h3.px _ ?_)
    refine runL_V 60 ?_
    simp (disch := first | omega | (simp only [List.length_append, List.length_cons, List.length_nil, List.length_set, List.length_map, List.length_take, List.length_drop]; omega)) only [stdh, ↓reduceIte, Nat.reduceEqDiff, Int.reduceToNat, Int.reducePow, Nat.reduceAdd, Nat.reduceLeDiff, Nat.reduceMul, Nat.reduceBEq, reduceCtorEq, f5, f6, f7]
    refine callK_fn (perr_ok h3.py _ ?_)
    refine runL_V 60 ?_
    simp (disch := first | omega | (simp only [List.length_append, List.length_cons, List.length_nil, List.length_set, List.length_map, List.length_take, List.length_drop]; omega)) only [stdh, ↓reduceIte, Nat.reduceEqDiff, Int.reduceToNat, Int.reducePow, Nat.reduceAdd, Nat.reduceLeDiff, Nat.reduceMul, Nat.reduceBEq, reduceCtorEq, f5, f6, f7]
    refine callK_fn (perr_ok h3.pz _ ?_)
    refine runL_V 60 ?_
    simp (disch := first | omega | (simp only [List.length_append, List.length_cons, List.length_nil, List.length_set, List.length_map, List.length_take, List.length_drop]; omega)) only [stdh, ↓reduceIte, Nat.reduceEqDiff, Int.reduceToNat, Int.reducePow, Nat.reduceAdd, Nat.reduceLeDiff, Nat.reduceMul, Nat.reduceBEq, reduceCtorEq, f5, f6, f7]
    refine callK_fn (pbytes_ok h3.pz _ ?_)
    refine runL_V 60 ?_
    simp (disch := first | omega | (simp only [List.length_append, List.length_cons, List.length_nil, List.length_set, List.length_map, List.length_take, List.length_drop]; omega)) only [stdh, ↓reduceIte, Nat.reduceEqDiff, Int.reduceToNat, Int.reducePow, Nat.reduceAdd, Nat.reduceLeDiff, Nat.reduceMul, Nat.reduceBEq, reduceCtorEq, f5, f6, f7]
    refine callK_fn (pbytes_own h3.px _ ?_)
    intro v H2 ov hk
    refine runL_V 60 ?_
    simp (disch := first | omega | (simp only [List.length_append, List.length_cons, List.length_nil, List.length_set, List.length_map, List.length_take, List.length_drop]; omega)) only [stdh, ↓reduceIte, Nat.reduceEqDiff, Int.reduceToNat, Int.reducePow, Nat.reduceAdd, Nat.reduceLeDiff, Nat.reduceMul, Nat.reduceBEq, reduceCtorEq, f5, f6, f7]
    have py2 := h3.py.keep hk
    have px2 := h3.px.keep hk
    have pz2 := h3.pz.keep hk
    refine callK_fn (pbytes_ok py2 _ ?_)
    refine runL_V 60 ?_
    simp (disch := first | omega | (simp only [List.length_append, List.length_cons, List.length_nil, List.length_set, List.length_map, List.length_take, List.length_drop]; omega)) only [stdh, ↓reduceIte, Nat.reduceEqDiff, Int.reduceToNat, Int.reducePow, Nat.reduceAdd, Nat.reduceLeDiff, Nat.reduceMul, Nat.reduceBEq, reduceCtorEq, f5, f6, f7]
    refine resK_append (k := ys.length) (ys := u8s ys) ov hk.le (by rfl) (by rfl) (by simp [u8s]) (by omega) (by omega) (by omega) (by simp [u8s, AVal.cellish]) fun w H3 ow ht hn => ?_
    have hk3 : Keeps H H3 := ⟨Nat.le_trans hk.le ht.le, fun m hm => (ht.kept m (Nat.lt_of_lt_of_le hm hk.le) (fun hv => by have := (ov.lt m hv).1; omega)).trans (hk.2 m hm)⟩
    have on : Own 1 T.uint8 H.length H3 w (xs.length + ys.length) (u8s (xs ++ ys)) := by
      have e : u8s (xs ++ ys) = u8s xs ++ u8s ys := by simp [u8s]
      rw [e]; exact ow
    simp (disch := first | omega | (simp only [List.length_append, List.length_cons, List.length_nil, List.length_set, List.length_map, List.length_take, List.length_drop]; omega)) only [stdh, ↓reduceIte, Nat.reduceEqDiff, Int.reduceToNat, Int.reducePow, Nat.reduceAdd, Nat.reduceLeDiff, Nat.reduceMul, Nat.reduceBEq, reduceCtorEq, f5, f6, f7]
    refine callK_fn (same_ok _ (nums_nats _ _ _ _) (own_nats on) (by simp; omega) _ ?_)
    refine runL_V 60 ?_
    simp (disch := first | omega | (simp only [List.length_append, List.length_cons, List.length_nil, List.length_set, List.length_map, List.length_take, List.length_drop]; omega)) only [stdh, ↓reduceIte, Nat.reduceEqDiff, Int.reduceToNat, Int.reducePow, Nat.reduceAdd, Nat.reduceLeDiff, Nat.reduceMul, Nat.reduceBEq, reduceCtorEq, f5, f6, f7]
    refine callK_fn (pleft_ok (h3.pz.keep hk3) _ ?_)
    refine runL_V 60 ?_
    simp (disch := first | omega | (simp only [List.length_append, List.length_cons, List.length_nil, List.length_set, List.length_map, List.length_take, List.length_drop]; omega)) only [stdh, ↓reduceIte, Nat.reduceEqDiff, Int.reduceToNat, Int.reducePow, Nat.reduceAdd, Nat.reduceLeDiff, Nat.reduceMul, Nat.reduceBEq, reduceCtorEq, f5, f6, f7]
    refine callK_fn (plen_ok (h3.px.keep hk3) _ ?_)
    refine runL_V 60 ?_
    simp (disch := first | omega | (simp only [List.length_append, List.length_cons, List.length_nil, List.length_set, List.length_map, List.length_take, List.length_drop]; omega)) only [stdh, ↓reduceIte, Nat.reduceEqDiff, Int.reduceToNat, Int.reducePow, Nat.reduceAdd, Nat.reduceLeDiff, Nat.reduceMul, Nat.reduceBEq, reduceCtorEq, f5, f6, f7]
    refine callK_fn (plen_ok (h3.py.keep hk3) _ ?_)
    refine runL_V 60 ?_
    have e : ((40000 - (xs ++ ys).length : Nat) : Int) = 40000 - (xs.length : Nat) - (ys.length : Nat) := by rw [List.length_append]; omega
    simp (disch := first | omega | (simp only [List.length_append, List.length_cons, List.length_nil, List.length_set, List.length_map, List.length_take, List.length_drop]; omega)) only [stdh, ↓reduceIte, Nat.reduceEqDiff, Int.reduceToNat, Int.reducePow, Nat.reduceAdd, Nat.reduceLeDiff, Nat.reduceMul, Nat.reduceBEq, reduceCtorEq, f5, f6, f7, e]
  · refine ⟨⟨rfl, Own.nil, by simp, by omega⟩, ⟨rfl, Own.nil, by simp, by omega⟩, ⟨rfl, Own.nil, by simp, by omega⟩, ?_, ?_, ?_, ?_, ?_, ?_⟩ <;> simp [AVal.names]
end Go.Proofs.Ytlkekaepgmnooaa

namespace Go.Proofs.Ytlkekaepgmnooaa.penJoins
open Go Go.Am Go.ChangeShapes Go.WideShapes Go.ChangeAt Go.RowKit
set_option linter.unusedVariables false

theorem own : ownKnob Try.prog.godebug = none := by kernel_rfl
theorem laidOut : laidOutB Try.prog = true := by kernel_rfl

set_option maxRecDepth 100000 in
theorem lifted (os : Os) (started : os.Started) (H : Type) (enc : TypeId × Value → H) :
    ReturnsInHanded {} Try.checked os F.cuneiformlaw02_PenJoins .any (Rows.penJoinsSpec.pre6 enc Try.prog Try.f6 Rows.penJoinsRow.domain false) (Rows.penJoinsSpec.post enc Try.prog Try.f6 false true false false) := by
  refine returnsInHanded_of_change (C := Try.checked) own started (by kernel_rfl) Try.func6
    (ChangeSpec.witness6 (enc := enc) (C := Try.checked) false ⟨#[], #[.slice none 0 0, .slice none 0 0], []⟩ 8 (by kernel_rfl) (by kernel_rfl) (by kernel_rfl) (by kernel_rfl)) ?_
  intro W base args ds gs before hval hW hcnd _
  refine law_calls (shs := [.slice shAct, .slice shAct]) (tb := 4) laidOut (by kernel_rfl) ?_ (by kernel_rfl) Try.underlying4 rfl ?_ ?_ hval hW
  · intro t ht
    have : ∀ t ∈ Try.f6.params.toList, (Try.prog.readableRec t && decide (t < Try.prog.types.size)) = true := List.all_eq_true.1 (by kernel_rfl)
    simpa using this t ht
  · intro H ds hd
    match ds, hd with
    | [d0, d1], _ => exact ⟨rfl, rfl, rfl⟩
  · rintro xs ⟨a, r, rfl, ha, b, r', rfl, hb, rfl⟩
    obtain ⟨as_, p1, p2, p3⟩ := acts_fits ha
    obtain ⟨bs_, q1, q2, q3⟩ := acts_fits hb
    exact fun_sees (.cons p1 (.cons q1 .nil)) (penjoins_ok p2 p3 q2 q3)

theorem proved : Rows.PenJoinsSaid :=
  OpenClaim.holds_of_wide F.cuneiformlaw02_PenJoins Try.f6 rfl rfl rfl rfl rfl rfl rfl ⟨rfl, rfl, rfl, rfl, rfl⟩ rfl rfl rfl rfl rfl (by kernel_rfl) Try.func6 (by kernel_rfl)
    (of_decide_eq_true (by kernel_rfl)) (by unfold Func.isWrapper; first | (rw [if_pos (by decide +kernel)]; kernel_rfl) | (rw [if_neg (by decide +kernel)]; exact ⟨rfl, rfl⟩))
    (fun os started H enc _ => lifted os started H enc)
end Go.Proofs.Ytlkekaepgmnooaa.penJoins
