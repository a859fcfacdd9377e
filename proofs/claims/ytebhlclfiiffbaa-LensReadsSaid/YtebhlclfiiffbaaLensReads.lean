/-
  LensReadsSaid: whatever the bytes and the reads, the law LensReads returns true, and the input reads as it did. No condition. By an AI agent. No person has read it.
-/
import Derived.Test.YtebhlclfiiffbaaWORDS
import Derived.Test.YtebhlclfiiffbaaAm6
import Derived.OpenShut
import Derived.Test.YtebhlclfiiffbaaRows

namespace Go.Proofs.Ytebhlclfiiffbaa
open Go Go.Am
set_option linter.unusedSimpArgs false
set_option linter.unusedVariables false

theorem getFrom_lt : ∀ (f i n : Nat) (bs : List Nat), (getFrom f i n bs).2.2 < 1000
  | 0, i, n, bs => by simp [getFrom]
  | f + 1, i, n, [] => by simp [getFrom]
  | f + 1, i, n, b :: rest => by
    rw [getFrom]
    split
    · exact getFrom_lt f _ _ rest
    · split <;> simp
theorem getSpec_lt (bs : List Nat) : (getSpec bs).2.2 < 1000 := getFrom_lt 10 0 0 bs

theorem lensR_bound {α : Type} {d : α} {ys : List Nat} {a e : Nat} {sp : List Nat → Nat × α × Nat} (h1 : ∀ zs, (sp zs).1 ≤ zs.length) (h2 : ∀ zs, (sp zs).2.2 < 1000) (ha : a ≤ ys.length) (he : e < 1000) : (lensR d ys a e sp).2.1 ≤ ys.length ∧ (lensR d ys a e sp).2.2 < 1000 := by
  have h3 := h1 (ys.drop a)
  rw [List.length_drop] at h3
  have h4 := h2 (ys.drop a)
  unfold lensR
  split
  · exact ⟨ha, he⟩
  · split
    · exact ⟨ha, h4⟩
    · exact ⟨by dsimp only; omega, by dsimp only; omega⟩

theorem wordSpec_b (s : Nat) : (∀ zs, (wordSpec s zs).1 ≤ zs.length) ∧ ∀ zs, (wordSpec s zs).2.2 < 1000 := by
  constructor
  · intro zs; unfold wordSpec; split
    · simp
    · dsimp only; omega
  · intro zs; unfold wordSpec; split <;> simp
theorem numSpec_b (m : Nat) : (∀ zs, (numSpec m zs).1 ≤ zs.length) ∧ ∀ zs, (numSpec m zs).2.2 < 1000 := by
  refine ⟨fun zs => numSpec_le, fun zs => ?_⟩
  have := getSpec_lt zs
  unfold numSpec
  split
  · exact this
  · split <;> simp
theorem sgnSpec_b (l h : Int) : (∀ zs, (sgnSpec l h zs).1 ≤ zs.length) ∧ ∀ zs, (sgnSpec l h zs).2.2 < 1000 := by
  refine ⟨fun zs => sgnSpec_le, fun zs => ?_⟩
  have := getSpec_lt zs
  unfold sgnSpec
  split
  · exact this
  · split <;> simp
theorem rawSpec_b (n : Int) : (∀ zs, (rawSpec n zs).1 ≤ zs.length) ∧ ∀ zs, (rawSpec n zs).2.2 < 1000 := by
  refine ⟨fun zs => rawSpec_le.1, fun zs => ?_⟩
  unfold rawSpec
  split
  · simp
  · split <;> simp
theorem fieldSpec_b (n : Int) : (∀ zs, (fieldSpec n zs).1 ≤ zs.length) ∧ ∀ zs, (fieldSpec n zs).2.2 < 1000 := by
  refine ⟨fun zs => fieldSpec_le.1, fun zs => ?_⟩
  have := getSpec_lt zs
  unfold fieldSpec
  split
  · exact this
  · split
    · simp
    · split <;> simp
theorem lensR_len {ys : List Nat} {a e : Nat} {sp : List Nat → Nat × List Nat × Nat} (h : ∀ zs, (sp zs).2.1.length ≤ zs.length) : (lensR [] ys a e sp).1.length ≤ ys.length := by
  have h3 := h (ys.drop a)
  rw [List.length_drop] at h3
  unfold lensR
  split
  · simp
  · split
    · simp
    · dsimp only; omega

structure LAct where
  kind : Int
  n : Int
  most : Nat
  least : Int
  high : Int
instance : Inhabited LAct := ⟨⟨0, 0, 0, 0, 0⟩⟩
def encL (x : LAct) : List AVal := [.int .i64 x.kind, .int .i64 x.n, .int .u64 (x.most : Nat), .int .i64 x.least, .int .i64 x.high]
theorem encL_len (x : LAct) : (encL x).length = 5 := rfl
structure LAct.ok (x : LAct) : Prop where
  n : -9223372036854775808 ≤ x.n ∧ x.n < 9223372036854775808
  m : x.most < 18446744073709551616

abbrev lrC : Ctx := ⟨F.cuneiformlaw03_LensReads, 200, [.tmp 4], none⟩

theorem nils_nats (H : AHeap) : Nats .u8 H .nils [] := ⟨rfl, rfl, fun _ _ _ _ h => by cases h⟩

theorem reads_loop (K : List AItem) (Q : AVal → AHeap → Prop) {ys : List Nat} (hb : ∀ b ∈ ys, b < 256) (hlen : ys.length ≤ 1000) {t : Bool} {xs : List LAct} (hx : ∀ x ∈ xs, x.ok) (hxl : xs.length ≤ 9223372036854775807)
    (hQ : ∀ r' H', Run Try.prog lrC K r' H' Q) :
    ∀ (m i : Nat) (H : AHeap) (a e : Nat), 40 - i = m → i ≤ 40 → a ≤ ys.length → e < 1000 → H[2]? = some (lensB ys a e) → H[5]? = some (.cells [nums .u8 false ys, .int .i64 (a : Nat), .int .i64 (e : Nat)] T.cuneiformref03_L) →
    Rounds Try.prog lrC cuneiformlaw03_LensReads.b1 [.inBlock 2] K [(1, recs encL t xs), (5, .ptr 2 0), (6, .ptr 5 0), (8, .int .i64 (i : Nat))] H Q := by
  intro m
  induction m using Nat.strongRecOn with
  | _ m ih =>
    intro i H a e h1 h2 ha he hp hm
    refine loop_V 300 cuneiformlaw03_LensReads.b1.eq_1 ?_
    by_cases hi : i < xs.length
    · by_cases hi2 : i < 40
      · have hxx : (xs.getD i default).ok := by
          rw [List.getD_eq_getElem?_getD]; simp [hi]; exact hx _ (List.getElem_mem hi)
        have hld : ∀ H, loadA H (some 5) (.sptr (recs encL t xs) (i * 5)) = some (True, .agg (encL (xs.getD i default))) := fun H => load_recs (enc := encL) (t := t) encL_len hi
        have hl5 : 5 < H.length := (List.getElem?_eq_some_iff.1 hm).1
        generalize xs.getD i default = x at *
        obtain ⟨kind, n, most, least, high⟩ := x
        have hn := hxx.n
        have hmo := hxx.m
        dsimp only at hn hmo
        have hp1 : (H ++ [ABlk.cells [.int .i64 kind, .int .i64 n, .int .u64 (most : Nat), .int .i64 least, .int .i64 high] T.cuneiformlaw03_Act])[2]? = some (lensB ys a e) := (at_low (by omega)).trans hp
        have hm1 : (H ++ [ABlk.cells [.int .i64 kind, .int .i64 n, .int .u64 (most : Nat), .int .i64 least, .int .i64 high] T.cuneiformlaw03_Act])[5]? = some (.cells [nums .u8 false ys, .int .i64 (a : Nat), .int .i64 (e : Nat)] T.cuneiformref03_L) := (at_low hl5).trans hm
        have hq1 : (H ++ [ABlk.cells [.int .i64 kind, .int .i64 n, .int .u64 (most : Nat), .int .i64 least, .int .i64 high] T.cuneiformlaw03_Act])[H.length]? = some (.cells [.int .i64 kind, .int .i64 n, .int .u64 (most : Nat), .int .i64 least, .int .i64 high] T.cuneiformlaw03_Act) := at_0
        have hl1 : (H ++ [ABlk.cells [.int .i64 kind, .int .i64 n, .int .u64 (most : Nat), .int .i64 least, .int .i64 high] T.cuneiformlaw03_Act]).length = H.length + 1 := by simp
        have hfin : ∀ (G : AHeap) (a2 e2 : Nat), a2 ≤ ys.length → e2 < 1000 → G[2]? = some (lensB ys a2 e2) → G[5]? = some (.cells [nums .u8 false ys, .int .i64 (a2 : Nat), .int .i64 (e2 : Nat)] T.cuneiformref03_L) →
            Rounds Try.prog lrC cuneiformlaw03_LensReads.b1 [.inBlock 2] K [(1, recs encL t xs), (5, .ptr 2 0), (6, .ptr 5 0), (8, .int .i64 ((i : Int) + 1))] G Q := fun G a2 e2 q1 q2 q3 q4 => by
          rw [show (i : Int) + 1 = ((i + 1 : Nat) : Int) by omega]
          exact ih (40 - (i + 1)) (by omega) (i + 1) G a2 e2 rfl (by omega) q1 q2 q3 q4
        by_cases c0 : kind = 0
        · have hbd := lensR_bound (d := 0) (ys := ys) (a := a) (e := e) (wordSpec_b 1).1 (wordSpec_b 1).2 ha he
          have hvl := lensWord_lt (ys := ys) (a := a) (e := e) (s := 1) (by omega) hb
          simp (disch := first | omega | (simp only [List.length_append, List.length_cons, List.length_nil, List.length_set, List.length_map, List.length_take, List.length_drop]; omega)) only [stdh, goK_s2b, dgoK_s2b, isEff_s2b, isPure_s2b, goK_b2s, dgoK_b2s, isEff_b2s, isPure_b2s, evalOp_s2b, s2bR, goK_mark, dgoK_mark, isEff_mark, isPure_mark, evalOp_mark, markA_slc, markB, ↓reduceIte, Nat.reduceEqDiff, Int.reduceToNat, Int.reducePow, Nat.reduceAdd, Nat.reduceLeDiff, Nat.reduceMul, Nat.reduceBEq, reduceCtorEq, hld, encL, at_0, set_0, at_low, hm, List.set_cons_zero, List.set_cons_succ, decide_eq_true c0]
          generalize H ++ [ABlk.cells [.int .i64 kind, .int .i64 n, .int .u64 (most : Nat), .int .i64 least, .int .i64 high] T.cuneiformlaw03_Act] = H1 at *
          refine callK_fn (lu8_ok _ hp1 ha hb (by omega) _ ?_)
          have href := fun (H2 : AHeap) => rword_ok (s := 1) H2 hb (show ys.length ≤ 1000000 by omega) (by omega) ha he
          generalize lensR 0 ys a e (wordSpec 1) = R at *
          obtain ⟨v, a2, e2⟩ := R
          dsimp only at hbd href hvl ⊢
          obtain ⟨hb1, hb2⟩ := hbd
          have hp2 : (H1.set 2 (lensB ys a2 e2))[2]? = some (lensB ys a2 e2) := List.getElem?_set_self (by omega)
          have hm2 : (H1.set 2 (lensB ys a2 e2))[5]? = some (.cells [nums .u8 false ys, .int .i64 (a : Nat), .int .i64 (e : Nat)] T.cuneiformref03_L) := by rw [List.getElem?_set_ne (by omega)]; exact hm1
          have hq2 : (H1.set 2 (lensB ys a2 e2))[H.length]? = some (.cells [.int .i64 kind, .int .i64 n, .int .u64 (most : Nat), .int .i64 least, .int .i64 high] T.cuneiformlaw03_Act) := by rw [List.getElem?_set_ne (by omega)]; exact hq1
          have hl2 : (H1.set 2 (lensB ys a2 e2)).length = H1.length := by simp
          generalize H1.set 2 (lensB ys a2 e2) = H2 at *
          refine runL_V 100 ?_
          simp (disch := first | omega | (simp only [List.length_append, List.length_cons, List.length_nil, List.length_set, List.length_map, List.length_take, List.length_drop]; omega)) only [stdh, goK_s2b, dgoK_s2b, isEff_s2b, isPure_s2b, goK_b2s, dgoK_b2s, isEff_b2s, isPure_b2s, evalOp_s2b, s2bR, goK_mark, dgoK_mark, isEff_mark, isPure_mark, evalOp_mark, markA_slc, markB, ↓reduceIte, Nat.reduceEqDiff, Int.reduceToNat, Int.reducePow, Nat.reduceAdd, Nat.reduceLeDiff, Nat.reduceMul, Nat.reduceBEq, reduceCtorEq, hm2, hq2]
          refine callK_fn (href _ _ ?_)
          refine runL_V 100 ?_
          simp (disch := first | omega | (simp only [List.length_append, List.length_cons, List.length_nil, List.length_set, List.length_map, List.length_take, List.length_drop]; omega)) only [stdh, goK_s2b, dgoK_s2b, isEff_s2b, isPure_s2b, goK_b2s, dgoK_b2s, isEff_b2s, isPure_b2s, evalOp_s2b, s2bR, goK_mark, dgoK_mark, isEff_mark, isPure_mark, evalOp_mark, markA_slc, markB, ↓reduceIte, Nat.reduceEqDiff, Int.reduceToNat, Int.reducePow, Nat.reduceAdd, Nat.reduceLeDiff, Nat.reduceMul, Nat.reduceBEq, reduceCtorEq, hm2, hq2, mL]
          have hp3 : (H2.set 5 (.cells [nums .u8 false ys, .int .i64 (a2 : Nat), .int .i64 (e2 : Nat)] T.cuneiformref03_L))[2]? = some (lensB ys a2 e2) := by rw [List.getElem?_set_ne (by omega)]; exact hp2
          have hm3 : (H2.set 5 (.cells [nums .u8 false ys, .int .i64 (a2 : Nat), .int .i64 (e2 : Nat)] T.cuneiformref03_L))[5]? = some (.cells [nums .u8 false ys, .int .i64 (a2 : Nat), .int .i64 (e2 : Nat)] T.cuneiformref03_L) := List.getElem?_set_self (by omega)
          generalize H2.set 5 (.cells [nums .u8 false ys, .int .i64 (a2 : Nat), .int .i64 (e2 : Nat)] T.cuneiformref03_L) = H3 at *
          refine callK_fn (same_ok _ (nils_nats _) (nils_nats _) (by simp) _ ?_)
          rw [show decide (([] : List Nat) = []) = true from rfl]
          refine runL_V 100 ?_
          simp (disch := first | omega | (simp only [List.length_append, List.length_cons, List.length_nil, List.length_set, List.length_map, List.length_take, List.length_drop]; omega)) only [stdh, goK_s2b, dgoK_s2b, isEff_s2b, isPure_s2b, goK_b2s, dgoK_b2s, isEff_b2s, isPure_b2s, evalOp_s2b, s2bR, goK_mark, dgoK_mark, isEff_mark, isPure_mark, evalOp_mark, markA_slc, markB, ↓reduceIte, Nat.reduceEqDiff, Int.reduceToNat, Int.reducePow, Nat.reduceAdd, Nat.reduceLeDiff, Nat.reduceMul, Nat.reduceBEq, reduceCtorEq, hm3]
          refine callK_fn (lalike_ok _ hp3 hb1 (by omega) hb2 _ ?_)
          refine runL_V 100 ?_
          simp (disch := first | omega | (simp only [List.length_append, List.length_cons, List.length_nil, List.length_set, List.length_map, List.length_take, List.length_drop]; omega)) only [stdh, goK_s2b, dgoK_s2b, isEff_s2b, isPure_s2b, goK_b2s, dgoK_b2s, isEff_b2s, isPure_b2s, evalOp_s2b, s2bR, goK_mark, dgoK_mark, isEff_mark, isPure_mark, evalOp_mark, markA_slc, markB, ↓reduceIte, Nat.reduceEqDiff, Int.reduceToNat, Int.reducePow, Nat.reduceAdd, Nat.reduceLeDiff, Nat.reduceMul, Nat.reduceBEq, reduceCtorEq]
          exact hfin H3 a2 e2 hb1 hb2 hp3 hm3
        by_cases c1 : kind = 1
        · have hbd := lensR_bound (d := 0) (ys := ys) (a := a) (e := e) (wordSpec_b 2).1 (wordSpec_b 2).2 ha he
          have hvl := lensWord_lt (ys := ys) (a := a) (e := e) (s := 2) (by omega) hb
          simp (disch := first | omega | (simp only [List.length_append, List.length_cons, List.length_nil, List.length_set, List.length_map, List.length_take, List.length_drop]; omega)) only [stdh, goK_s2b, dgoK_s2b, isEff_s2b, isPure_s2b, goK_b2s, dgoK_b2s, isEff_b2s, isPure_b2s, evalOp_s2b, s2bR, goK_mark, dgoK_mark, isEff_mark, isPure_mark, evalOp_mark, markA_slc, markB, ↓reduceIte, Nat.reduceEqDiff, Int.reduceToNat, Int.reducePow, Nat.reduceAdd, Nat.reduceLeDiff, Nat.reduceMul, Nat.reduceBEq, reduceCtorEq, hld, encL, at_0, set_0, at_low, hm, List.set_cons_zero, List.set_cons_succ, decide_eq_false c0, decide_eq_true c1]
          generalize H ++ [ABlk.cells [.int .i64 kind, .int .i64 n, .int .u64 (most : Nat), .int .i64 least, .int .i64 high] T.cuneiformlaw03_Act] = H1 at *
          refine callK_fn (lu16_ok _ hp1 ha hb (by omega) _ ?_)
          have href := fun (H2 : AHeap) => rword_ok (s := 2) H2 hb (show ys.length ≤ 1000000 by omega) (by omega) ha he
          generalize lensR 0 ys a e (wordSpec 2) = R at *
          obtain ⟨v, a2, e2⟩ := R
          dsimp only at hbd href hvl ⊢
          obtain ⟨hb1, hb2⟩ := hbd
          have hp2 : (H1.set 2 (lensB ys a2 e2))[2]? = some (lensB ys a2 e2) := List.getElem?_set_self (by omega)
          have hm2 : (H1.set 2 (lensB ys a2 e2))[5]? = some (.cells [nums .u8 false ys, .int .i64 (a : Nat), .int .i64 (e : Nat)] T.cuneiformref03_L) := by rw [List.getElem?_set_ne (by omega)]; exact hm1
          have hq2 : (H1.set 2 (lensB ys a2 e2))[H.length]? = some (.cells [.int .i64 kind, .int .i64 n, .int .u64 (most : Nat), .int .i64 least, .int .i64 high] T.cuneiformlaw03_Act) := by rw [List.getElem?_set_ne (by omega)]; exact hq1
          have hl2 : (H1.set 2 (lensB ys a2 e2)).length = H1.length := by simp
          generalize H1.set 2 (lensB ys a2 e2) = H2 at *
          refine runL_V 100 ?_
          simp (disch := first | omega | (simp only [List.length_append, List.length_cons, List.length_nil, List.length_set, List.length_map, List.length_take, List.length_drop]; omega)) only [stdh, goK_s2b, dgoK_s2b, isEff_s2b, isPure_s2b, goK_b2s, dgoK_b2s, isEff_b2s, isPure_b2s, evalOp_s2b, s2bR, goK_mark, dgoK_mark, isEff_mark, isPure_mark, evalOp_mark, markA_slc, markB, ↓reduceIte, Nat.reduceEqDiff, Int.reduceToNat, Int.reducePow, Nat.reduceAdd, Nat.reduceLeDiff, Nat.reduceMul, Nat.reduceBEq, reduceCtorEq, hm2, hq2]
          refine callK_fn (href _ _ ?_)
          refine runL_V 100 ?_
          simp (disch := first | omega | (simp only [List.length_append, List.length_cons, List.length_nil, List.length_set, List.length_map, List.length_take, List.length_drop]; omega)) only [stdh, goK_s2b, dgoK_s2b, isEff_s2b, isPure_s2b, goK_b2s, dgoK_b2s, isEff_b2s, isPure_b2s, evalOp_s2b, s2bR, goK_mark, dgoK_mark, isEff_mark, isPure_mark, evalOp_mark, markA_slc, markB, ↓reduceIte, Nat.reduceEqDiff, Int.reduceToNat, Int.reducePow, Nat.reduceAdd, Nat.reduceLeDiff, Nat.reduceMul, Nat.reduceBEq, reduceCtorEq, hm2, hq2, mL]
          have hp3 : (H2.set 5 (.cells [nums .u8 false ys, .int .i64 (a2 : Nat), .int .i64 (e2 : Nat)] T.cuneiformref03_L))[2]? = some (lensB ys a2 e2) := by rw [List.getElem?_set_ne (by omega)]; exact hp2
          have hm3 : (H2.set 5 (.cells [nums .u8 false ys, .int .i64 (a2 : Nat), .int .i64 (e2 : Nat)] T.cuneiformref03_L))[5]? = some (.cells [nums .u8 false ys, .int .i64 (a2 : Nat), .int .i64 (e2 : Nat)] T.cuneiformref03_L) := List.getElem?_set_self (by omega)
          generalize H2.set 5 (.cells [nums .u8 false ys, .int .i64 (a2 : Nat), .int .i64 (e2 : Nat)] T.cuneiformref03_L) = H3 at *
          refine callK_fn (same_ok _ (nils_nats _) (nils_nats _) (by simp) _ ?_)
          rw [show decide (([] : List Nat) = []) = true from rfl]
          refine runL_V 100 ?_
          simp (disch := first | omega | (simp only [List.length_append, List.length_cons, List.length_nil, List.length_set, List.length_map, List.length_take, List.length_drop]; omega)) only [stdh, goK_s2b, dgoK_s2b, isEff_s2b, isPure_s2b, goK_b2s, dgoK_b2s, isEff_b2s, isPure_b2s, evalOp_s2b, s2bR, goK_mark, dgoK_mark, isEff_mark, isPure_mark, evalOp_mark, markA_slc, markB, ↓reduceIte, Nat.reduceEqDiff, Int.reduceToNat, Int.reducePow, Nat.reduceAdd, Nat.reduceLeDiff, Nat.reduceMul, Nat.reduceBEq, reduceCtorEq, hm3]
          refine callK_fn (lalike_ok _ hp3 hb1 (by omega) hb2 _ ?_)
          refine runL_V 100 ?_
          simp (disch := first | omega | (simp only [List.length_append, List.length_cons, List.length_nil, List.length_set, List.length_map, List.length_take, List.length_drop]; omega)) only [stdh, goK_s2b, dgoK_s2b, isEff_s2b, isPure_s2b, goK_b2s, dgoK_b2s, isEff_b2s, isPure_b2s, evalOp_s2b, s2bR, goK_mark, dgoK_mark, isEff_mark, isPure_mark, evalOp_mark, markA_slc, markB, ↓reduceIte, Nat.reduceEqDiff, Int.reduceToNat, Int.reducePow, Nat.reduceAdd, Nat.reduceLeDiff, Nat.reduceMul, Nat.reduceBEq, reduceCtorEq]
          exact hfin H3 a2 e2 hb1 hb2 hp3 hm3
        by_cases c2 : kind = 2
        · have hbd := lensR_bound (d := 0) (ys := ys) (a := a) (e := e) (wordSpec_b 4).1 (wordSpec_b 4).2 ha he
          have hvl := lensWord_lt (ys := ys) (a := a) (e := e) (s := 4) (by omega) hb
          simp (disch := first | omega | (simp only [List.length_append, List.length_cons, List.length_nil, List.length_set, List.length_map, List.length_take, List.length_drop]; omega)) only [stdh, goK_s2b, dgoK_s2b, isEff_s2b, isPure_s2b, goK_b2s, dgoK_b2s, isEff_b2s, isPure_b2s, evalOp_s2b, s2bR, goK_mark, dgoK_mark, isEff_mark, isPure_mark, evalOp_mark, markA_slc, markB, ↓reduceIte, Nat.reduceEqDiff, Int.reduceToNat, Int.reducePow, Nat.reduceAdd, Nat.reduceLeDiff, Nat.reduceMul, Nat.reduceBEq, reduceCtorEq, hld, encL, at_0, set_0, at_low, hm, List.set_cons_zero, List.set_cons_succ, decide_eq_false c0, decide_eq_false c1, decide_eq_true c2]
          generalize H ++ [ABlk.cells [.int .i64 kind, .int .i64 n, .int .u64 (most : Nat), .int .i64 least, .int .i64 high] T.cuneiformlaw03_Act] = H1 at *
          refine callK_fn (lu32_ok _ hp1 ha hb (by omega) _ ?_)
          have href := fun (H2 : AHeap) => rword_ok (s := 4) H2 hb (show ys.length ≤ 1000000 by omega) (by omega) ha he
          generalize lensR 0 ys a e (wordSpec 4) = R at *
          obtain ⟨v, a2, e2⟩ := R
          dsimp only at hbd href hvl ⊢
          obtain ⟨hb1, hb2⟩ := hbd
          have hp2 : (H1.set 2 (lensB ys a2 e2))[2]? = some (lensB ys a2 e2) := List.getElem?_set_self (by omega)
          have hm2 : (H1.set 2 (lensB ys a2 e2))[5]? = some (.cells [nums .u8 false ys, .int .i64 (a : Nat), .int .i64 (e : Nat)] T.cuneiformref03_L) := by rw [List.getElem?_set_ne (by omega)]; exact hm1
          have hq2 : (H1.set 2 (lensB ys a2 e2))[H.length]? = some (.cells [.int .i64 kind, .int .i64 n, .int .u64 (most : Nat), .int .i64 least, .int .i64 high] T.cuneiformlaw03_Act) := by rw [List.getElem?_set_ne (by omega)]; exact hq1
          have hl2 : (H1.set 2 (lensB ys a2 e2)).length = H1.length := by simp
          generalize H1.set 2 (lensB ys a2 e2) = H2 at *
          refine runL_V 100 ?_
          simp (disch := first | omega | (simp only [List.length_append, List.length_cons, List.length_nil, List.length_set, List.length_map, List.length_take, List.length_drop]; omega)) only [stdh, goK_s2b, dgoK_s2b, isEff_s2b, isPure_s2b, goK_b2s, dgoK_b2s, isEff_b2s, isPure_b2s, evalOp_s2b, s2bR, goK_mark, dgoK_mark, isEff_mark, isPure_mark, evalOp_mark, markA_slc, markB, ↓reduceIte, Nat.reduceEqDiff, Int.reduceToNat, Int.reducePow, Nat.reduceAdd, Nat.reduceLeDiff, Nat.reduceMul, Nat.reduceBEq, reduceCtorEq, hm2, hq2]
          refine callK_fn (href _ _ ?_)
          refine runL_V 100 ?_
          simp (disch := first | omega | (simp only [List.length_append, List.length_cons, List.length_nil, List.length_set, List.length_map, List.length_take, List.length_drop]; omega)) only [stdh, goK_s2b, dgoK_s2b, isEff_s2b, isPure_s2b, goK_b2s, dgoK_b2s, isEff_b2s, isPure_b2s, evalOp_s2b, s2bR, goK_mark, dgoK_mark, isEff_mark, isPure_mark, evalOp_mark, markA_slc, markB, ↓reduceIte, Nat.reduceEqDiff, Int.reduceToNat, Int.reducePow, Nat.reduceAdd, Nat.reduceLeDiff, Nat.reduceMul, Nat.reduceBEq, reduceCtorEq, hm2, hq2, mL]
          have hp3 : (H2.set 5 (.cells [nums .u8 false ys, .int .i64 (a2 : Nat), .int .i64 (e2 : Nat)] T.cuneiformref03_L))[2]? = some (lensB ys a2 e2) := by rw [List.getElem?_set_ne (by omega)]; exact hp2
          have hm3 : (H2.set 5 (.cells [nums .u8 false ys, .int .i64 (a2 : Nat), .int .i64 (e2 : Nat)] T.cuneiformref03_L))[5]? = some (.cells [nums .u8 false ys, .int .i64 (a2 : Nat), .int .i64 (e2 : Nat)] T.cuneiformref03_L) := List.getElem?_set_self (by omega)
          generalize H2.set 5 (.cells [nums .u8 false ys, .int .i64 (a2 : Nat), .int .i64 (e2 : Nat)] T.cuneiformref03_L) = H3 at *
          refine callK_fn (same_ok _ (nils_nats _) (nils_nats _) (by simp) _ ?_)
          rw [show decide (([] : List Nat) = []) = true from rfl]
          refine runL_V 100 ?_
          simp (disch := first | omega | (simp only [List.length_append, List.length_cons, List.length_nil, List.length_set, List.length_map, List.length_take, List.length_drop]; omega)) only [stdh, goK_s2b, dgoK_s2b, isEff_s2b, isPure_s2b, goK_b2s, dgoK_b2s, isEff_b2s, isPure_b2s, evalOp_s2b, s2bR, goK_mark, dgoK_mark, isEff_mark, isPure_mark, evalOp_mark, markA_slc, markB, ↓reduceIte, Nat.reduceEqDiff, Int.reduceToNat, Int.reducePow, Nat.reduceAdd, Nat.reduceLeDiff, Nat.reduceMul, Nat.reduceBEq, reduceCtorEq, hm3]
          refine callK_fn (lalike_ok _ hp3 hb1 (by omega) hb2 _ ?_)
          refine runL_V 100 ?_
          simp (disch := first | omega | (simp only [List.length_append, List.length_cons, List.length_nil, List.length_set, List.length_map, List.length_take, List.length_drop]; omega)) only [stdh, goK_s2b, dgoK_s2b, isEff_s2b, isPure_s2b, goK_b2s, dgoK_b2s, isEff_b2s, isPure_b2s, evalOp_s2b, s2bR, goK_mark, dgoK_mark, isEff_mark, isPure_mark, evalOp_mark, markA_slc, markB, ↓reduceIte, Nat.reduceEqDiff, Int.reduceToNat, Int.reducePow, Nat.reduceAdd, Nat.reduceLeDiff, Nat.reduceMul, Nat.reduceBEq, reduceCtorEq]
          exact hfin H3 a2 e2 hb1 hb2 hp3 hm3
        by_cases c3 : kind = 3
        · have hbd := lensR_bound (d := 0) (ys := ys) (a := a) (e := e) (numSpec_b most).1 (numSpec_b most).2 ha he
          simp (disch := first | omega | (simp only [List.length_append, List.length_cons, List.length_nil, List.length_set, List.length_map, List.length_take, List.length_drop]; omega)) only [stdh, goK_s2b, dgoK_s2b, isEff_s2b, isPure_s2b, goK_b2s, dgoK_b2s, isEff_b2s, isPure_b2s, evalOp_s2b, s2bR, goK_mark, dgoK_mark, isEff_mark, isPure_mark, evalOp_mark, markA_slc, markB, ↓reduceIte, Nat.reduceEqDiff, Int.reduceToNat, Int.reducePow, Nat.reduceAdd, Nat.reduceLeDiff, Nat.reduceMul, Nat.reduceBEq, reduceCtorEq, hld, encL, at_0, set_0, at_low, hm, List.set_cons_zero, List.set_cons_succ, decide_eq_false c0, decide_eq_false c1, decide_eq_false c2, decide_eq_true c3]
          generalize H ++ [ABlk.cells [.int .i64 kind, .int .i64 n, .int .u64 (most : Nat), .int .i64 least, .int .i64 high] T.cuneiformlaw03_Act] = H1 at *
          try simp (disch := first | omega | (simp only [List.length_append, List.length_cons, List.length_nil, List.length_set, List.length_map, List.length_take, List.length_drop]; omega)) only [stdh, goK_s2b, dgoK_s2b, isEff_s2b, isPure_s2b, goK_b2s, dgoK_b2s, isEff_b2s, isPure_b2s, evalOp_s2b, s2bR, goK_mark, dgoK_mark, isEff_mark, isPure_mark, evalOp_mark, markA_slc, markB, ↓reduceIte, Nat.reduceEqDiff, Int.reduceToNat, Int.reducePow, Nat.reduceAdd, Nat.reduceLeDiff, Nat.reduceMul, Nat.reduceBEq, reduceCtorEq, hm1, hq1]
          refine callK_fn (lnum_ok _ hmo hp1 ha hb (by omega) _ ?_)
          have href := fun (H2 : AHeap) => rnum_ok (most := most) H2 hb (show ys.length ≤ 1000000 by omega) ha he
          generalize lensR 0 ys a e (numSpec most) = R at *
          obtain ⟨v, a2, e2⟩ := R
          dsimp only at hbd href ⊢
          obtain ⟨hb1, hb2⟩ := hbd
          have hp2 : (H1.set 2 (lensB ys a2 e2))[2]? = some (lensB ys a2 e2) := List.getElem?_set_self (by omega)
          have hm2 : (H1.set 2 (lensB ys a2 e2))[5]? = some (.cells [nums .u8 false ys, .int .i64 (a : Nat), .int .i64 (e : Nat)] T.cuneiformref03_L) := by rw [List.getElem?_set_ne (by omega)]; exact hm1
          have hq2 : (H1.set 2 (lensB ys a2 e2))[H.length]? = some (.cells [.int .i64 kind, .int .i64 n, .int .u64 (most : Nat), .int .i64 least, .int .i64 high] T.cuneiformlaw03_Act) := by rw [List.getElem?_set_ne (by omega)]; exact hq1
          have hl2 : (H1.set 2 (lensB ys a2 e2)).length = H1.length := by simp
          generalize H1.set 2 (lensB ys a2 e2) = H2 at *
          refine runL_V 100 ?_
          simp (disch := first | omega | (simp only [List.length_append, List.length_cons, List.length_nil, List.length_set, List.length_map, List.length_take, List.length_drop]; omega)) only [stdh, goK_s2b, dgoK_s2b, isEff_s2b, isPure_s2b, goK_b2s, dgoK_b2s, isEff_b2s, isPure_b2s, evalOp_s2b, s2bR, goK_mark, dgoK_mark, isEff_mark, isPure_mark, evalOp_mark, markA_slc, markB, ↓reduceIte, Nat.reduceEqDiff, Int.reduceToNat, Int.reducePow, Nat.reduceAdd, Nat.reduceLeDiff, Nat.reduceMul, Nat.reduceBEq, reduceCtorEq, hm2, hq2]
          refine callK_fn (href _ _ ?_)
          refine runL_V 100 ?_
          simp (disch := first | omega | (simp only [List.length_append, List.length_cons, List.length_nil, List.length_set, List.length_map, List.length_take, List.length_drop]; omega)) only [stdh, goK_s2b, dgoK_s2b, isEff_s2b, isPure_s2b, goK_b2s, dgoK_b2s, isEff_b2s, isPure_b2s, evalOp_s2b, s2bR, goK_mark, dgoK_mark, isEff_mark, isPure_mark, evalOp_mark, markA_slc, markB, ↓reduceIte, Nat.reduceEqDiff, Int.reduceToNat, Int.reducePow, Nat.reduceAdd, Nat.reduceLeDiff, Nat.reduceMul, Nat.reduceBEq, reduceCtorEq, hm2, hq2, mL]
          have hp3 : (H2.set 5 (.cells [nums .u8 false ys, .int .i64 (a2 : Nat), .int .i64 (e2 : Nat)] T.cuneiformref03_L))[2]? = some (lensB ys a2 e2) := by rw [List.getElem?_set_ne (by omega)]; exact hp2
          have hm3 : (H2.set 5 (.cells [nums .u8 false ys, .int .i64 (a2 : Nat), .int .i64 (e2 : Nat)] T.cuneiformref03_L))[5]? = some (.cells [nums .u8 false ys, .int .i64 (a2 : Nat), .int .i64 (e2 : Nat)] T.cuneiformref03_L) := List.getElem?_set_self (by omega)
          generalize H2.set 5 (.cells [nums .u8 false ys, .int .i64 (a2 : Nat), .int .i64 (e2 : Nat)] T.cuneiformref03_L) = H3 at *
          refine callK_fn (same_ok _ (nils_nats _) (nils_nats _) (by simp) _ ?_)
          rw [show decide (([] : List Nat) = []) = true from rfl]
          refine runL_V 100 ?_
          simp (disch := first | omega | (simp only [List.length_append, List.length_cons, List.length_nil, List.length_set, List.length_map, List.length_take, List.length_drop]; omega)) only [stdh, goK_s2b, dgoK_s2b, isEff_s2b, isPure_s2b, goK_b2s, dgoK_b2s, isEff_b2s, isPure_b2s, evalOp_s2b, s2bR, goK_mark, dgoK_mark, isEff_mark, isPure_mark, evalOp_mark, markA_slc, markB, ↓reduceIte, Nat.reduceEqDiff, Int.reduceToNat, Int.reducePow, Nat.reduceAdd, Nat.reduceLeDiff, Nat.reduceMul, Nat.reduceBEq, reduceCtorEq, hm3]
          refine callK_fn (lalike_ok _ hp3 hb1 (by omega) hb2 _ ?_)
          refine runL_V 100 ?_
          simp (disch := first | omega | (simp only [List.length_append, List.length_cons, List.length_nil, List.length_set, List.length_map, List.length_take, List.length_drop]; omega)) only [stdh, goK_s2b, dgoK_s2b, isEff_s2b, isPure_s2b, goK_b2s, dgoK_b2s, isEff_b2s, isPure_b2s, evalOp_s2b, s2bR, goK_mark, dgoK_mark, isEff_mark, isPure_mark, evalOp_mark, markA_slc, markB, ↓reduceIte, Nat.reduceEqDiff, Int.reduceToNat, Int.reducePow, Nat.reduceAdd, Nat.reduceLeDiff, Nat.reduceMul, Nat.reduceBEq, reduceCtorEq]
          exact hfin H3 a2 e2 hb1 hb2 hp3 hm3
        by_cases c4 : kind = 4
        · have hbd := lensR_bound (d := (0 : Int)) (ys := ys) (a := a) (e := e) (sgnSpec_b least high).1 (sgnSpec_b least high).2 ha he
          simp (disch := first | omega | (simp only [List.length_append, List.length_cons, List.length_nil, List.length_set, List.length_map, List.length_take, List.length_drop]; omega)) only [stdh, goK_s2b, dgoK_s2b, isEff_s2b, isPure_s2b, goK_b2s, dgoK_b2s, isEff_b2s, isPure_b2s, evalOp_s2b, s2bR, goK_mark, dgoK_mark, isEff_mark, isPure_mark, evalOp_mark, markA_slc, markB, ↓reduceIte, Nat.reduceEqDiff, Int.reduceToNat, Int.reducePow, Nat.reduceAdd, Nat.reduceLeDiff, Nat.reduceMul, Nat.reduceBEq, reduceCtorEq, hld, encL, at_0, set_0, at_low, hm, List.set_cons_zero, List.set_cons_succ, decide_eq_false c0, decide_eq_false c1, decide_eq_false c2, decide_eq_false c3, decide_eq_true c4]
          generalize H ++ [ABlk.cells [.int .i64 kind, .int .i64 n, .int .u64 (most : Nat), .int .i64 least, .int .i64 high] T.cuneiformlaw03_Act] = H1 at *
          try simp (disch := first | omega | (simp only [List.length_append, List.length_cons, List.length_nil, List.length_set, List.length_map, List.length_take, List.length_drop]; omega)) only [stdh, goK_s2b, dgoK_s2b, isEff_s2b, isPure_s2b, goK_b2s, dgoK_b2s, isEff_b2s, isPure_b2s, evalOp_s2b, s2bR, goK_mark, dgoK_mark, isEff_mark, isPure_mark, evalOp_mark, markA_slc, markB, ↓reduceIte, Nat.reduceEqDiff, Int.reduceToNat, Int.reducePow, Nat.reduceAdd, Nat.reduceLeDiff, Nat.reduceMul, Nat.reduceBEq, reduceCtorEq, hm1, hq1]
          refine callK_fn (lsgn_ok _ hp1 ha hb (by omega) _ ?_)
          have href := fun (H2 : AHeap) => rsgn_ok (least := least) (high := high) H2 hb (show ys.length ≤ 1000000 by omega) ha he
          generalize lensR (0 : Int) ys a e (sgnSpec least high) = R at *
          obtain ⟨v, a2, e2⟩ := R
          dsimp only at hbd href ⊢
          obtain ⟨hb1, hb2⟩ := hbd
          have hp2 : (H1.set 2 (lensB ys a2 e2))[2]? = some (lensB ys a2 e2) := List.getElem?_set_self (by omega)
          have hm2 : (H1.set 2 (lensB ys a2 e2))[5]? = some (.cells [nums .u8 false ys, .int .i64 (a : Nat), .int .i64 (e : Nat)] T.cuneiformref03_L) := by rw [List.getElem?_set_ne (by omega)]; exact hm1
          have hq2 : (H1.set 2 (lensB ys a2 e2))[H.length]? = some (.cells [.int .i64 kind, .int .i64 n, .int .u64 (most : Nat), .int .i64 least, .int .i64 high] T.cuneiformlaw03_Act) := by rw [List.getElem?_set_ne (by omega)]; exact hq1
          have hl2 : (H1.set 2 (lensB ys a2 e2)).length = H1.length := by simp
          generalize H1.set 2 (lensB ys a2 e2) = H2 at *
          refine runL_V 100 ?_
          simp (disch := first | omega | (simp only [List.length_append, List.length_cons, List.length_nil, List.length_set, List.length_map, List.length_take, List.length_drop]; omega)) only [stdh, goK_s2b, dgoK_s2b, isEff_s2b, isPure_s2b, goK_b2s, dgoK_b2s, isEff_b2s, isPure_b2s, evalOp_s2b, s2bR, goK_mark, dgoK_mark, isEff_mark, isPure_mark, evalOp_mark, markA_slc, markB, ↓reduceIte, Nat.reduceEqDiff, Int.reduceToNat, Int.reducePow, Nat.reduceAdd, Nat.reduceLeDiff, Nat.reduceMul, Nat.reduceBEq, reduceCtorEq, hm2, hq2]
          refine callK_fn (href _ _ ?_)
          refine runL_V 100 ?_
          simp (disch := first | omega | (simp only [List.length_append, List.length_cons, List.length_nil, List.length_set, List.length_map, List.length_take, List.length_drop]; omega)) only [stdh, goK_s2b, dgoK_s2b, isEff_s2b, isPure_s2b, goK_b2s, dgoK_b2s, isEff_b2s, isPure_b2s, evalOp_s2b, s2bR, goK_mark, dgoK_mark, isEff_mark, isPure_mark, evalOp_mark, markA_slc, markB, ↓reduceIte, Nat.reduceEqDiff, Int.reduceToNat, Int.reducePow, Nat.reduceAdd, Nat.reduceLeDiff, Nat.reduceMul, Nat.reduceBEq, reduceCtorEq, hm2, hq2, mL]
          have hp3 : (H2.set 5 (.cells [nums .u8 false ys, .int .i64 (a2 : Nat), .int .i64 (e2 : Nat)] T.cuneiformref03_L))[2]? = some (lensB ys a2 e2) := by rw [List.getElem?_set_ne (by omega)]; exact hp2
          have hm3 : (H2.set 5 (.cells [nums .u8 false ys, .int .i64 (a2 : Nat), .int .i64 (e2 : Nat)] T.cuneiformref03_L))[5]? = some (.cells [nums .u8 false ys, .int .i64 (a2 : Nat), .int .i64 (e2 : Nat)] T.cuneiformref03_L) := List.getElem?_set_self (by omega)
          generalize H2.set 5 (.cells [nums .u8 false ys, .int .i64 (a2 : Nat), .int .i64 (e2 : Nat)] T.cuneiformref03_L) = H3 at *
          refine callK_fn (same_ok _ (nils_nats _) (nils_nats _) (by simp) _ ?_)
          rw [show decide (([] : List Nat) = []) = true from rfl]
          refine runL_V 100 ?_
          simp (disch := first | omega | (simp only [List.length_append, List.length_cons, List.length_nil, List.length_set, List.length_map, List.length_take, List.length_drop]; omega)) only [stdh, goK_s2b, dgoK_s2b, isEff_s2b, isPure_s2b, goK_b2s, dgoK_b2s, isEff_b2s, isPure_b2s, evalOp_s2b, s2bR, goK_mark, dgoK_mark, isEff_mark, isPure_mark, evalOp_mark, markA_slc, markB, ↓reduceIte, Nat.reduceEqDiff, Int.reduceToNat, Int.reducePow, Nat.reduceAdd, Nat.reduceLeDiff, Nat.reduceMul, Nat.reduceBEq, reduceCtorEq, hm3]
          refine callK_fn (lalike_ok _ hp3 hb1 (by omega) hb2 _ ?_)
          refine runL_V 100 ?_
          simp (disch := first | omega | (simp only [List.length_append, List.length_cons, List.length_nil, List.length_set, List.length_map, List.length_take, List.length_drop]; omega)) only [stdh, goK_s2b, dgoK_s2b, isEff_s2b, isPure_s2b, goK_b2s, dgoK_b2s, isEff_b2s, isPure_b2s, evalOp_s2b, s2bR, goK_mark, dgoK_mark, isEff_mark, isPure_mark, evalOp_mark, markA_slc, markB, ↓reduceIte, Nat.reduceEqDiff, Int.reduceToNat, Int.reducePow, Nat.reduceAdd, Nat.reduceLeDiff, Nat.reduceMul, Nat.reduceBEq, reduceCtorEq]
          exact hfin H3 a2 e2 hb1 hb2 hp3 hm3
        by_cases c5 : kind = 5
        · have hbd := lensR_bound (d := []) (ys := ys) (a := a) (e := e) (rawSpec_b n).1 (rawSpec_b n).2 ha he
          have hvl := lensR_len (ys := ys) (a := a) (e := e) (sp := (rawSpec n)) (fun zs => rawSpec_le.2)
          simp (disch := first | omega | (simp only [List.length_append, List.length_cons, List.length_nil, List.length_set, List.length_map, List.length_take, List.length_drop]; omega)) only [stdh, goK_s2b, dgoK_s2b, isEff_s2b, isPure_s2b, goK_b2s, dgoK_b2s, isEff_b2s, isPure_b2s, evalOp_s2b, s2bR, goK_mark, dgoK_mark, isEff_mark, isPure_mark, evalOp_mark, markA_slc, markB, ↓reduceIte, Nat.reduceEqDiff, Int.reduceToNat, Int.reducePow, Nat.reduceAdd, Nat.reduceLeDiff, Nat.reduceMul, Nat.reduceBEq, reduceCtorEq, hld, encL, at_0, set_0, at_low, hm, List.set_cons_zero, List.set_cons_succ, decide_eq_false c0, decide_eq_false c1, decide_eq_false c2, decide_eq_false c3, decide_eq_false c4, decide_eq_true c5]
          generalize H ++ [ABlk.cells [.int .i64 kind, .int .i64 n, .int .u64 (most : Nat), .int .i64 least, .int .i64 high] T.cuneiformlaw03_Act] = H1 at *
          try simp (disch := first | omega | (simp only [List.length_append, List.length_cons, List.length_nil, List.length_set, List.length_map, List.length_take, List.length_drop]; omega)) only [stdh, goK_s2b, dgoK_s2b, isEff_s2b, isPure_s2b, goK_b2s, dgoK_b2s, isEff_b2s, isPure_b2s, evalOp_s2b, s2bR, goK_mark, dgoK_mark, isEff_mark, isPure_mark, evalOp_mark, markA_slc, markB, ↓reduceIte, Nat.reduceEqDiff, Int.reduceToNat, Int.reducePow, Nat.reduceAdd, Nat.reduceLeDiff, Nat.reduceMul, Nat.reduceBEq, reduceCtorEq, hm1, hq1]
          refine callK_fn (lraw_ok _ hn hp1 ha (by omega) _ ?_)
          have href := fun (H2 : AHeap) => rraw_ok (n := n) H2 hn (show ys.length ≤ 1000000 by omega) ha he
          generalize lensR [] ys a e (rawSpec n) = R at *
          obtain ⟨v, a2, e2⟩ := R
          dsimp only at hbd href hvl ⊢
          obtain ⟨hb1, hb2⟩ := hbd
          have hp2 : (H1.set 2 (lensB ys a2 e2))[2]? = some (lensB ys a2 e2) := List.getElem?_set_self (by omega)
          have hm2 : (H1.set 2 (lensB ys a2 e2))[5]? = some (.cells [nums .u8 false ys, .int .i64 (a : Nat), .int .i64 (e : Nat)] T.cuneiformref03_L) := by rw [List.getElem?_set_ne (by omega)]; exact hm1
          have hq2 : (H1.set 2 (lensB ys a2 e2))[H.length]? = some (.cells [.int .i64 kind, .int .i64 n, .int .u64 (most : Nat), .int .i64 least, .int .i64 high] T.cuneiformlaw03_Act) := by rw [List.getElem?_set_ne (by omega)]; exact hq1
          have hl2 : (H1.set 2 (lensB ys a2 e2)).length = H1.length := by simp
          generalize H1.set 2 (lensB ys a2 e2) = H2 at *
          refine runL_V 100 ?_
          simp (disch := first | omega | (simp only [List.length_append, List.length_cons, List.length_nil, List.length_set, List.length_map, List.length_take, List.length_drop]; omega)) only [stdh, goK_s2b, dgoK_s2b, isEff_s2b, isPure_s2b, goK_b2s, dgoK_b2s, isEff_b2s, isPure_b2s, evalOp_s2b, s2bR, goK_mark, dgoK_mark, isEff_mark, isPure_mark, evalOp_mark, markA_slc, markB, ↓reduceIte, Nat.reduceEqDiff, Int.reduceToNat, Int.reducePow, Nat.reduceAdd, Nat.reduceLeDiff, Nat.reduceMul, Nat.reduceBEq, reduceCtorEq, hm2, hq2]
          refine callK_fn (href _ _ ?_)
          refine runL_V 100 ?_
          simp (disch := first | omega | (simp only [List.length_append, List.length_cons, List.length_nil, List.length_set, List.length_map, List.length_take, List.length_drop]; omega)) only [stdh, goK_s2b, dgoK_s2b, isEff_s2b, isPure_s2b, goK_b2s, dgoK_b2s, isEff_b2s, isPure_b2s, evalOp_s2b, s2bR, goK_mark, dgoK_mark, isEff_mark, isPure_mark, evalOp_mark, markA_slc, markB, ↓reduceIte, Nat.reduceEqDiff, Int.reduceToNat, Int.reducePow, Nat.reduceAdd, Nat.reduceLeDiff, Nat.reduceMul, Nat.reduceBEq, reduceCtorEq, hm2, hq2, mL]
          have hp3 : (H2.set 5 (.cells [nums .u8 false ys, .int .i64 (a2 : Nat), .int .i64 (e2 : Nat)] T.cuneiformref03_L))[2]? = some (lensB ys a2 e2) := by rw [List.getElem?_set_ne (by omega)]; exact hp2
          have hm3 : (H2.set 5 (.cells [nums .u8 false ys, .int .i64 (a2 : Nat), .int .i64 (e2 : Nat)] T.cuneiformref03_L))[5]? = some (.cells [nums .u8 false ys, .int .i64 (a2 : Nat), .int .i64 (e2 : Nat)] T.cuneiformref03_L) := List.getElem?_set_self (by omega)
          generalize H2.set 5 (.cells [nums .u8 false ys, .int .i64 (a2 : Nat), .int .i64 (e2 : Nat)] T.cuneiformref03_L) = H3 at *
          refine callK_fn (same_ok _ (nums_nats _ _ _ _) (nums_nats _ _ _ _) (by omega) _ ?_)
          rw [show decide (v = v) = true by simp]
          refine runL_V 100 ?_
          simp (disch := first | omega | (simp only [List.length_append, List.length_cons, List.length_nil, List.length_set, List.length_map, List.length_take, List.length_drop]; omega)) only [stdh, goK_s2b, dgoK_s2b, isEff_s2b, isPure_s2b, goK_b2s, dgoK_b2s, isEff_b2s, isPure_b2s, evalOp_s2b, s2bR, goK_mark, dgoK_mark, isEff_mark, isPure_mark, evalOp_mark, markA_slc, markB, ↓reduceIte, Nat.reduceEqDiff, Int.reduceToNat, Int.reducePow, Nat.reduceAdd, Nat.reduceLeDiff, Nat.reduceMul, Nat.reduceBEq, reduceCtorEq, hm3]
          refine callK_fn (lalike_ok _ hp3 hb1 (by omega) hb2 _ ?_)
          refine runL_V 100 ?_
          simp (disch := first | omega | (simp only [List.length_append, List.length_cons, List.length_nil, List.length_set, List.length_map, List.length_take, List.length_drop]; omega)) only [stdh, goK_s2b, dgoK_s2b, isEff_s2b, isPure_s2b, goK_b2s, dgoK_b2s, isEff_b2s, isPure_b2s, evalOp_s2b, s2bR, goK_mark, dgoK_mark, isEff_mark, isPure_mark, evalOp_mark, markA_slc, markB, ↓reduceIte, Nat.reduceEqDiff, Int.reduceToNat, Int.reducePow, Nat.reduceAdd, Nat.reduceLeDiff, Nat.reduceMul, Nat.reduceBEq, reduceCtorEq]
          exact hfin H3 a2 e2 hb1 hb2 hp3 hm3
        by_cases c6 : kind = 6
        · have hbd := lensR_bound (d := []) (ys := ys) (a := a) (e := e) (fieldSpec_b n).1 (fieldSpec_b n).2 ha he
          have hvl := lensR_len (ys := ys) (a := a) (e := e) (sp := (fieldSpec n)) (fun zs => fieldSpec_le.2)
          simp (disch := first | omega | (simp only [List.length_append, List.length_cons, List.length_nil, List.length_set, List.length_map, List.length_take, List.length_drop]; omega)) only [stdh, goK_s2b, dgoK_s2b, isEff_s2b, isPure_s2b, goK_b2s, dgoK_b2s, isEff_b2s, isPure_b2s, evalOp_s2b, s2bR, goK_mark, dgoK_mark, isEff_mark, isPure_mark, evalOp_mark, markA_slc, markB, ↓reduceIte, Nat.reduceEqDiff, Int.reduceToNat, Int.reducePow, Nat.reduceAdd, Nat.reduceLeDiff, Nat.reduceMul, Nat.reduceBEq, reduceCtorEq, hld, encL, at_0, set_0, at_low, hm, List.set_cons_zero, List.set_cons_succ, decide_eq_false c0, decide_eq_false c1, decide_eq_false c2, decide_eq_false c3, decide_eq_false c4, decide_eq_false c5, decide_eq_true c6]
          generalize H ++ [ABlk.cells [.int .i64 kind, .int .i64 n, .int .u64 (most : Nat), .int .i64 least, .int .i64 high] T.cuneiformlaw03_Act] = H1 at *
          try simp (disch := first | omega | (simp only [List.length_append, List.length_cons, List.length_nil, List.length_set, List.length_map, List.length_take, List.length_drop]; omega)) only [stdh, goK_s2b, dgoK_s2b, isEff_s2b, isPure_s2b, goK_b2s, dgoK_b2s, isEff_b2s, isPure_b2s, evalOp_s2b, s2bR, goK_mark, dgoK_mark, isEff_mark, isPure_mark, evalOp_mark, markA_slc, markB, ↓reduceIte, Nat.reduceEqDiff, Int.reduceToNat, Int.reducePow, Nat.reduceAdd, Nat.reduceLeDiff, Nat.reduceMul, Nat.reduceBEq, reduceCtorEq, hm1, hq1]
          refine callK_fn (lfield_ok _ hn hp1 ha hb (by omega) _ ?_)
          have href := fun (H2 : AHeap) => rfield_ok (most := n) H2 hn hb (show ys.length ≤ 1000000 by omega) ha he
          generalize lensR [] ys a e (fieldSpec n) = R at *
          obtain ⟨v, a2, e2⟩ := R
          dsimp only at hbd href hvl ⊢
          obtain ⟨hb1, hb2⟩ := hbd
          have hp2 : (H1.set 2 (lensB ys a2 e2))[2]? = some (lensB ys a2 e2) := List.getElem?_set_self (by omega)
          have hm2 : (H1.set 2 (lensB ys a2 e2))[5]? = some (.cells [nums .u8 false ys, .int .i64 (a : Nat), .int .i64 (e : Nat)] T.cuneiformref03_L) := by rw [List.getElem?_set_ne (by omega)]; exact hm1
          have hq2 : (H1.set 2 (lensB ys a2 e2))[H.length]? = some (.cells [.int .i64 kind, .int .i64 n, .int .u64 (most : Nat), .int .i64 least, .int .i64 high] T.cuneiformlaw03_Act) := by rw [List.getElem?_set_ne (by omega)]; exact hq1
          have hl2 : (H1.set 2 (lensB ys a2 e2)).length = H1.length := by simp
          generalize H1.set 2 (lensB ys a2 e2) = H2 at *
          refine runL_V 100 ?_
          simp (disch := first | omega | (simp only [List.length_append, List.length_cons, List.length_nil, List.length_set, List.length_map, List.length_take, List.length_drop]; omega)) only [stdh, goK_s2b, dgoK_s2b, isEff_s2b, isPure_s2b, goK_b2s, dgoK_b2s, isEff_b2s, isPure_b2s, evalOp_s2b, s2bR, goK_mark, dgoK_mark, isEff_mark, isPure_mark, evalOp_mark, markA_slc, markB, ↓reduceIte, Nat.reduceEqDiff, Int.reduceToNat, Int.reducePow, Nat.reduceAdd, Nat.reduceLeDiff, Nat.reduceMul, Nat.reduceBEq, reduceCtorEq, hm2, hq2]
          refine callK_fn (href _ _ ?_)
          refine runL_V 100 ?_
          simp (disch := first | omega | (simp only [List.length_append, List.length_cons, List.length_nil, List.length_set, List.length_map, List.length_take, List.length_drop]; omega)) only [stdh, goK_s2b, dgoK_s2b, isEff_s2b, isPure_s2b, goK_b2s, dgoK_b2s, isEff_b2s, isPure_b2s, evalOp_s2b, s2bR, goK_mark, dgoK_mark, isEff_mark, isPure_mark, evalOp_mark, markA_slc, markB, ↓reduceIte, Nat.reduceEqDiff, Int.reduceToNat, Int.reducePow, Nat.reduceAdd, Nat.reduceLeDiff, Nat.reduceMul, Nat.reduceBEq, reduceCtorEq, hm2, hq2, mL]
          have hp3 : (H2.set 5 (.cells [nums .u8 false ys, .int .i64 (a2 : Nat), .int .i64 (e2 : Nat)] T.cuneiformref03_L))[2]? = some (lensB ys a2 e2) := by rw [List.getElem?_set_ne (by omega)]; exact hp2
          have hm3 : (H2.set 5 (.cells [nums .u8 false ys, .int .i64 (a2 : Nat), .int .i64 (e2 : Nat)] T.cuneiformref03_L))[5]? = some (.cells [nums .u8 false ys, .int .i64 (a2 : Nat), .int .i64 (e2 : Nat)] T.cuneiformref03_L) := List.getElem?_set_self (by omega)
          generalize H2.set 5 (.cells [nums .u8 false ys, .int .i64 (a2 : Nat), .int .i64 (e2 : Nat)] T.cuneiformref03_L) = H3 at *
          refine callK_fn (same_ok _ (nums_nats _ _ _ _) (nums_nats _ _ _ _) (by omega) _ ?_)
          rw [show decide (v = v) = true by simp]
          refine runL_V 100 ?_
          simp (disch := first | omega | (simp only [List.length_append, List.length_cons, List.length_nil, List.length_set, List.length_map, List.length_take, List.length_drop]; omega)) only [stdh, goK_s2b, dgoK_s2b, isEff_s2b, isPure_s2b, goK_b2s, dgoK_b2s, isEff_b2s, isPure_b2s, evalOp_s2b, s2bR, goK_mark, dgoK_mark, isEff_mark, isPure_mark, evalOp_mark, markA_slc, markB, ↓reduceIte, Nat.reduceEqDiff, Int.reduceToNat, Int.reducePow, Nat.reduceAdd, Nat.reduceLeDiff, Nat.reduceMul, Nat.reduceBEq, reduceCtorEq, hm3]
          refine callK_fn (lalike_ok _ hp3 hb1 (by omega) hb2 _ ?_)
          refine runL_V 100 ?_
          simp (disch := first | omega | (simp only [List.length_append, List.length_cons, List.length_nil, List.length_set, List.length_map, List.length_take, List.length_drop]; omega)) only [stdh, goK_s2b, dgoK_s2b, isEff_s2b, isPure_s2b, goK_b2s, dgoK_b2s, isEff_b2s, isPure_b2s, evalOp_s2b, s2bR, goK_mark, dgoK_mark, isEff_mark, isPure_mark, evalOp_mark, markA_slc, markB, ↓reduceIte, Nat.reduceEqDiff, Int.reduceToNat, Int.reducePow, Nat.reduceAdd, Nat.reduceLeDiff, Nat.reduceMul, Nat.reduceBEq, reduceCtorEq]
          exact hfin H3 a2 e2 hb1 hb2 hp3 hm3
        by_cases c7 : kind = 7
        · have hbd := lensR_bound (d := []) (ys := ys) (a := a) (e := e) (rawSpec_b (ys.length - a : Nat)).1 (rawSpec_b (ys.length - a : Nat)).2 ha he
          have hvl := lensR_len (ys := ys) (a := a) (e := e) (sp := (rawSpec (ys.length - a : Nat))) (fun zs => rawSpec_le.2)
          simp (disch := first | omega | (simp only [List.length_append, List.length_cons, List.length_nil, List.length_set, List.length_map, List.length_take, List.length_drop]; omega)) only [stdh, goK_s2b, dgoK_s2b, isEff_s2b, isPure_s2b, goK_b2s, dgoK_b2s, isEff_b2s, isPure_b2s, evalOp_s2b, s2bR, goK_mark, dgoK_mark, isEff_mark, isPure_mark, evalOp_mark, markA_slc, markB, ↓reduceIte, Nat.reduceEqDiff, Int.reduceToNat, Int.reducePow, Nat.reduceAdd, Nat.reduceLeDiff, Nat.reduceMul, Nat.reduceBEq, reduceCtorEq, hld, encL, at_0, set_0, at_low, hm, List.set_cons_zero, List.set_cons_succ, decide_eq_false c0, decide_eq_false c1, decide_eq_false c2, decide_eq_false c3, decide_eq_false c4, decide_eq_false c5, decide_eq_false c6, decide_eq_true c7]
          generalize H ++ [ABlk.cells [.int .i64 kind, .int .i64 n, .int .u64 (most : Nat), .int .i64 least, .int .i64 high] T.cuneiformlaw03_Act] = H1 at *
          refine callK_fn (lrest_ok _ hp1 ha (by omega) _ ?_)
          have href := fun (H2 : AHeap) => rraw_ok (n := (ys.length - a : Nat)) H2 (by omega) (show ys.length ≤ 1000000 by omega) ha he
          generalize lensR [] ys a e (rawSpec (ys.length - a : Nat)) = R at *
          obtain ⟨v, a2, e2⟩ := R
          dsimp only at hbd href hvl ⊢
          obtain ⟨hb1, hb2⟩ := hbd
          have hp2 : (H1.set 2 (lensB ys a2 e2))[2]? = some (lensB ys a2 e2) := List.getElem?_set_self (by omega)
          have hm2 : (H1.set 2 (lensB ys a2 e2))[5]? = some (.cells [nums .u8 false ys, .int .i64 (a : Nat), .int .i64 (e : Nat)] T.cuneiformref03_L) := by rw [List.getElem?_set_ne (by omega)]; exact hm1
          have hq2 : (H1.set 2 (lensB ys a2 e2))[H.length]? = some (.cells [.int .i64 kind, .int .i64 n, .int .u64 (most : Nat), .int .i64 least, .int .i64 high] T.cuneiformlaw03_Act) := by rw [List.getElem?_set_ne (by omega)]; exact hq1
          have hl2 : (H1.set 2 (lensB ys a2 e2)).length = H1.length := by simp
          generalize H1.set 2 (lensB ys a2 e2) = H2 at *
          have hl0 : ((ys.length : Nat) : Int) - (a : Nat) = ((ys.length - a : Nat) : Int) := by omega
          refine runL_V 100 ?_
          simp (disch := first | omega | (simp only [List.length_append, List.length_cons, List.length_nil, List.length_set, List.length_map, List.length_take, List.length_drop]; omega)) only [stdh, goK_s2b, dgoK_s2b, isEff_s2b, isPure_s2b, goK_b2s, dgoK_b2s, isEff_b2s, isPure_b2s, evalOp_s2b, s2bR, goK_mark, dgoK_mark, isEff_mark, isPure_mark, evalOp_mark, markA_slc, markB, ↓reduceIte, Nat.reduceEqDiff, Int.reduceToNat, Int.reducePow, Nat.reduceAdd, Nat.reduceLeDiff, Nat.reduceMul, Nat.reduceBEq, reduceCtorEq, hm2, hq2, hl0]
          refine callK_fn (href _ _ ?_)
          refine runL_V 100 ?_
          simp (disch := first | omega | (simp only [List.length_append, List.length_cons, List.length_nil, List.length_set, List.length_map, List.length_take, List.length_drop]; omega)) only [stdh, goK_s2b, dgoK_s2b, isEff_s2b, isPure_s2b, goK_b2s, dgoK_b2s, isEff_b2s, isPure_b2s, evalOp_s2b, s2bR, goK_mark, dgoK_mark, isEff_mark, isPure_mark, evalOp_mark, markA_slc, markB, ↓reduceIte, Nat.reduceEqDiff, Int.reduceToNat, Int.reducePow, Nat.reduceAdd, Nat.reduceLeDiff, Nat.reduceMul, Nat.reduceBEq, reduceCtorEq, hm2, hq2, mL]
          have hp3 : (H2.set 5 (.cells [nums .u8 false ys, .int .i64 (a2 : Nat), .int .i64 (e2 : Nat)] T.cuneiformref03_L))[2]? = some (lensB ys a2 e2) := by rw [List.getElem?_set_ne (by omega)]; exact hp2
          have hm3 : (H2.set 5 (.cells [nums .u8 false ys, .int .i64 (a2 : Nat), .int .i64 (e2 : Nat)] T.cuneiformref03_L))[5]? = some (.cells [nums .u8 false ys, .int .i64 (a2 : Nat), .int .i64 (e2 : Nat)] T.cuneiformref03_L) := List.getElem?_set_self (by omega)
          generalize H2.set 5 (.cells [nums .u8 false ys, .int .i64 (a2 : Nat), .int .i64 (e2 : Nat)] T.cuneiformref03_L) = H3 at *
          refine callK_fn (same_ok _ (nums_nats _ _ _ _) (nums_nats _ _ _ _) (by omega) _ ?_)
          rw [show decide (v = v) = true by simp]
          refine runL_V 100 ?_
          simp (disch := first | omega | (simp only [List.length_append, List.length_cons, List.length_nil, List.length_set, List.length_map, List.length_take, List.length_drop]; omega)) only [stdh, goK_s2b, dgoK_s2b, isEff_s2b, isPure_s2b, goK_b2s, dgoK_b2s, isEff_b2s, isPure_b2s, evalOp_s2b, s2bR, goK_mark, dgoK_mark, isEff_mark, isPure_mark, evalOp_mark, markA_slc, markB, ↓reduceIte, Nat.reduceEqDiff, Int.reduceToNat, Int.reducePow, Nat.reduceAdd, Nat.reduceLeDiff, Nat.reduceMul, Nat.reduceBEq, reduceCtorEq, hm3]
          refine callK_fn (lalike_ok _ hp3 hb1 (by omega) hb2 _ ?_)
          refine runL_V 100 ?_
          simp (disch := first | omega | (simp only [List.length_append, List.length_cons, List.length_nil, List.length_set, List.length_map, List.length_take, List.length_drop]; omega)) only [stdh, goK_s2b, dgoK_s2b, isEff_s2b, isPure_s2b, goK_b2s, dgoK_b2s, isEff_b2s, isPure_b2s, evalOp_s2b, s2bR, goK_mark, dgoK_mark, isEff_mark, isPure_mark, evalOp_mark, markA_slc, markB, ↓reduceIte, Nat.reduceEqDiff, Int.reduceToNat, Int.reducePow, Nat.reduceAdd, Nat.reduceLeDiff, Nat.reduceMul, Nat.reduceBEq, reduceCtorEq]
          exact hfin H3 a2 e2 hb1 hb2 hp3 hm3
        by_cases c8 : kind = 8
        · simp (disch := first | omega | (simp only [List.length_append, List.length_cons, List.length_nil, List.length_set, List.length_map, List.length_take, List.length_drop]; omega)) only [stdh, goK_s2b, dgoK_s2b, isEff_s2b, isPure_s2b, goK_b2s, dgoK_b2s, isEff_b2s, isPure_b2s, evalOp_s2b, s2bR, goK_mark, dgoK_mark, isEff_mark, isPure_mark, evalOp_mark, markA_slc, markB, ↓reduceIte, Nat.reduceEqDiff, Int.reduceToNat, Int.reducePow, Nat.reduceAdd, Nat.reduceLeDiff, Nat.reduceMul, Nat.reduceBEq, reduceCtorEq, hld, encL, at_0, set_0, at_low, hm, List.set_cons_zero, List.set_cons_succ, decide_eq_false c0, decide_eq_false c1, decide_eq_false c2, decide_eq_false c3, decide_eq_false c4, decide_eq_false c5, decide_eq_false c6, decide_eq_false c7, decide_eq_true c8]
          generalize H ++ [ABlk.cells [.int .i64 kind, .int .i64 n, .int .u64 (most : Nat), .int .i64 least, .int .i64 high] T.cuneiformlaw03_Act] = H1 at *
          have hcnt : a + wCount ys a e n * n.toNat ≤ ys.length := by
            unfold wCount
            split
            · have := Nat.div_mul_le_self (ys.length - a) n.toNat; omega
            · omega
          try simp (disch := first | omega | (simp only [List.length_append, List.length_cons, List.length_nil, List.length_set, List.length_map, List.length_take, List.length_drop]; omega)) only [stdh, goK_s2b, dgoK_s2b, isEff_s2b, isPure_s2b, goK_b2s, dgoK_b2s, isEff_b2s, isPure_b2s, evalOp_s2b, s2bR, goK_mark, dgoK_mark, isEff_mark, isPure_mark, evalOp_mark, markA_slc, markB, ↓reduceIte, Nat.reduceEqDiff, Int.reduceToNat, Int.reducePow, Nat.reduceAdd, Nat.reduceLeDiff, Nat.reduceMul, Nat.reduceBEq, reduceCtorEq, hm1, hq1]
          refine callK_fn (lwfn_ok _ hp1 hb ha (by omega) he _ ?_)
          generalize a + wCount ys a e n * n.toNat = a2 at *
          have hp2 : (H1.set 2 (lensB ys a2 e))[2]? = some (lensB ys a2 e) := List.getElem?_set_self (by omega)
          have hm2 : (H1.set 2 (lensB ys a2 e))[5]? = some (.cells [nums .u8 false ys, .int .i64 (a : Nat), .int .i64 (e : Nat)] T.cuneiformref03_L) := by rw [List.getElem?_set_ne (by omega)]; exact hm1
          have hl2 : (H1.set 2 (lensB ys a2 e)).length = H1.length := by simp
          generalize H1.set 2 (lensB ys a2 e) = H2 at *
          refine runL_V 100 ?_
          simp (disch := first | omega | (simp only [List.length_append, List.length_cons, List.length_nil, List.length_set, List.length_map, List.length_take, List.length_drop]; omega)) only [stdh, goK_s2b, dgoK_s2b, isEff_s2b, isPure_s2b, goK_b2s, dgoK_b2s, isEff_b2s, isPure_b2s, evalOp_s2b, s2bR, goK_mark, dgoK_mark, isEff_mark, isPure_mark, evalOp_mark, markA_slc, markB, ↓reduceIte, Nat.reduceEqDiff, Int.reduceToNat, Int.reducePow, Nat.reduceAdd, Nat.reduceLeDiff, Nat.reduceMul, Nat.reduceBEq, reduceCtorEq, hm2, mL]
          have hp3 : (H2.set 5 (.cells [nums .u8 false ys, .int .i64 (a2 : Nat), .int .i64 (e : Nat)] T.cuneiformref03_L))[2]? = some (lensB ys a2 e) := by rw [List.getElem?_set_ne (by omega)]; exact hp2
          have hm3 : (H2.set 5 (.cells [nums .u8 false ys, .int .i64 (a2 : Nat), .int .i64 (e : Nat)] T.cuneiformref03_L))[5]? = some (.cells [nums .u8 false ys, .int .i64 (a2 : Nat), .int .i64 (e : Nat)] T.cuneiformref03_L) := List.getElem?_set_self (by omega)
          generalize H2.set 5 (.cells [nums .u8 false ys, .int .i64 (a2 : Nat), .int .i64 (e : Nat)] T.cuneiformref03_L) = H3 at *
          refine callK_fn (same_ok _ (nils_nats _) (nils_nats _) (by simp) _ ?_)
          rw [show decide (([] : List Nat) = []) = true from rfl]
          refine runL_V 100 ?_
          simp (disch := first | omega | (simp only [List.length_append, List.length_cons, List.length_nil, List.length_set, List.length_map, List.length_take, List.length_drop]; omega)) only [stdh, goK_s2b, dgoK_s2b, isEff_s2b, isPure_s2b, goK_b2s, dgoK_b2s, isEff_b2s, isPure_b2s, evalOp_s2b, s2bR, goK_mark, dgoK_mark, isEff_mark, isPure_mark, evalOp_mark, markA_slc, markB, ↓reduceIte, Nat.reduceEqDiff, Int.reduceToNat, Int.reducePow, Nat.reduceAdd, Nat.reduceLeDiff, Nat.reduceMul, Nat.reduceBEq, reduceCtorEq, hm3]
          refine callK_fn (lalike_ok _ hp3 hcnt (by omega) he _ ?_)
          refine runL_V 100 ?_
          simp (disch := first | omega | (simp only [List.length_append, List.length_cons, List.length_nil, List.length_set, List.length_map, List.length_take, List.length_drop]; omega)) only [stdh, goK_s2b, dgoK_s2b, isEff_s2b, isPure_s2b, goK_b2s, dgoK_b2s, isEff_b2s, isPure_b2s, evalOp_s2b, s2bR, goK_mark, dgoK_mark, isEff_mark, isPure_mark, evalOp_mark, markA_slc, markB, ↓reduceIte, Nat.reduceEqDiff, Int.reduceToNat, Int.reducePow, Nat.reduceAdd, Nat.reduceLeDiff, Nat.reduceMul, Nat.reduceBEq, reduceCtorEq]
          exact hfin H3 a2 e hcnt he hp3 hm3
        simp (disch := first | omega | (simp only [List.length_append, List.length_cons, List.length_nil, List.length_set, List.length_map, List.length_take, List.length_drop]; omega)) only [stdh, goK_s2b, dgoK_s2b, isEff_s2b, isPure_s2b, goK_b2s, dgoK_b2s, isEff_b2s, isPure_b2s, evalOp_s2b, s2bR, goK_mark, dgoK_mark, isEff_mark, isPure_mark, evalOp_mark, markA_slc, markB, ↓reduceIte, Nat.reduceEqDiff, Int.reduceToNat, Int.reducePow, Nat.reduceAdd, Nat.reduceLeDiff, Nat.reduceMul, Nat.reduceBEq, reduceCtorEq, hld, encL, at_0, set_0, at_low, hm, List.set_cons_zero, List.set_cons_succ, decide_eq_false c0, decide_eq_false c1, decide_eq_false c2, decide_eq_false c3, decide_eq_false c4, decide_eq_false c5, decide_eq_false c6, decide_eq_false c7, decide_eq_false c8]
        generalize H ++ [ABlk.cells [.int .i64 kind, .int .i64 n, .int .u64 (most : Nat), .int .i64 least, .int .i64 high] T.cuneiformlaw03_Act] = H1 at *
        refine callK_fn (same_ok _ (nils_nats _) (nils_nats _) (by simp) _ ?_)
        rw [show decide (([] : List Nat) = []) = true from rfl]
        refine runL_V 100 ?_
        simp (disch := first | omega | (simp only [List.length_append, List.length_cons, List.length_nil, List.length_set, List.length_map, List.length_take, List.length_drop]; omega)) only [stdh, goK_s2b, dgoK_s2b, isEff_s2b, isPure_s2b, goK_b2s, dgoK_b2s, isEff_b2s, isPure_b2s, evalOp_s2b, s2bR, goK_mark, dgoK_mark, isEff_mark, isPure_mark, evalOp_mark, markA_slc, markB, ↓reduceIte, Nat.reduceEqDiff, Int.reduceToNat, Int.reducePow, Nat.reduceAdd, Nat.reduceLeDiff, Nat.reduceMul, Nat.reduceBEq, reduceCtorEq, hm1]
        refine callK_fn (lalike_ok _ hp1 ha (by omega) he _ ?_)
        refine runL_V 100 ?_
        simp (disch := first | omega | (simp only [List.length_append, List.length_cons, List.length_nil, List.length_set, List.length_map, List.length_take, List.length_drop]; omega)) only [stdh, goK_s2b, dgoK_s2b, isEff_s2b, isPure_s2b, goK_b2s, dgoK_b2s, isEff_b2s, isPure_b2s, evalOp_s2b, s2bR, goK_mark, dgoK_mark, isEff_mark, isPure_mark, evalOp_mark, markA_slc, markB, ↓reduceIte, Nat.reduceEqDiff, Int.reduceToNat, Int.reducePow, Nat.reduceAdd, Nat.reduceLeDiff, Nat.reduceMul, Nat.reduceBEq, reduceCtorEq]
        exact hfin H1 a e ha he hp1 hm1
      · simp (disch := first | omega | (simp only [List.length_append, List.length_cons, List.length_nil, List.length_set, List.length_map, List.length_take, List.length_drop]; omega)) only [stdh, goK_s2b, dgoK_s2b, isEff_s2b, isPure_s2b, goK_b2s, dgoK_b2s, isEff_b2s, isPure_b2s, evalOp_s2b, s2bR, goK_mark, dgoK_mark, isEff_mark, isPure_mark, evalOp_mark, markA_slc, markB, ↓reduceIte, Nat.reduceEqDiff, Int.reduceToNat, Int.reducePow, Nat.reduceAdd, Nat.reduceLeDiff, Nat.reduceMul, Nat.reduceBEq, reduceCtorEq]
        exact hQ _ _
    · simp (disch := first | omega | (simp only [List.length_append, List.length_cons, List.length_nil, List.length_set, List.length_map, List.length_take, List.length_drop]; omega)) only [stdh, goK_s2b, dgoK_s2b, isEff_s2b, isPure_s2b, goK_b2s, dgoK_b2s, isEff_b2s, isPure_b2s, evalOp_s2b, s2bR, goK_mark, dgoK_mark, isEff_mark, isPure_mark, evalOp_mark, markA_slc, markB, ↓reduceIte, Nat.reduceEqDiff, Int.reduceToNat, Int.reducePow, Nat.reduceAdd, Nat.reduceLeDiff, Nat.reduceMul, Nat.reduceBEq, reduceCtorEq]
      exact hQ _ _
end Go.Proofs.Ytebhlclfiiffbaa

namespace Go.Proofs.Ytebhlclfiiffbaa
open Go Go.Am
set_option linter.unusedSimpArgs false
set_option linter.unusedVariables false

theorem lnew_slc (H : AHeap) {m : Nat} {ys : List Nat} (hm : H[m]? = some (.vec (u8s ys) T.uint8 1)) (hlen : ys.length ≤ 1000000) (Q : AVal → AHeap → Prop) (h : Q (.ptr H.length 0) (H ++ [lensB ys 0 0])) : FunOK Try.prog F.lens_New [.slc m 0 ys.length 1] H Q := by
  refine fun_gh (Q' := fun av H' => av = .ptr (H.length + 1) 0 ∧ H' = H ++ [.vec (u8s ys) T.uint8 1, .cells [.slc H.length 0 ys.length 1, .int .i64 0, .int .i64 0] T.lens_Lens]) (fun _ _ => ?_) (fun av H' hc _ hq => ?_) (callable_of lens_New_code)
  · refine fun_V 60 lens_New_code rfl ?_
    obtain ⟨p, a1, hp⟩ := Own.append3 (H := H) (w := 1) (el := T.uint8) (B := 0) Own.nil (x := .slc m 0 ys.length 1) (k := ys.length) (ys := u8s ys) 1 rfl (by rw [srcCells_slcv hm (by simp [u8s]), List.drop_zero, List.take_of_length_le (by simp [u8s])]) (by simp [u8s]) (by omega) (by omega) (by omega) (u8s_cellish _)
    simp only [killA, List.nil_append, Nat.zero_add] at a1
    simp (disch := first | omega | (simp only [List.length_append, List.length_cons, List.length_nil, List.length_set, List.length_map, List.length_take, List.length_drop]; omega)) only [stdh, goK_s2b, dgoK_s2b, isEff_s2b, isPure_s2b, goK_b2s, dgoK_b2s, isEff_b2s, isPure_b2s, evalOp_s2b, s2bR, goK_mark, dgoK_mark, isEff_mark, isPure_mark, evalOp_mark, markA_slc, markB, ↓reduceIte, Nat.reduceEqDiff, Int.reduceToNat, Int.reducePow, Nat.reduceAdd, Nat.reduceLeDiff, Nat.reduceMul, Nat.reduceBEq, reduceCtorEq, lens_New, lens_New.body, a1, hp]
  · obtain ⟨rfl, rfl⟩ := hq
    have hcl : closeds H.length (u8s ys) := closeds_ints _ _
    have hleft := left_keeps (H' := H ++ [ABlk.vec (u8s ys) T.uint8 1, .cells [.slc H.length 0 ys.length 1, .int .i64 0, .int .i64 0] T.lens_Lens]) hc (keeps_append _ _) [H.length + 1] [(H.length, u8s ys)] (by simp) (by
      intro p hp
      simp only [List.mem_singleton] at hp
      subst hp
      exact ⟨u8s ys, by simp [content], (mvs_id (L := H.length) (fun _ h => toF_low h) _ hcl).symm, colds_of (L := H.length) (fun _ h => toF_low h) _ hcl⟩) (by simp)
    have h1 : toF H.length [H.length + 1] [(H.length, u8s ys)] H.length = .ice (u8s ys) := by simp [toF, findN, findI]
    have h2 : toF H.length [H.length + 1] [(H.length, u8s ys)] (H.length + 1) = .keep H.length := by simp [toF, findN]
    refine ⟨_, _, hleft, ?_⟩
    have hg : (H ++ [ABlk.vec (u8s ys) T.uint8 1, .cells [.slc H.length 0 ys.length 1, .int .i64 0, .int .i64 0] T.lens_Lens]).getD (H.length + 1) .dead = .cells [.slc H.length 0 ys.length 1, .int .i64 0, .int .i64 0] T.lens_Lens := by
      rw [List.getD_eq_getElem?_getD, at_k]; rfl
    have ht : (u8s ys).take (ys.length * 1) = u8s ys := List.take_of_length_le (by simp [u8s])
    simp only [List.map_cons, List.map_nil, hg, mvBlk, mvs, mv, h1, h2, mvPtr, mvSlc, List.drop_zero, ht]
    exact h


theorem reads_over (K : List AItem) (Q : AVal → AHeap → Prop) {n : Nat} (hn : n ≤ 1000) {v1 : AVal} :
    ∀ (m i : Nat) (H : AHeap) (cs : List AVal), n - i = m → i ≤ n → H[1]? = some (.vec cs T.uint8 1) → cs.length = n →
    (∀ r' H', H'.length = H.length → (∀ k, k ≠ 1 → H'[k]? = H[k]?) → rget r' 1 = v1 → rget r' 5 = .ptr 2 0 → rget r' 6 = .ptr 5 0 → Run Try.prog lrC K r' H' Q) →
    Rounds Try.prog lrC cuneiformlaw03_LensReads.b0 [.inBlock 0] K [(0, .slc 1 0 n 1), (1, v1), (5, .ptr 2 0), (6, .ptr 5 0), (7, .int .i64 (i : Nat))] H Q
  | m, i, H, cs, h1, h2, hc, hl, hK => by
    have hpl := (List.getElem?_eq_some_iff.1 hc).1
    refine loop_V 100 cuneiformlaw03_LensReads.b0.eq_1 ?_
    by_cases hi : i < n
    · have hv := view_vec hc hl
      have hst := store_vec (v := .int .u8 7) hc hl (j := i) hi rfl rfl
      simp (disch := first | omega | (simp only [List.length_append, List.length_cons, List.length_nil, List.length_set, List.length_map, List.length_take, List.length_drop]; omega)) only [stdh, goK_s2b, dgoK_s2b, isEff_s2b, isPure_s2b, goK_b2s, dgoK_b2s, isEff_b2s, isPure_b2s, evalOp_s2b, s2bR, goK_mark, dgoK_mark, isEff_mark, isPure_mark, evalOp_mark, markA_slc, markB, ↓reduceIte, Nat.reduceEqDiff, Int.reduceToNat, Int.reducePow, Nat.reduceAdd, Nat.reduceLeDiff, Nat.reduceMul, Nat.reduceBEq, reduceCtorEq, hv, hst]
      rw [show (i : Int) + 1 = ((i + 1 : Nat) : Int) by omega]
      refine reads_over K Q hn _ (i + 1) _ (cs.set i (.int .u8 7)) rfl (by omega) (List.getElem?_set_self hpl) (by rw [List.length_set, hl]) ?_
      intro r' H' e1 e2 f1 f5 f6
      exact hK r' H' (by simpa using e1) (fun k hk => by rw [e2 k hk, List.getElem?_set_ne (fun e => hk e.symm)]) f1 f5 f6
    · have : i = n := by omega
      subst this
      simp (disch := first | omega | (simp only [List.length_append, List.length_cons, List.length_nil, List.length_set, List.length_map, List.length_take, List.length_drop]; omega)) only [stdh, goK_s2b, dgoK_s2b, isEff_s2b, isPure_s2b, goK_b2s, dgoK_b2s, isEff_b2s, isPure_b2s, evalOp_s2b, s2bR, goK_mark, dgoK_mark, isEff_mark, isPure_mark, evalOp_mark, markA_slc, markB, ↓reduceIte, Nat.reduceEqDiff, Int.reduceToNat, Int.reducePow, Nat.reduceAdd, Nat.reduceLeDiff, Nat.reduceMul, Nat.reduceBEq, reduceCtorEq]
      exact hK _ H rfl (fun _ _ => rfl) rfl rfl rfl
  termination_by m => m

theorem lensreads_ok {bs : List Nat} (hb : ∀ b ∈ bs, b < 256) {t : Bool} {xs : List LAct} (hx : ∀ x ∈ xs, x.ok) (hxl : xs.length ≤ 9223372036854775807) :
    FunOK Try.prog F.cuneiformlaw03_LensReads [nums .u8 false bs, recs encL t xs] [] fun av _ => av = .bool true := by
  have min300 : ∀ n : Nat, (if 300 < (n : Int) then 300 else (n : Int)) = ((min n 300 : Nat) : Int) := fun n => by split <;> omega
  have hz : ∀ b ∈ bs.take (min bs.length 300), b < 256 := fun b hb' => hb b (List.mem_of_mem_take hb')
  have hzl : (bs.take (min bs.length 300)).length ≤ 300 := by rw [List.length_take]; omega
  obtain ⟨p1, a1, hp1⟩ := Own.append3 (H := [ABlk.vec [] T.uint8 1]) (w := 1) (el := T.uint8) (B := 0) (a := .slc 0 0 0 1) (n := 0) (cs := []) ⟨rfl, .inr ⟨0, by omega, rfl, rfl⟩⟩ (x := nums .u8 false (bs.take (min bs.length 300))) (k := (bs.take (min bs.length 300)).length) (ys := u8s (bs.take (min bs.length 300))) 1 rfl rfl (by simp [u8s]) (by omega) (by omega) (by omega) (u8s_cellish _)
  simp only [killA, List.set_cons_zero, List.nil_append, Nat.zero_add, List.length_cons, List.length_nil, List.cons_append] at a1
  refine fun_V 100 cuneiformlaw03_LensReads_code rfl ?_
  simp (disch := first | omega | (simp only [List.length_append, List.length_cons, List.length_nil, List.length_set, List.length_map, List.length_take, List.length_drop]; omega)) only [stdh, goK_s2b, dgoK_s2b, isEff_s2b, isPure_s2b, goK_b2s, dgoK_b2s, isEff_b2s, isPure_b2s, evalOp_s2b, s2bR, goK_mark, dgoK_mark, isEff_mark, isPure_mark, evalOp_mark, markA_slc, markB, ↓reduceIte, Nat.reduceEqDiff, Int.reduceToNat, Int.reducePow, Nat.reduceAdd, Nat.reduceLeDiff, Nat.reduceMul, Nat.reduceBEq, reduceCtorEq, cuneiformlaw03_LensReads, cuneiformlaw03_LensReads.body, min300, a1, hp1]
  generalize bs.take (min bs.length 300) = ys at *
  refine callK_fn (lnew_slc _ (m := 1) (ys := ys) rfl (by omega) _ ?_)
  obtain ⟨p2, a2, hp2⟩ := Own.append3 (H := [ABlk.dead, .vec (u8s ys) T.uint8 1, lensB ys 0 0, .vec [] T.uint8 1]) (w := 1) (el := T.uint8) (B := 0) (a := .slc 3 0 0 1) (n := 0) (cs := []) ⟨rfl, .inr ⟨3, by omega, rfl, rfl⟩⟩ (x := .slc 1 0 ys.length 1) (k := ys.length) (ys := u8s ys) 1 rfl (by rw [srcCells_slcv (cs := u8s ys) (el := T.uint8) rfl (by simp [u8s]), List.drop_zero, List.take_of_length_le (by simp [u8s])]) (by simp [u8s]) (by omega) (by omega) (by omega) (u8s_cellish _)
  simp only [killA, List.set_cons_zero, List.set_cons_succ, List.nil_append, Nat.zero_add, List.length_cons, List.length_nil, List.cons_append, Nat.reduceAdd] at a2
  refine runL_V 7 ?_
  simp (disch := first | omega | (simp only [List.length_append, List.length_cons, List.length_nil, List.length_set, List.length_map, List.length_take, List.length_drop]; omega)) only [stdh, goK_s2b, dgoK_s2b, isEff_s2b, isPure_s2b, goK_b2s, dgoK_b2s, isEff_b2s, isPure_b2s, evalOp_s2b, s2bR, goK_mark, dgoK_mark, isEff_mark, isPure_mark, evalOp_mark, markA_slc, markB, ↓reduceIte, Nat.reduceEqDiff, Int.reduceToNat, Int.reducePow, Nat.reduceAdd, Nat.reduceLeDiff, Nat.reduceMul, Nat.reduceBEq, reduceCtorEq, a2, hp2, List.nil_append, List.cons_append, List.length_nil]
  have hc0 : ClosedH ([] : AHeap) := fun n b h => by simp at h
  have hc1 := hc0.push (b := .dead) trivial
  have hc2 := hc1.push (b := .vec (u8s ys) T.uint8 1) (closeds_ints _ _)
  have hc3 := hc2.push (b := lensB ys 0 0) (lensB_closed _ _ _)
  have hc4 := hc3.push (b := .dead) trivial
  simp only [List.nil_append, List.cons_append] at hc4
  have hcs : closeds [ABlk.dead, ABlk.vec (u8s ys) T.uint8 1, lensB ys 0 0, ABlk.dead].length (u8s ys) := closeds_ints _ _
  rw [show [ABlk.dead, ABlk.vec (u8s ys) T.uint8 1, lensB ys 0 0, ABlk.dead, ABlk.vec (u8s ys) T.uint8 1] = [ABlk.dead, ABlk.vec (u8s ys) T.uint8 1, lensB ys 0 0, ABlk.dead] ++ [ABlk.vec (u8s ys) T.uint8 1] from rfl]
  refine runL_iceLast hc4 hcs (by intro x hx; cases hx) ?_
  have hlen1 : [ABlk.dead, ABlk.vec (u8s ys) T.uint8 1, lensB ys 0 0, ABlk.dead].length = 4 := rfl
  rw [hlen1]
  have hmv : mv (iceF 4 (u8s ys)) (.slc 4 0 ys.length 1) = nums .u8 false ys := mv_iceAt (by simp [u8s])
  have hmr : mv (iceF 4 (u8s ys)) (recs encL t xs) = recs encL t xs := mv_low (n := 0) (closed_recs t xs fun x _ => ⟨trivial, trivial, trivial, trivial, trivial, trivial⟩)
  simp (disch := omega) only [mvRegs_cons, mvRegs_nil, mvI_ptr, mvI_slc, mvI_int, hmr, hmv]
  refine runL_V 100 ?_
  simp (disch := first | omega | (simp only [List.length_append, List.length_cons, List.length_nil, List.length_set, List.length_map, List.length_take, List.length_drop]; omega)) only [stdh, goK_s2b, dgoK_s2b, isEff_s2b, isPure_s2b, goK_b2s, dgoK_b2s, isEff_b2s, isPure_b2s, evalOp_s2b, s2bR, goK_mark, dgoK_mark, isEff_mark, isPure_mark, evalOp_mark, markA_slc, markB, ↓reduceIte, Nat.reduceEqDiff, Int.reduceToNat, Int.reducePow, Nat.reduceAdd, Nat.reduceLeDiff, Nat.reduceMul, Nat.reduceBEq, reduceCtorEq, eqA, List.cons_append, List.nil_append]
  refine reads_over _ _ (n := ys.length) (by omega) _ 0 _ (u8s ys) rfl (by omega) rfl (by simp [u8s]) ?_
  intro r1 H1 e1 e2 f1 f5 f6
  refine run_V0 100 ?_
  simp (disch := first | omega | (simp only [List.length_append, List.length_cons, List.length_nil, List.length_set, List.length_map, List.length_take, List.length_drop]; omega)) only [stdh, goK_s2b, dgoK_s2b, isEff_s2b, isPure_s2b, goK_b2s, dgoK_b2s, isEff_b2s, isPure_b2s, evalOp_s2b, s2bR, goK_mark, dgoK_mark, isEff_mark, isPure_mark, evalOp_mark, markA_slc, markB, ↓reduceIte, Nat.reduceEqDiff, Int.reduceToNat, Int.reducePow, Nat.reduceAdd, Nat.reduceLeDiff, Nat.reduceMul, Nat.reduceBEq, reduceCtorEq, f1, f5, f6]
  refine reads_loop _ _ hz (by omega) hx hxl ?_ _ 0 H1 0 0 rfl (by omega) (by omega) (by omega) (by rw [e2 2 (by omega)]; rfl) (by rw [e2 5 (by omega)]; rfl)
  intro r2 H2
  refine run_V0 100 ?_
  simp (disch := first | omega | (simp only [List.length_append, List.length_cons, List.length_nil, List.length_set, List.length_map, List.length_take, List.length_drop]; omega)) only [stdh, goK_s2b, dgoK_s2b, isEff_s2b, isPure_s2b, goK_b2s, dgoK_b2s, isEff_b2s, isPure_b2s, evalOp_s2b, s2bR, goK_mark, dgoK_mark, isEff_mark, isPure_mark, evalOp_mark, markA_slc, markB, ↓reduceIte, Nat.reduceEqDiff, Int.reduceToNat, Int.reducePow, Nat.reduceAdd, Nat.reduceLeDiff, Nat.reduceMul, Nat.reduceBEq, reduceCtorEq]
  refine callK_fn (known03_ok _ _ ?_)
  refine runL_V 100 ?_
  simp (disch := first | omega | (simp only [List.length_append, List.length_cons, List.length_nil, List.length_set, List.length_map, List.length_take, List.length_drop]; omega)) only [stdh, goK_s2b, dgoK_s2b, isEff_s2b, isPure_s2b, goK_b2s, dgoK_b2s, isEff_b2s, isPure_b2s, evalOp_s2b, s2bR, goK_mark, dgoK_mark, isEff_mark, isPure_mark, evalOp_mark, markA_slc, markB, ↓reduceIte, Nat.reduceEqDiff, Int.reduceToNat, Int.reducePow, Nat.reduceAdd, Nat.reduceLeDiff, Nat.reduceMul, Nat.reduceBEq, reduceCtorEq]
def shL : Sh := .struct [.int .i64, .int .i64, .int .u64, .int .i64, .int .i64]

theorem lact_fits {g : List AVal} (h : Fits shL g) : ∃ x : LAct, x.ok ∧ SeesL g (encL x) := by
  obtain ⟨_, _, rfl, ⟨k, rfl, hk⟩, h⟩ := h
  obtain ⟨_, _, rfl, ⟨n, rfl, hn⟩, h⟩ := h
  obtain ⟨_, _, rfl, ⟨m, rfl, hm⟩, h⟩ := h
  obtain ⟨_, _, rfl, ⟨l, rfl, hl⟩, h⟩ := h
  obtain ⟨_, _, rfl, ⟨u, rfl, hu⟩, h⟩ := h
  have h' : _ = ([] : List AVal) := h
  subst h'
  have h1 := bounds_i64 hn
  have h2 := bounds_u64 hm
  obtain ⟨m, rfl⟩ := Int.eq_ofNat_of_zero_le h2.1
  exact ⟨⟨k, n, m, l, u⟩, ⟨by dsimp only; omega, by dsimp only; omega⟩, SeesL.cons (Sees.refl _) (SeesL.cons (Sees.refl _) (SeesL.cons (Sees.refl _) (SeesL.cons (Sees.refl _) (SeesL.cons (Sees.refl _) SeesL.nil))))⟩

theorem lacts_fits {a : AVal} (h : FitsA (.slice shL) a) : ∃ acts : List LAct, Sees a (recs encL false acts) ∧ (∀ x ∈ acts, x.ok) ∧ acts.length ≤ 9223372036854775807 := by
  rcases h with h | ⟨gs, t, hg, h, hl⟩
  · cases h
    exact ⟨[], Sees.nils false, by simp, by simp⟩
  · cases h
    have : ∃ acts : List LAct, SeesL gs.flatten (acts.flatMap encL) ∧ acts.length = gs.length ∧ ∀ x ∈ acts, x.ok := by
      clear hl
      induction gs with
      | nil => exact ⟨[], SeesL.nil, rfl, by simp⟩
      | cons g gs ih =>
        obtain ⟨acts, h1, h2, h3⟩ := ih fun x hx => hg x (by simp [hx])
        obtain ⟨x, hx, hs⟩ := lact_fits (hg g (by simp))
        refine ⟨x :: acts, ?_, by simp [h2], fun y hy => ?_⟩
        · rw [List.flatten_cons, List.flatMap_cons]; exact SeesL.append hs h1
        · rcases List.mem_cons.1 hy with rfl | hy
          · exact hx
          · exact h3 y hy
    obtain ⟨acts, h1, h2, h3⟩ := this
    refine ⟨acts, ?_, h3, by omega⟩
    have : recs encL false acts = .imm (acts.flatMap encL) gs.length false := by simp [recs, h2]
    rw [this]
    exact (Sees.imm h1 _ _).trans (Sees.loose _ _ _)
end Go.Proofs.Ytebhlclfiiffbaa

namespace Go.Proofs.Ytebhlclfiiffbaa.lensReads
open Go Go.Am Go.ChangeShapes Go.WideShapes Go.ChangeAt Go.RowKit
set_option linter.unusedVariables false

theorem own : ownKnob Try.prog.godebug = none := by kernel_rfl
theorem laidOut : laidOutB Try.prog = true := by kernel_rfl

set_option maxRecDepth 100000 in
theorem lifted (os : Os) (started : os.Started) (H : Type) (enc : TypeId × Value → H) :
    ReturnsInHanded {} Try.checked os F.cuneiformlaw03_LensReads .any (Rows.lensReadsSpec.pre6 enc Try.prog Try.f4 Rows.lensReadsRow.domain false) (Rows.lensReadsSpec.post enc Try.prog Try.f4 false true false false) := by
  refine returnsInHanded_of_change (C := Try.checked) own started (by kernel_rfl) Try.func4
    (ChangeSpec.witness6 (enc := enc) (C := Try.checked) false ⟨#[], #[.slice none 0 0, .slice none 0 0], []⟩ 8 (by kernel_rfl) (by kernel_rfl) (by kernel_rfl) (by kernel_rfl)) ?_
  intro W base args ds gs before hval hW hcnd _
  refine law_calls (shs := [.slice (.int .u8), .slice shL]) (tb := 4) laidOut (by kernel_rfl) ?_ (by kernel_rfl) Try.underlying4 rfl ?_ ?_ hval hW
  · intro t ht
    have : ∀ t ∈ Try.f4.params.toList, (Try.prog.readableRec t && decide (t < Try.prog.types.size)) = true := List.all_eq_true.1 (by kernel_rfl)
    simpa using this t ht
  · intro H ds hd
    match ds, hd with
    | [d0, d1], _ => exact ⟨rfl, rfl, rfl⟩
  · rintro xs ⟨a, r, rfl, ha, b, r', rfl, hb, rfl⟩
    obtain ⟨bs, q1, q2, q3⟩ := nums_fits (k := .u8) rfl ha
    obtain ⟨acts, s1, s2, s3⟩ := lacts_fits hb
    exact fun_sees (.cons q1 (.cons s1 .nil)) (lensreads_ok (fun b hb => by have := bounds_u8 (q2 b hb); omega) s2 s3)

theorem proved : Rows.LensReadsSaid :=
  OpenClaim.holds_of_wide F.cuneiformlaw03_LensReads Try.f4 rfl rfl rfl rfl rfl rfl rfl ⟨rfl, rfl, rfl, rfl, rfl⟩ rfl rfl rfl rfl rfl (by kernel_rfl) Try.func4 (by kernel_rfl)
    (of_decide_eq_true (by kernel_rfl)) (by unfold Func.isWrapper; first | (rw [if_pos (by decide +kernel)]; kernel_rfl) | (rw [if_neg (by decide +kernel)]; exact ⟨rfl, rfl⟩))
    (fun os started H enc _ => lifted os started H enc)
end Go.Proofs.Ytebhlclfiiffbaa.lensReads
