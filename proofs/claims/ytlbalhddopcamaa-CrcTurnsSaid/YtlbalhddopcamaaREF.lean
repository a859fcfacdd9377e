/-
  Lemmas on the way to the statements of this seat. By an AI agent. No person has read it.
-/
import Derived.Test.YtlbalhddopcamaaSUM
import Derived.Test.YtlbalhddopcamaaCode
import Derived.Test.YtlbalhddopcamaaAm6

namespace Go.Proofs.Ytlbalhddopcamaa
open Go Go.Am
set_option linter.unusedSimpArgs false
set_option linter.unusedVariables false

/-! ### Words as truths -/

def arrB (f : Nat → Bool) : List AVal := (upTo 32).map fun i => .bool (f i)
def wb (w : Nat) : List AVal := arrB fun i => w.testBit i

theorem arrB_len (f : Nat → Bool) : (arrB f).length = 32 := by simp [arrB, upTo_eq]
theorem arrB_get (f : Nat → Bool) {i : Nat} (h : i < 32) : (arrB f).getD i .junk = .bool (f i) := by
  simp [arrB, upTo_eq, List.getD_eq_getElem?_getD, List.getElem?_range h]
theorem arrB_set (f : Nat → Bool) (i : Nat) (b : Bool) : (arrB f).set i (.bool b) = arrB fun x => if x = i then b else f x := by
  apply List.ext_getElem?
  intro j
  simp only [arrB, upTo_eq, List.getElem?_set, List.length_map, List.length_range, List.getElem?_map]
  by_cases hj : j < 32
  · rw [List.getElem?_range hj]
    by_cases hi : i = j
    · subst hi; simp [hj]
    · rw [if_neg hi]; simp [show ¬ j = i from fun e => hi e.symm]
  · by_cases hi : i = j
    · subst hi; simp [hj]
    · rw [if_neg hi]; simp [hj]
theorem arrB_congr {f g : Nat → Bool} (h : ∀ i, i < 32 → f i = g i) : arrB f = arrB g := by
  have : ∀ i ∈ upTo 32, (AVal.bool (f i)) = .bool (g i) := fun i hi => by rw [h i (by rw [upTo_eq] at hi; exact List.mem_range.1 hi)]
  exact List.map_congr_left this
theorem arrB_take (f : Nat → Bool) : (arrB f).take 32 = arrB f := List.take_of_length_le (by rw [arrB_len]; omega)
theorem arrB_closed {L : Nat} (f : Nat → Bool) : closeds L (arrB f) := closeds_all fun a ha => by
  obtain ⟨i, _, rfl⟩ := List.mem_map.1 ha; trivial
theorem arrB_cellish (f : Nat → Bool) : (arrB f).all AVal.cellish = true := by simp [arrB, AVal.cellish]
theorem arrB_fill (f g : Nat → Bool) : fillAt (arrB f) 0 (arrB g) = arrB g := by
  have key : ∀ (vs : List AVal) (cs : List AVal) (o : Nat), o + vs.length = cs.length → fillAt cs o vs = cs.take o ++ vs := by
    intro vs
    induction vs with
    | nil => intro cs o h; simp only [fillAt]; rw [List.take_of_length_le (by simp at h; omega), List.append_nil]
    | cons v vs ih =>
      intro cs o h
      simp only [fillAt]
      rw [ih _ _ (by simp at h ⊢; omega)]
      have ho : o < cs.length := by simp at h; omega
      rw [List.take_succ_eq_append_getElem (by simpa using ho), List.take_set, List.set_eq_of_length_le (by simp; omega)]
      simp
  rw [key _ _ _ (by rw [arrB_len, arrB_len])]
  simp
theorem false32 : [AVal.bool false, .bool false, .bool false, .bool false, .bool false, .bool false, .bool false, .bool false, .bool false, .bool false, .bool false, .bool false, .bool false, .bool false, .bool false, .bool false, .bool false, .bool false, .bool false, .bool false, .bool false, .bool false, .bool false, .bool false, .bool false, .bool false, .bool false, .bool false, .bool false, .bool false, .bool false, .bool false] = arrB fun _ => false := by
  rw [arrB, upTo_eq]; rfl

abbrev ofC : Ctx := ⟨F.cuneiformref04_Of, 17, [.cell 2 (some 32)], none⟩

theorem of_loop (K : List AItem) (H : AHeap) (Q : AVal → AHeap → Prop) (g : Nat → Bool)
    (hK : ∀ r', rget r' 2 = .ptr H.length 0 → rget r' 3 = .ptr (H.length + 1) 0 → Run Try.prog ofC K r' (H ++ [.cells (arrB fun _ => false) T.cuneiformref04_W, .cells (arrB g) T.cuneiformref04_W]) Q) :
    ∀ (m i n : Nat) (f : Nat → Bool), i + m = 32 → n < 4294967296 → (∀ j, j < 32 → g j = if i ≤ j then n.testBit (j - i) else f j) →
    Rounds Try.prog ofC cuneiformref04_Of.b0 [.inBlock 0] K [(0, .int .u32 (n : Nat)), (2, .ptr H.length 0), (3, .ptr (H.length + 1) 0), (4, .int .i64 (i : Nat))] (H ++ [.cells (arrB fun _ => false) T.cuneiformref04_W, .cells (arrB f) T.cuneiformref04_W]) Q
  | 0, i, n, f, h1, h2, h3 => by
    refine loop_V 100 cuneiformref04_Of.b0.eq_1 ?_
    have e : arrB f = arrB g := arrB_congr fun j hj => by rw [h3 j hj, if_neg (by omega)]
    rw [e]
    simp (disch := first | omega | (simp only [List.length_append, List.length_cons, List.length_nil, List.length_set, List.length_map, List.length_take, List.length_drop]; omega)) only [stdh, goK_s2b, dgoK_s2b, isEff_s2b, isPure_s2b, goK_b2s, dgoK_b2s, isEff_b2s, isPure_b2s, evalOp_s2b, s2bR, goK_mark, dgoK_mark, isEff_mark, isPure_mark, evalOp_mark, markA_slc, markB, ↓reduceIte, Nat.reduceEqDiff, Int.reduceToNat, Int.reducePow, Nat.reduceAdd, Nat.reduceLeDiff, Nat.reduceMul, Nat.reduceBEq, reduceCtorEq]
    exact hK _ rfl rfl
  | m + 1, i, n, f, h1, h2, h3 => by
    refine loop_V 100 cuneiformref04_Of.b0.eq_1 ?_
    have e1 : (n : Int).tmod 2 = ((n % 2 : Nat) : Int) := by rw [Int.tmod_eq_emod_of_nonneg (by omega)]; omega
    have e2 : decide (((n % 2 : Nat) : Int) = 1) = n.testBit 0 := by
      rw [Nat.testBit_zero]; congr 1; simp; omega
    have e3 : IntKind.u32.wrap ((n : Int).tdiv 2) = ((n / 2 : Nat) : Int) := by
      rw [Int.tdiv_eq_ediv_of_nonneg (by omega), wrap_u32 (by omega)]; omega
    simp (disch := first | omega | (simp only [List.length_append, List.length_cons, List.length_nil, List.length_set, List.length_map, List.length_take, List.length_drop]; omega)) only [stdh, goK_s2b, dgoK_s2b, isEff_s2b, isPure_s2b, goK_b2s, dgoK_b2s, isEff_b2s, isPure_b2s, evalOp_s2b, s2bR, goK_mark, dgoK_mark, isEff_mark, isPure_mark, evalOp_mark, markA_slc, markB, ↓reduceIte, Nat.reduceEqDiff, Int.reduceToNat, Int.reducePow, Nat.reduceAdd, Nat.reduceLeDiff, Nat.reduceMul, Nat.reduceBEq, reduceCtorEq, e1, e2, e3, arrB_len, arrB_set]
    refine of_loop K H Q g hK m (i + 1) (n / 2) _ (by omega) (by omega) fun j hj => ?_
    rw [h3 j hj]
    by_cases hij : j = i
    · subst hij
      rw [if_pos (by omega), if_neg (by omega), if_pos rfl, Nat.sub_self]
    · by_cases hlt : i < j
      · rw [if_pos (by omega), if_pos (by omega), show j - i = (j - (i + 1)) + 1 by omega, Nat.testBit_succ]
      · rw [if_neg (by omega), if_neg (by omega), if_neg hij]

theorem of_ok (H : AHeap) {n : Nat} (hn : n < 4294967296) (Q : AVal → AHeap → Prop) (h : Q (.agg (wb n)) H) : FunOK Try.prog F.cuneiformref04_Of [.int .u32 (n : Nat)] H Q := by
  refine fun_iced cuneiformref04_Of_code fun _ => ?_
  refine fun_V 100 cuneiformref04_Of_code rfl ?_
  simp (disch := first | omega | (simp only [List.length_append, List.length_cons, List.length_nil, List.length_set, List.length_map, List.length_take, List.length_drop]; omega)) only [stdh, goK_s2b, dgoK_s2b, isEff_s2b, isPure_s2b, goK_b2s, dgoK_b2s, isEff_b2s, isPure_b2s, evalOp_s2b, s2bR, goK_mark, dgoK_mark, isEff_mark, isPure_mark, evalOp_mark, markA_slc, markB, ↓reduceIte, Nat.reduceEqDiff, Int.reduceToNat, Int.reducePow, Nat.reduceAdd, Nat.reduceLeDiff, Nat.reduceMul, Nat.reduceBEq, reduceCtorEq, cuneiformref04_Of, cuneiformref04_Of.body, false32]
  refine of_loop _ H _ (fun j => n.testBit j) ?_ 32 0 n _ rfl hn (fun j hj => by rw [if_pos (by omega)]; rfl)
  intro r' g2 g3
  refine run_V0 60 ?_
  simp (disch := first | omega | (simp only [List.length_append, List.length_cons, List.length_nil, List.length_set, List.length_map, List.length_take, List.length_drop]; omega)) only [stdh, goK_s2b, dgoK_s2b, isEff_s2b, isPure_s2b, goK_b2s, dgoK_b2s, isEff_b2s, isPure_b2s, evalOp_s2b, s2bR, goK_mark, dgoK_mark, isEff_mark, isPure_mark, evalOp_mark, markA_slc, markB, ↓reduceIte, Nat.reduceEqDiff, Int.reduceToNat, Int.reducePow, Nat.reduceAdd, Nat.reduceLeDiff, Nat.reduceMul, Nat.reduceBEq, reduceCtorEq, g2, g3, arrB_len, arrB_take, arrB_fill, arrB_cellish]
  exact ice_none (arrB_closed _) h

abbrev wordC : Ctx := ⟨F.cuneiformref04_Word, 17, [.tmp 2], none⟩

theorem word_loop (K : List AItem) (H : AHeap) (Q : AVal → AHeap → Prop) {w : Nat} (hw : w < 4294967296) 
    (hK : ∀ r', rget r' 3 = .int .u32 (w : Nat) → Run Try.prog wordC K r' (H ++ [.cells (wb w) T.cuneiformref04_W]) Q) :
    ∀ (k n : Nat), k ≤ 32 → n = w / 2 ^ k →
    Rounds Try.prog wordC cuneiformref04_Word.b0 [.inBlock 0] K [(1, .ptr H.length 0), (3, .int .u32 (n : Nat)), (4, .int .i64 ((k : Int) - 1))] (H ++ [.cells (wb w) T.cuneiformref04_W]) Q
  | 0, n, h1, hn => by
    refine loop_V 100 cuneiformref04_Word.b0.eq_1 ?_
    have hn' : n = w := by simpa using hn
    subst hn'
    simp (disch := first | omega | (simp only [List.length_append, List.length_cons, List.length_nil, List.length_set, List.length_map, List.length_take, List.length_drop]; omega)) only [stdh, goK_s2b, dgoK_s2b, isEff_s2b, isPure_s2b, goK_b2s, dgoK_b2s, isEff_b2s, isPure_b2s, evalOp_s2b, s2bR, goK_mark, dgoK_mark, isEff_mark, isPure_mark, evalOp_mark, markA_slc, markB, ↓reduceIte, Nat.reduceEqDiff, Int.reduceToNat, Int.reducePow, Nat.reduceAdd, Nat.reduceLeDiff, Nat.reduceMul, Nat.reduceBEq, reduceCtorEq]
    exact hK _ rfl
  | k + 1, n, h1, hn => by
    refine loop_V 100 cuneiformref04_Word.b0.eq_1 ?_
    subst hn
    have hd : w / 2 ^ k = 2 * (w / 2 ^ (k + 1)) + (w / 2 ^ k) % 2 := by
      rw [Nat.pow_succ, ← Nat.div_div_eq_div_mul]; omega
    have hlt : w / 2 ^ k < 4294967296 := Nat.lt_of_le_of_lt (Nat.div_le_self _ _) hw
    have hb : w.testBit k = decide ((w / 2 ^ k) % 2 = 1) := Nat.testBit_eq_decide_div_mod_eq
    have ek : (((k + 1 : Nat) : Int) - 1) = (k : Int) := by omega
    have e1 : IntKind.u32.wrap (2 * ((w / 2 ^ (k + 1) : Nat) : Int)) = ((2 * (w / 2 ^ (k + 1)) : Nat) : Int) := by rw [wrap_u32 (by omega)]; omega
    have hg := arrB_get (fun i => w.testBit i) (i := k) (by omega)
    have hl : (wb w).length = 32 := arrB_len _
    rw [ek]
    rcases Nat.mod_two_eq_zero_or_one (w / 2 ^ k) with h0 | h0
    · have hg' : (wb w).getD k .junk = .bool false := by rw [wb, hg, hb, h0]; rfl
      simp (disch := first | omega | (simp only [List.length_append, List.length_cons, List.length_nil, List.length_set, List.length_map, List.length_take, List.length_drop]; omega)) only [stdh, goK_s2b, dgoK_s2b, isEff_s2b, isPure_s2b, goK_b2s, dgoK_b2s, isEff_b2s, isPure_b2s, evalOp_s2b, s2bR, goK_mark, dgoK_mark, isEff_mark, isPure_mark, evalOp_mark, markA_slc, markB, ↓reduceIte, Nat.reduceEqDiff, Int.reduceToNat, Int.reducePow, Nat.reduceAdd, Nat.reduceLeDiff, Nat.reduceMul, Nat.reduceBEq, reduceCtorEq, e1, hl, hg']
      exact word_loop K H Q hw hK k _ (by omega) (by omega)
    · have hg' : (wb w).getD k .junk = .bool true := by rw [wb, hg, hb, h0]; rfl
      have e2 : IntKind.u32.wrap (((2 * (w / 2 ^ (k + 1)) : Nat) : Int) + 1) = ((w / 2 ^ k : Nat) : Int) := by rw [wrap_u32 (by omega)]; omega
      simp (disch := first | omega | (simp only [List.length_append, List.length_cons, List.length_nil, List.length_set, List.length_map, List.length_take, List.length_drop]; omega)) only [stdh, goK_s2b, dgoK_s2b, isEff_s2b, isPure_s2b, goK_b2s, dgoK_b2s, isEff_b2s, isPure_b2s, evalOp_s2b, s2bR, goK_mark, dgoK_mark, isEff_mark, isPure_mark, evalOp_mark, markA_slc, markB, ↓reduceIte, Nat.reduceEqDiff, Int.reduceToNat, Int.reducePow, Nat.reduceAdd, Nat.reduceLeDiff, Nat.reduceMul, Nat.reduceBEq, reduceCtorEq, e1, hl, hg', e2]
      exact word_loop K H Q hw hK k _ (by omega) rfl

theorem word_ok (H : AHeap) {w : Nat} (hw : w < 4294967296) (Q : AVal → AHeap → Prop) (h : Q (.int .u32 (w : Nat)) H) : FunOK Try.prog F.cuneiformref04_Word [.agg (wb w)] H Q := by
  refine fun_iced cuneiformref04_Word_code fun _ => ?_
  refine fun_V 100 cuneiformref04_Word_code rfl ?_
  have hc : (wb w).all AVal.cellish = true := arrB_cellish _
  simp (disch := first | omega | (simp only [List.length_append, List.length_cons, List.length_nil, List.length_set, List.length_map, List.length_take, List.length_drop]; omega)) only [stdh, goK_s2b, dgoK_s2b, isEff_s2b, isPure_s2b, goK_b2s, dgoK_b2s, isEff_b2s, isPure_b2s, evalOp_s2b, s2bR, goK_mark, dgoK_mark, isEff_mark, isPure_mark, evalOp_mark, markA_slc, markB, ↓reduceIte, Nat.reduceEqDiff, Int.reduceToNat, Int.reducePow, Nat.reduceAdd, Nat.reduceLeDiff, Nat.reduceMul, Nat.reduceBEq, reduceCtorEq, cuneiformref04_Word, cuneiformref04_Word.body, hc]
  refine word_loop _ H _ hw ?_ 32 0 (by omega) (by rw [Nat.div_eq_of_lt hw])
  intro r' e
  refine run_V0 60 ?_
  simp (disch := first | omega | (simp only [List.length_append, List.length_cons, List.length_nil, List.length_set, List.length_map, List.length_take, List.length_drop]; omega)) only [stdh, goK_s2b, dgoK_s2b, isEff_s2b, isPure_s2b, goK_b2s, dgoK_b2s, isEff_b2s, isPure_b2s, evalOp_s2b, s2bR, goK_mark, dgoK_mark, isEff_mark, isPure_mark, evalOp_mark, markA_slc, markB, ↓reduceIte, Nat.reduceEqDiff, Int.reduceToNat, Int.reducePow, Nat.reduceAdd, Nat.reduceLeDiff, Nat.reduceMul, Nat.reduceBEq, reduceCtorEq, e]
  exact ice_none trivial h

abbrev xorC : Ctx := ⟨F.cuneiformref04_Xor, 20, [.cell 4 (some 32)], none⟩

theorem xor_loop (K : List AItem) (H : AHeap) (Q : AVal → AHeap → Prop) (f g : Nat → Bool)
    (hK : ∀ r', rget r' 2 = .ptr H.length 0 → rget r' 4 = .ptr (H.length + 2) 0 → Run Try.prog xorC K r' (H ++ [.cells (arrB fun i => f i != g i) T.cuneiformref04_W, .cells (arrB g) T.cuneiformref04_W, .cells (arrB fun _ => false) T.cuneiformref04_W]) Q) :
    ∀ (m i : Nat), i + m = 32 →
    Rounds Try.prog xorC cuneiformref04_Xor.b1 [.inBlock 0] K [(2, .ptr H.length 0), (3, .ptr (H.length + 1) 0), (4, .ptr (H.length + 2) 0), (5, .int .i64 (i : Nat))] (H ++ [.cells (arrB fun j => if j < i then f j != g j else f j) T.cuneiformref04_W, .cells (arrB g) T.cuneiformref04_W, .cells (arrB fun _ => false) T.cuneiformref04_W]) Q
  | 0, i, h1 => by
    refine loop_V 100 cuneiformref04_Xor.b1.eq_1 ?_
    have e : arrB (fun j => if j < i then f j != g j else f j) = arrB fun i => f i != g i := arrB_congr fun j hj => by rw [if_pos (by omega)]
    rw [e]
    simp (disch := first | omega | (simp only [List.length_append, List.length_cons, List.length_nil, List.length_set, List.length_map, List.length_take, List.length_drop]; omega)) only [stdh, goK_s2b, dgoK_s2b, isEff_s2b, isPure_s2b, goK_b2s, dgoK_b2s, isEff_b2s, isPure_b2s, evalOp_s2b, s2bR, goK_mark, dgoK_mark, isEff_mark, isPure_mark, evalOp_mark, markA_slc, markB, ↓reduceIte, Nat.reduceEqDiff, Int.reduceToNat, Int.reducePow, Nat.reduceAdd, Nat.reduceLeDiff, Nat.reduceMul, Nat.reduceBEq, reduceCtorEq]
    exact hK _ rfl rfl
  | m + 1, i, h1 => by
    refine loop_V 100 cuneiformref04_Xor.b1.eq_1 ?_
    have hi : i < 32 := by omega
    have g1 := arrB_get (fun j => if j < i then f j != g j else f j) hi
    rw [if_neg (by omega)] at g1
    have g2 := arrB_get g hi
    have e : (arrB fun x => if x = i then (f i != g i) else if x < i then f x != g x else f x) = arrB fun j => if j < i + 1 then f j != g j else f j := arrB_congr fun j hj => by
      by_cases hij : j = i
      · subst hij; rw [if_pos rfl, if_pos (by omega)]
      · rw [if_neg hij]
        by_cases hlt : j < i
        · rw [if_pos hlt, if_pos (by omega)]
        · rw [if_neg hlt, if_neg (by omega)]
    have eb : (!decide (f i = g i)) = (f i != g i) := by cases f i <;> cases g i <;> rfl
    simp (disch := first | omega | (simp only [List.length_append, List.length_cons, List.length_nil, List.length_set, List.length_map, List.length_take, List.length_drop]; omega)) only [stdh, goK_s2b, dgoK_s2b, isEff_s2b, isPure_s2b, goK_b2s, dgoK_b2s, isEff_b2s, isPure_b2s, evalOp_s2b, s2bR, goK_mark, dgoK_mark, isEff_mark, isPure_mark, evalOp_mark, markA_slc, markB, ↓reduceIte, Nat.reduceEqDiff, Int.reduceToNat, Int.reducePow, Nat.reduceAdd, Nat.reduceLeDiff, Nat.reduceMul, Nat.reduceBEq, reduceCtorEq, cuneiformref04_Xor.d0, arrB_len, g1, g2, arrB_set, eb]
    rw [e]
    exact xor_loop K H Q f g hK m (i + 1) (by omega)

theorem xorW_ok (H : AHeap) (f g : Nat → Bool) (Q : AVal → AHeap → Prop) (h : Q (.agg (arrB fun i => f i != g i)) H) : FunOK Try.prog F.cuneiformref04_Xor [.agg (arrB f), .agg (arrB g)] H Q := by
  refine fun_iced cuneiformref04_Xor_code fun _ => ?_
  refine fun_V 100 cuneiformref04_Xor_code rfl ?_
  simp (disch := first | omega | (simp only [List.length_append, List.length_cons, List.length_nil, List.length_set, List.length_map, List.length_take, List.length_drop]; omega)) only [stdh, goK_s2b, dgoK_s2b, isEff_s2b, isPure_s2b, goK_b2s, dgoK_b2s, isEff_b2s, isPure_b2s, evalOp_s2b, s2bR, goK_mark, dgoK_mark, isEff_mark, isPure_mark, evalOp_mark, markA_slc, markB, ↓reduceIte, Nat.reduceEqDiff, Int.reduceToNat, Int.reducePow, Nat.reduceAdd, Nat.reduceLeDiff, Nat.reduceMul, Nat.reduceBEq, reduceCtorEq, cuneiformref04_Xor, cuneiformref04_Xor.body, false32, arrB_cellish]
  have e : arrB f = arrB (fun j => if j < 0 then f j != g j else f j) := arrB_congr fun j hj => by simp
  rw [e]
  refine xor_loop _ H _ f g ?_ 32 0 rfl
  intro r' g2 g4
  refine run_V0 60 ?_
  simp (disch := first | omega | (simp only [List.length_append, List.length_cons, List.length_nil, List.length_set, List.length_map, List.length_take, List.length_drop]; omega)) only [stdh, goK_s2b, dgoK_s2b, isEff_s2b, isPure_s2b, goK_b2s, dgoK_b2s, isEff_b2s, isPure_b2s, evalOp_s2b, s2bR, goK_mark, dgoK_mark, isEff_mark, isPure_mark, evalOp_mark, markA_slc, markB, ↓reduceIte, Nat.reduceEqDiff, Int.reduceToNat, Int.reducePow, Nat.reduceAdd, Nat.reduceLeDiff, Nat.reduceMul, Nat.reduceBEq, reduceCtorEq, g2, g4, arrB_len, arrB_take, arrB_fill, arrB_cellish]
  exact ice_none (arrB_closed _) h

theorem wb_xor (a b : Nat) : (arrB fun i => (a.testBit i != b.testBit i)) = wb (a ^^^ b) := arrB_congr fun i hi => by rw [Nat.testBit_xor]
theorem xor_ok (H : AHeap) (a b : Nat) (Q : AVal → AHeap → Prop) (h : Q (.agg (wb (a ^^^ b))) H) : FunOK Try.prog F.cuneiformref04_Xor [.agg (wb a), .agg (wb b)] H Q :=
  xorW_ok H _ _ Q (by rw [wb_xor]; exact h)

abbrev shiftC : Ctx := ⟨F.cuneiformref04_Shift, 30, [.cell 2 (some 32)], none⟩

/-- The heap of Shift. -/
def shH (H : AHeap) (f : Nat → Bool) : AHeap := H ++ [.cells (arrB f) T.cuneiformref04_W, .cells (arrB fun _ => false) T.cuneiformref04_W, .cells (wb pol) T.cuneiformref04_W]

theorem shift_inner (K : List AItem) (H : AHeap) (Q : AVal → AHeap → Prop) (f : Nat → Bool) (o : Bool) (k : Nat)
    (hK : ∀ r', rget r' 1 = .ptr H.length 0 → rget r' 2 = .ptr (H.length + 1) 0 → rget r' 3 = .ptr (H.length + 2) 0 → rget r' 4 = .int .i64 (k : Nat) → rget r' 5 = .bool o →
      Run Try.prog shiftC K r' (shH H fun j => if j < 31 then f (j + 1) else f j) Q) :
    ∀ (m i : Nat), i + m = 31 →
    Rounds Try.prog shiftC cuneiformref04_Shift.b0 [.inBlock 2] K [(1, .ptr H.length 0), (2, .ptr (H.length + 1) 0), (3, .ptr (H.length + 2) 0), (4, .int .i64 (k : Nat)), (5, .bool o), (6, .int .i64 (i : Nat))] (shH H fun j => if j < i then f (j + 1) else f j) Q
  | 0, i, h1 => by
    refine loop_V 100 cuneiformref04_Shift.b0.eq_1 ?_
    have : i = 31 := by omega
    subst this
    simp (disch := first | omega | (simp only [List.length_append, List.length_cons, List.length_nil, List.length_set, List.length_map, List.length_take, List.length_drop]; omega)) only [stdh, goK_s2b, dgoK_s2b, isEff_s2b, isPure_s2b, goK_b2s, dgoK_b2s, isEff_b2s, isPure_b2s, evalOp_s2b, s2bR, goK_mark, dgoK_mark, isEff_mark, isPure_mark, evalOp_mark, markA_slc, markB, ↓reduceIte, Nat.reduceEqDiff, Int.reduceToNat, Int.reducePow, Nat.reduceAdd, Nat.reduceLeDiff, Nat.reduceMul, Nat.reduceBEq, reduceCtorEq]
    exact hK _ rfl rfl rfl rfl rfl
  | m + 1, i, h1 => by
    refine loop_V 100 cuneiformref04_Shift.b0.eq_1 ?_
    have g1 := arrB_get (fun j => if j < i then f (j + 1) else f j) (i := i + 1) (by omega)
    rw [if_neg (by omega)] at g1
    have e : (arrB fun x => if x = i then f (i + 1) else if x < i then f (x + 1) else f x) = arrB fun j => if j < i + 1 then f (j + 1) else f j := arrB_congr fun j hj => by
      by_cases hij : j = i
      · subst hij; rw [if_pos rfl, if_pos (by omega)]
      · rw [if_neg hij]
        by_cases hlt : j < i
        · rw [if_pos hlt, if_pos (by omega)]
        · rw [if_neg hlt, if_neg (by omega)]
    have ei : ((i : Int) + 1).toNat = i + 1 := by omega
    simp (disch := first | omega | (simp only [List.length_append, List.length_cons, List.length_nil, List.length_set, List.length_map, List.length_take, List.length_drop]; omega)) only [stdh, goK_s2b, dgoK_s2b, isEff_s2b, isPure_s2b, goK_b2s, dgoK_b2s, isEff_b2s, isPure_b2s, evalOp_s2b, s2bR, goK_mark, dgoK_mark, isEff_mark, isPure_mark, evalOp_mark, markA_slc, markB, ↓reduceIte, Nat.reduceEqDiff, Int.reduceToNat, Int.reducePow, Nat.reduceAdd, Nat.reduceLeDiff, Nat.reduceMul, Nat.reduceBEq, reduceCtorEq, shH, arrB_len, g1, arrB_set, ei]
    rw [e]
    exact shift_inner K H Q f o k hK m (i + 1) (by omega)

theorem sh1_bits {w : Nat} (hw : w < 4294967296) (i : Nat) (hi : i < 32) : (sh1 w).testBit i = ((if i = 31 then false else w.testBit (i + 1)) != (w.testBit 0 && pol.testBit i)) := by
  unfold sh1
  rw [Nat.testBit_xor]
  have e1 : (w / 2).testBit i = if i = 31 then false else w.testBit (i + 1) := by
    by_cases h : i = 31
    · rw [if_pos h]; subst h
      exact Nat.testBit_lt_two_pow (by omega)
    · rw [if_neg h, Nat.testBit_succ]
  have e2 : (if w % 2 = 1 then pol else 0).testBit i = (w.testBit 0 && pol.testBit i) := by
    rw [Nat.testBit_zero]
    rcases Nat.mod_two_eq_zero_or_one w with h | h <;> rw [h] <;> simp
  rw [e1, e2]

theorem shift_outer (K : List AItem) (H : AHeap) (Q : AVal → AHeap → Prop) {v : Nat}
    (hK : ∀ r', rget r' 1 = .ptr H.length 0 → rget r' 2 = .ptr (H.length + 1) 0 → Run Try.prog shiftC K r' (shH H fun j => v.testBit j) Q) :
    ∀ (m k w : Nat), k + m = 8 → w < 4294967296 → shN m w = v →
    Rounds Try.prog shiftC cuneiformref04_Shift.b1 [.inBlock 0] K [(1, .ptr H.length 0), (2, .ptr (H.length + 1) 0), (3, .ptr (H.length + 2) 0), (4, .int .i64 (k : Nat))] (shH H fun j => w.testBit j) Q
  | 0, k, w, h1, h2, h3 => by
    refine loop_V 100 cuneiformref04_Shift.b1.eq_1 ?_
    have h3' : w = v := h3
    subst h3'
    simp (disch := first | omega | (simp only [List.length_append, List.length_cons, List.length_nil, List.length_set, List.length_map, List.length_take, List.length_drop]; omega)) only [stdh, goK_s2b, dgoK_s2b, isEff_s2b, isPure_s2b, goK_b2s, dgoK_b2s, isEff_b2s, isPure_b2s, evalOp_s2b, s2bR, goK_mark, dgoK_mark, isEff_mark, isPure_mark, evalOp_mark, markA_slc, markB, ↓reduceIte, Nat.reduceEqDiff, Int.reduceToNat, Int.reducePow, Nat.reduceAdd, Nat.reduceLeDiff, Nat.reduceMul, Nat.reduceBEq, reduceCtorEq]
    exact hK _ rfl rfl
  | m + 1, k, w, h1, h2, h3 => by
    refine loop_V 100 cuneiformref04_Shift.b1.eq_1 ?_
    have g1 := arrB_get (fun j => w.testBit j) (i := 0) (by omega)
    simp (disch := first | omega | (simp only [List.length_append, List.length_cons, List.length_nil, List.length_set, List.length_map, List.length_take, List.length_drop]; omega)) only [stdh, goK_s2b, dgoK_s2b, isEff_s2b, isPure_s2b, goK_b2s, dgoK_b2s, isEff_b2s, isPure_b2s, evalOp_s2b, s2bR, goK_mark, dgoK_mark, isEff_mark, isPure_mark, evalOp_mark, markA_slc, markB, ↓reduceIte, Nat.reduceEqDiff, Int.reduceToNat, Int.reducePow, Nat.reduceAdd, Nat.reduceLeDiff, Nat.reduceMul, Nat.reduceBEq, reduceCtorEq, shH, arrB_len, g1]
    have e : arrB (fun j => w.testBit j) = arrB fun j => if j < 0 then w.testBit (j + 1) else w.testBit j := arrB_congr fun j hj => by simp
    rw [e]
    refine shift_inner _ H Q (fun j => w.testBit j) (w.testBit 0) k ?_ 31 0 rfl
    intro r' a1 a2 a3 a4 a5
    have e5 : (arrB fun x => if x = 31 then false else if x < 31 then w.testBit (x + 1) else w.testBit x) = arrB fun x => if x = 31 then false else w.testBit (x + 1) := arrB_congr fun j hj => by
      by_cases h : j = 31
      · rw [if_pos h, if_pos h]
      · rw [if_neg h, if_neg h, if_pos (by omega)]
    refine run_VT 100 [_, _, _, _, _] K rfl ?_
    cases ho : w.testBit 0 with
    | false =>
      rw [ho] at a5
      simp (disch := first | omega | (simp only [List.length_append, List.length_cons, List.length_nil, List.length_set, List.length_map, List.length_take, List.length_drop]; omega)) only [stdh, goK_s2b, dgoK_s2b, isEff_s2b, isPure_s2b, goK_b2s, dgoK_b2s, isEff_b2s, isPure_b2s, evalOp_s2b, s2bR, goK_mark, dgoK_mark, isEff_mark, isPure_mark, evalOp_mark, markA_slc, markB, ↓reduceIte, Nat.reduceEqDiff, Int.reduceToNat, Int.reducePow, Nat.reduceAdd, Nat.reduceLeDiff, Nat.reduceMul, Nat.reduceBEq, reduceCtorEq, shH, a1, a2, a3, a4, a5, arrB_len, arrB_set]
      have e6 : (arrB fun x => if x = 31 then false else if x < 31 then w.testBit (x + 1) else w.testBit x) = arrB fun j => (sh1 w).testBit j := by
        rw [e5]
        exact arrB_congr fun j hj => by rw [sh1_bits h2 j hj, ho]; simp
      rw [e6]
      exact shift_outer K H Q hK m (k + 1) (sh1 w) (by omega) (sh1_lt h2) h3
    | true =>
      rw [ho] at a5
      simp (disch := first | omega | (simp only [List.length_append, List.length_cons, List.length_nil, List.length_set, List.length_map, List.length_take, List.length_drop]; omega)) only [stdh, goK_s2b, dgoK_s2b, isEff_s2b, isPure_s2b, goK_b2s, dgoK_b2s, isEff_b2s, isPure_b2s, evalOp_s2b, s2bR, goK_mark, dgoK_mark, isEff_mark, isPure_mark, evalOp_mark, markA_slc, markB, ↓reduceIte, Nat.reduceEqDiff, Int.reduceToNat, Int.reducePow, Nat.reduceAdd, Nat.reduceLeDiff, Nat.reduceMul, Nat.reduceBEq, reduceCtorEq, shH, a1, a2, a3, a4, a5, arrB_len, arrB_set, arrB_take, wb]
      have e6 : (arrB fun x => (if x = 31 then false else if x < 31 then w.testBit (x + 1) else w.testBit x) != pol.testBit x) = arrB fun j => (sh1 w).testBit j := arrB_congr fun j hj => by
        rw [sh1_bits h2 j hj, ho]
        by_cases h : j = 31
        · rw [if_pos h, if_pos h]; simp
        · rw [if_neg h, if_neg h, if_pos (by omega)]; simp
      refine callK_fn (xorW_ok _ _ _ _ ?_)
      rw [e6]
      refine runL_V 60 ?_
      simp (disch := first | omega | (simp only [List.length_append, List.length_cons, List.length_nil, List.length_set, List.length_map, List.length_take, List.length_drop]; omega)) only [stdh, goK_s2b, dgoK_s2b, isEff_s2b, isPure_s2b, goK_b2s, dgoK_b2s, isEff_b2s, isPure_b2s, evalOp_s2b, s2bR, goK_mark, dgoK_mark, isEff_mark, isPure_mark, evalOp_mark, markA_slc, markB, ↓reduceIte, Nat.reduceEqDiff, Int.reduceToNat, Int.reducePow, Nat.reduceAdd, Nat.reduceLeDiff, Nat.reduceMul, Nat.reduceBEq, reduceCtorEq, arrB_len, arrB_fill, arrB_cellish]
      exact shift_outer K H Q hK m (k + 1) (sh1 w) (by omega) (sh1_lt h2) h3

theorem shiftW_ok (H : AHeap) {w : Nat} (hw : w < 4294967296) (Q : AVal → AHeap → Prop) (h : Q (.agg (wb (sh8 w))) H) : FunOK Try.prog F.cuneiformref04_Shift [.agg (wb w)] H Q := by
  refine fun_iced cuneiformref04_Shift_code fun _ => ?_
  refine fun_V 100 cuneiformref04_Shift_code rfl ?_
  have hc : (wb w).all AVal.cellish = true := arrB_cellish _
  simp (disch := first | omega | (simp only [List.length_append, List.length_cons, List.length_nil, List.length_set, List.length_map, List.length_take, List.length_drop]; omega)) only [stdh, goK_s2b, dgoK_s2b, isEff_s2b, isPure_s2b, goK_b2s, dgoK_b2s, isEff_b2s, isPure_b2s, evalOp_s2b, s2bR, goK_mark, dgoK_mark, isEff_mark, isPure_mark, evalOp_mark, markA_slc, markB, ↓reduceIte, Nat.reduceEqDiff, Int.reduceToNat, Int.reducePow, Nat.reduceAdd, Nat.reduceLeDiff, Nat.reduceMul, Nat.reduceBEq, reduceCtorEq, cuneiformref04_Shift, cuneiformref04_Shift.body, false32, hc]
  refine callK_fn (of_ok (n := pol) _ (by decide) _ ?_)
  refine runL_V 60 ?_
  have hf : fillAt (arrB fun _ => false) 0 (wb pol) = wb pol := arrB_fill _ _
  have hl : (wb pol).length = 32 := arrB_len _
  have hc2 : (wb pol).all AVal.cellish = true := arrB_cellish _
  simp (disch := first | omega | (simp only [List.length_append, List.length_cons, List.length_nil, List.length_set, List.length_map, List.length_take, List.length_drop]; omega)) only [stdh, goK_s2b, dgoK_s2b, isEff_s2b, isPure_s2b, goK_b2s, dgoK_b2s, isEff_b2s, isPure_b2s, evalOp_s2b, s2bR, goK_mark, dgoK_mark, isEff_mark, isPure_mark, evalOp_mark, markA_slc, markB, ↓reduceIte, Nat.reduceEqDiff, Int.reduceToNat, Int.reducePow, Nat.reduceAdd, Nat.reduceLeDiff, Nat.reduceMul, Nat.reduceBEq, reduceCtorEq, arrB_len, hf, hl, hc2]
  refine shift_outer _ H _ (v := sh8 w) ?_ 8 0 w rfl hw rfl
  intro r' a1 a2
  refine run_V0 60 ?_
  simp (disch := first | omega | (simp only [List.length_append, List.length_cons, List.length_nil, List.length_set, List.length_map, List.length_take, List.length_drop]; omega)) only [stdh, goK_s2b, dgoK_s2b, isEff_s2b, isPure_s2b, goK_b2s, dgoK_b2s, isEff_b2s, isPure_b2s, evalOp_s2b, s2bR, goK_mark, dgoK_mark, isEff_mark, isPure_mark, evalOp_mark, markA_slc, markB, ↓reduceIte, Nat.reduceEqDiff, Int.reduceToNat, Int.reducePow, Nat.reduceAdd, Nat.reduceLeDiff, Nat.reduceMul, Nat.reduceBEq, reduceCtorEq, shH, a1, a2, arrB_len, arrB_take, arrB_fill, arrB_cellish]
  exact ice_none (arrB_closed _) h

abbrev rsumC : Ctx := ⟨F.cuneiformref04_Sum, 24, [.tmp 2], none⟩

theorem rsum_loop (K : List AItem) (H : AHeap) (Q : AVal → AHeap → Prop) {t : Bool} {bs : List Nat} (hlen : bs.length ≤ 9223372036854775807) (hb : ∀ b ∈ bs, b < 256) {v : Nat}
    (hK : ∀ r' w, w = v → w < 4294967296 → rget r' 3 = .ptr H.length 0 → Run Try.prog rsumC K r' (H ++ [.cells (wb w) T.cuneiformref04_W]) Q) :
    ∀ (m j s : Nat), j + m = bs.length → s < 4294967296 → addAll s (bs.drop j) = v →
    Rounds Try.prog rsumC cuneiformref04_Sum.b1 [.inBlock 0] K [(0, nums .u8 t bs), (3, .ptr H.length 0), (4, .int .i64 (j : Nat))] (H ++ [.cells (wb s) T.cuneiformref04_W]) Q
  | 0, j, s, h1, h2, h3 => by
    refine loop_V 100 cuneiformref04_Sum.b1.eq_1 ?_
    rw [List.drop_eq_nil_of_le (by omega)] at h3
    simp (disch := first | omega | (simp only [List.length_append, List.length_cons, List.length_nil, List.length_set, List.length_map, List.length_take, List.length_drop]; omega)) only [stdh, goK_s2b, dgoK_s2b, isEff_s2b, isPure_s2b, goK_b2s, dgoK_b2s, isEff_b2s, isPure_b2s, evalOp_s2b, s2bR, goK_mark, dgoK_mark, isEff_mark, isPure_mark, evalOp_mark, markA_slc, markB, ↓reduceIte, Nat.reduceEqDiff, Int.reduceToNat, Int.reducePow, Nat.reduceAdd, Nat.reduceLeDiff, Nat.reduceMul, Nat.reduceBEq, reduceCtorEq]
    exact hK _ _ h3 h2 rfl
  | m + 1, j, s, h1, h2, h3 => by
    refine loop_V 100 cuneiformref04_Sum.b1.eq_1 ?_
    have hj : j < bs.length := by omega
    rw [List.drop_eq_getElem_cons hj] at h3
    have hb' : bs.getD j 0 < 256 := by
      rw [List.getD_eq_getElem?_getD]; simp [hj]; exact hb _ (List.getElem_mem hj)
    have hbe : bs[j] = bs.getD j 0 := by simp [hj]
    rw [hbe] at h3
    generalize hce : bs.getD j 0 = c at *
    have hl : (wb s).length = 32 := arrB_len _
    have ht : (wb s).take 32 = wb s := arrB_take _
    simp (disch := first | omega | (simp only [List.length_append, List.length_cons, List.length_nil, List.length_set, List.length_map, List.length_take, List.length_drop]; omega)) only [stdh, goK_s2b, dgoK_s2b, isEff_s2b, isPure_s2b, goK_b2s, dgoK_b2s, isEff_b2s, isPure_b2s, evalOp_s2b, s2bR, goK_mark, dgoK_mark, isEff_mark, isPure_mark, evalOp_mark, markA_slc, markB, ↓reduceIte, Nat.reduceEqDiff, Int.reduceToNat, Int.reducePow, Nat.reduceAdd, Nat.reduceLeDiff, Nat.reduceMul, Nat.reduceBEq, reduceCtorEq, cuneiformref04_Sum.d0, hce, hl, ht]
    refine callD_fn (of_ok _ (by omega) _ ?_)
    refine ⟨by simp (disch := first | omega | (simp only [List.length_append, List.length_cons, List.length_nil, List.length_set, List.length_map, List.length_take, List.length_drop]; omega)) only [stdh, goK_s2b, dgoK_s2b, isEff_s2b, isPure_s2b, goK_b2s, dgoK_b2s, isEff_b2s, isPure_b2s, evalOp_s2b, s2bR, goK_mark, dgoK_mark, isEff_mark, isPure_mark, evalOp_mark, markA_slc, markB, ↓reduceIte, Nat.reduceEqDiff, Int.reduceToNat, Int.reducePow, Nat.reduceAdd, Nat.reduceLeDiff, Nat.reduceMul, Nat.reduceBEq, reduceCtorEq, hl, ht], ?_⟩
    refine runD_V 60 ?_
    simp (disch := first | omega | (simp only [List.length_append, List.length_cons, List.length_nil, List.length_set, List.length_map, List.length_take, List.length_drop]; omega)) only [stdh, goK_s2b, dgoK_s2b, isEff_s2b, isPure_s2b, goK_b2s, dgoK_b2s, isEff_b2s, isPure_b2s, evalOp_s2b, s2bR, goK_mark, dgoK_mark, isEff_mark, isPure_mark, evalOp_mark, markA_slc, markB, ↓reduceIte, Nat.reduceEqDiff, Int.reduceToNat, Int.reducePow, Nat.reduceAdd, Nat.reduceLeDiff, Nat.reduceMul, Nat.reduceBEq, reduceCtorEq]
    refine callD_fn (xor_ok _ _ _ _ ?_)
    refine ⟨by simp (disch := first | omega | (simp only [List.length_append, List.length_cons, List.length_nil, List.length_set, List.length_map, List.length_take, List.length_drop]; omega)) only [stdh, goK_s2b, dgoK_s2b, isEff_s2b, isPure_s2b, goK_b2s, dgoK_b2s, isEff_b2s, isPure_b2s, evalOp_s2b, s2bR, goK_mark, dgoK_mark, isEff_mark, isPure_mark, evalOp_mark, markA_slc, markB, ↓reduceIte, Nat.reduceEqDiff, Int.reduceToNat, Int.reducePow, Nat.reduceAdd, Nat.reduceLeDiff, Nat.reduceMul, Nat.reduceBEq, reduceCtorEq], ?_⟩
    refine runD_V 60 ?_
    simp (disch := first | omega | (simp only [List.length_append, List.length_cons, List.length_nil, List.length_set, List.length_map, List.length_take, List.length_drop]; omega)) only [stdh, goK_s2b, dgoK_s2b, isEff_s2b, isPure_s2b, goK_b2s, dgoK_b2s, isEff_b2s, isPure_b2s, evalOp_s2b, s2bR, goK_mark, dgoK_mark, isEff_mark, isPure_mark, evalOp_mark, markA_slc, markB, ↓reduceIte, Nat.reduceEqDiff, Int.reduceToNat, Int.reducePow, Nat.reduceAdd, Nat.reduceLeDiff, Nat.reduceMul, Nat.reduceBEq, reduceCtorEq]
    refine callD_fn (shiftW_ok _ (xor_lt h2 (by omega)) _ ?_)
    refine ⟨by simp (disch := first | omega | (simp only [List.length_append, List.length_cons, List.length_nil, List.length_set, List.length_map, List.length_take, List.length_drop]; omega)) only [stdh, goK_s2b, dgoK_s2b, isEff_s2b, isPure_s2b, goK_b2s, dgoK_b2s, isEff_b2s, isPure_b2s, evalOp_s2b, s2bR, goK_mark, dgoK_mark, isEff_mark, isPure_mark, evalOp_mark, markA_slc, markB, ↓reduceIte, Nat.reduceEqDiff, Int.reduceToNat, Int.reducePow, Nat.reduceAdd, Nat.reduceLeDiff, Nat.reduceMul, Nat.reduceBEq, reduceCtorEq], ?_⟩
    refine runD_V 60 ?_
    have hf : fillAt (wb s) 0 (wb (sh8 (s ^^^ c))) = wb (sh8 (s ^^^ c)) := arrB_fill _ _
    have hl2 : (wb (sh8 (s ^^^ c))).length = 32 := arrB_len _
    have hc2 : (wb (sh8 (s ^^^ c))).all AVal.cellish = true := arrB_cellish _
    simp (disch := first | omega | (simp only [List.length_append, List.length_cons, List.length_nil, List.length_set, List.length_map, List.length_take, List.length_drop]; omega)) only [stdh, goK_s2b, dgoK_s2b, isEff_s2b, isPure_s2b, goK_b2s, dgoK_b2s, isEff_b2s, isPure_b2s, evalOp_s2b, s2bR, goK_mark, dgoK_mark, isEff_mark, isPure_mark, evalOp_mark, markA_slc, markB, ↓reduceIte, Nat.reduceEqDiff, Int.reduceToNat, Int.reducePow, Nat.reduceAdd, Nat.reduceLeDiff, Nat.reduceMul, Nat.reduceBEq, reduceCtorEq, hl, hf, hl2, hc2]
    exact rsum_loop K H Q hlen hb hK m (j + 1) (add1 s c) (by omega) (add1_lt h2 hb') h3

theorem rsum_ok (H : AHeap) {t : Bool} {bs : List Nat} (hlen : bs.length ≤ 9223372036854775807) (hb : ∀ b ∈ bs, b < 256) (Q : AVal → AHeap → Prop) (h : Q (.int .u32 (sumOf bs : Nat)) H) :
    FunOK Try.prog F.cuneiformref04_Sum [nums .u8 t bs] H Q := by
  refine fun_iced cuneiformref04_Sum_code fun _ => ?_
  refine fun_V 100 cuneiformref04_Sum_code rfl ?_
  simp (disch := first | omega | (simp only [List.length_append, List.length_cons, List.length_nil, List.length_set, List.length_map, List.length_take, List.length_drop]; omega)) only [stdh, goK_s2b, dgoK_s2b, isEff_s2b, isPure_s2b, goK_b2s, dgoK_b2s, isEff_b2s, isPure_b2s, evalOp_s2b, s2bR, goK_mark, dgoK_mark, isEff_mark, isPure_mark, evalOp_mark, markA_slc, markB, ↓reduceIte, Nat.reduceEqDiff, Int.reduceToNat, Int.reducePow, Nat.reduceAdd, Nat.reduceLeDiff, Nat.reduceMul, Nat.reduceBEq, reduceCtorEq, cuneiformref04_Sum, cuneiformref04_Sum.body, false32]
  refine callK_fn (of_ok (n := 4294967295) _ (by decide) _ ?_)
  refine runL_V 60 ?_
  have hf : fillAt (arrB fun _ => false) 0 (wb 4294967295) = wb 4294967295 := arrB_fill _ _
  have hl : (wb 4294967295).length = 32 := arrB_len _
  have hc2 : (wb 4294967295).all AVal.cellish = true := arrB_cellish _
  simp (disch := first | omega | (simp only [List.length_append, List.length_cons, List.length_nil, List.length_set, List.length_map, List.length_take, List.length_drop]; omega)) only [stdh, goK_s2b, dgoK_s2b, isEff_s2b, isPure_s2b, goK_b2s, dgoK_b2s, isEff_b2s, isPure_b2s, evalOp_s2b, s2bR, goK_mark, dgoK_mark, isEff_mark, isPure_mark, evalOp_mark, markA_slc, markB, ↓reduceIte, Nat.reduceEqDiff, Int.reduceToNat, Int.reducePow, Nat.reduceAdd, Nat.reduceLeDiff, Nat.reduceMul, Nat.reduceBEq, reduceCtorEq, arrB_len, hf, hl, hc2]
  refine rsum_loop _ H _ hlen hb (v := addAll 4294967295 bs) ?_ bs.length 0 4294967295 (by omega) (by omega) rfl
  intro r' w e hw a3
  refine run_V0 60 ?_
  have hl2 : (wb w).length = 32 := arrB_len _
  have ht2 : (wb w).take 32 = wb w := arrB_take _
  simp (disch := first | omega | (simp only [List.length_append, List.length_cons, List.length_nil, List.length_set, List.length_map, List.length_take, List.length_drop]; omega)) only [stdh, goK_s2b, dgoK_s2b, isEff_s2b, isPure_s2b, goK_b2s, dgoK_b2s, isEff_b2s, isPure_b2s, evalOp_s2b, s2bR, goK_mark, dgoK_mark, isEff_mark, isPure_mark, evalOp_mark, markA_slc, markB, ↓reduceIte, Nat.reduceEqDiff, Int.reduceToNat, Int.reducePow, Nat.reduceAdd, Nat.reduceLeDiff, Nat.reduceMul, Nat.reduceBEq, reduceCtorEq, a3, hl2, ht2]
  refine callK_fn (word_ok _ hw _ ?_)
  refine runL_V 60 ?_
  have e9 : IntKind.u32.wrap (4294967295 - (w : Int)) = ((4294967295 - w : Nat) : Int) := by rw [wrap_u32 (by omega)]; omega
  simp (disch := first | omega | (simp only [List.length_append, List.length_cons, List.length_nil, List.length_set, List.length_map, List.length_take, List.length_drop]; omega)) only [stdh, goK_s2b, dgoK_s2b, isEff_s2b, isPure_s2b, goK_b2s, dgoK_b2s, isEff_b2s, isPure_b2s, evalOp_s2b, s2bR, goK_mark, dgoK_mark, isEff_mark, isPure_mark, evalOp_mark, markA_slc, markB, ↓reduceIte, Nat.reduceEqDiff, Int.reduceToNat, Int.reducePow, Nat.reduceAdd, Nat.reduceLeDiff, Nat.reduceMul, Nat.reduceBEq, reduceCtorEq, e9]
  rw [e]
  exact ice_none trivial h
end Go.Proofs.Ytlbalhddopcamaa

namespace Go.Proofs.Ytlbalhddopcamaa
open Go Go.Am
set_option linter.unusedSimpArgs false
set_option linter.unusedVariables false

theorem min_if (n m : Nat) : (if (m : Int) < (n : Int) then (m : Int) else (n : Int)) = ((min n m : Nat) : Int) := by split <;> omega

theorem min200 (n : Nat) : (if 200 < (n : Int) then 200 else (n : Int)) = ((min n 200 : Nat) : Int) := min_if n 200

theorem lists_three {H : AHeap} {n : Nat} {el : TypeId} {x y z : AVal} {a b : List Nat} (hn : H[n]? = some (.vec [x, y, z] el 1)) (hx : Sees x (nums .u8 false a)) (hy : Sees y (nums .u8 false [])) (hz : Sees z (nums .u8 false b))
    (ha : ∀ c ∈ a, c < 256) (hb : ∀ c ∈ b, c < 256) (hla : a.length ≤ 9223372036854775807) (hlb : b.length ≤ 9223372036854775807) : ByteLists H (.slc n 0 3 1) [a, [], b] where
  len := rfl
  view := ⟨[x, y, z], by simp [view, hn, content], rfl, fun j hj => by
    match j, hj with
    | 0, _ => exact hx
    | 1, _ => exact hy
    | 2, _ => exact hz⟩
  lt := fun c hc => by
    simp only [List.mem_cons, List.not_mem_nil, or_false] at hc
    rcases hc with rfl | rfl | rfl
    · exact ⟨ha, hla⟩
    · exact ⟨by simp, by simp⟩
    · exact ⟨hb, hlb⟩
  le := by simp

theorem crcsums_ok {bs : List Nat} (hb : ∀ b ∈ bs, b < 256) {at_ i : Int} (ha : -9223372036854775808 ≤ at_ ∧ at_ < 9223372036854775808) (hi : -9223372036854775808 ≤ i ∧ i < 9223372036854775808) :
    FunOK Try.prog F.cuneiformlaw04_CrcSums [nums .u8 false bs, .int .i64 at_, .int .i64 i] [] fun av _ => av = .bool true := by
  refine fun_V 100 cuneiformlaw04_CrcSums_code rfl ?_
  simp (disch := first | omega | (simp only [List.length_append, List.length_cons, List.length_nil, List.length_set, List.length_map, List.length_take, List.length_drop]; omega)) only [stdh, goK_s2b, dgoK_s2b, isEff_s2b, isPure_s2b, goK_b2s, dgoK_b2s, isEff_b2s, isPure_b2s, evalOp_s2b, s2bR, goK_mark, dgoK_mark, isEff_mark, isPure_mark, evalOp_mark, markA_slc, markB, ↓reduceIte, Nat.reduceEqDiff, Int.reduceToNat, Int.reducePow, Nat.reduceAdd, Nat.reduceLeDiff, Nat.reduceMul, Nat.reduceBEq, reduceCtorEq, cuneiformlaw04_CrcSums, cuneiformlaw04_CrcSums.body, min200]
  have hz : ∀ b ∈ bs.take (min bs.length 200), b < 256 := fun b hb' => hb b (List.mem_of_mem_take hb')
  have hzl : (bs.take (min bs.length 200)).length ≤ 200 := by rw [List.length_take]; omega
  generalize bs.take (min bs.length 200) = zs at *
  refine callK_fn (new_ok _ _ ?_)
  refine runL_V 60 ?_
  simp (disch := first | omega | (simp only [List.length_append, List.length_cons, List.length_nil, List.length_set, List.length_map, List.length_take, List.length_drop]; omega)) only [stdh, goK_s2b, dgoK_s2b, isEff_s2b, isPure_s2b, goK_b2s, dgoK_b2s, isEff_b2s, isPure_b2s, evalOp_s2b, s2bR, goK_mark, dgoK_mark, isEff_mark, isPure_mark, evalOp_mark, markA_slc, markB, ↓reduceIte, Nat.reduceEqDiff, Int.reduceToNat, Int.reducePow, Nat.reduceAdd, Nat.reduceLeDiff, Nat.reduceMul, Nat.reduceBEq, reduceCtorEq]
  refine callK_fn (rsum_ok _ (by omega) hz _ ?_)
  refine runL_V 60 ?_
  simp (disch := first | omega | (simp only [List.length_append, List.length_cons, List.length_nil, List.length_set, List.length_map, List.length_take, List.length_drop]; omega)) only [stdh, goK_s2b, dgoK_s2b, isEff_s2b, isPure_s2b, goK_b2s, dgoK_b2s, isEff_b2s, isPure_b2s, evalOp_s2b, s2bR, goK_mark, dgoK_mark, isEff_mark, isPure_mark, evalOp_mark, markA_slc, markB, ↓reduceIte, Nat.reduceEqDiff, Int.reduceToNat, Int.reducePow, Nat.reduceAdd, Nat.reduceLeDiff, Nat.reduceMul, Nat.reduceBEq, reduceCtorEq]
  obtain ⟨kk, hk, hkl⟩ : ∃ kk : Nat, IntKind.i64.wrap ((IntKind.u64.wrap at_).tmod ((zs.length : Nat) + 1)) = (kk : Int) ∧ kk ≤ zs.length := by
    have h0 : 0 ≤ IntKind.u64.wrap at_ := by rw [wrap_u64']; omega
    rw [Int.tmod_eq_emod_of_nonneg h0]
    generalize IntKind.u64.wrap at_ = u at *
    have h1 := Int.emod_nonneg u (show ((zs.length : Nat) : Int) + 1 ≠ 0 by omega)
    have h2 := Int.emod_lt_of_pos u (show 0 < ((zs.length : Nat) : Int) + 1 by omega)
    refine ⟨(u % ((zs.length : Nat) + 1)).toNat, ?_, by omega⟩
    rw [wrap_i64 (by omega)]; omega
  rw [hk]
  have h1z : ∀ b ∈ zs.take kk, b < 256 := fun b hb' => hz b (List.mem_of_mem_take hb')
  have h2z : ∀ b ∈ zs.drop kk, b < 256 := fun b hb' => hz b (List.mem_of_mem_drop hb')
  have hs1 : addAll 4294967295 (zs.take kk) < 4294967296 := addAll_lt _ (by omega) h1z
  have hs2 : addAll (addAll 4294967295 (zs.take kk)) (zs.drop kk) = addAll 4294967295 zs := by rw [← addAll_append, List.take_append_drop]
  have hs3 : addAll 4294967295 zs < 4294967296 := addAll_lt _ (by omega) hz
  have hs4 : 4294967295 - addAll 4294967295 zs = sumOf zs := rfl
  have hf1 : [zs].flatten = zs := by simp
  have hf3 : [zs.take kk, [], zs.drop kk].flatten = zs := by simp
  by_cases h0 : 0 ≤ i
  · by_cases h1 : i < 256
    · obtain ⟨n, rfl⟩ : ∃ n : Nat, i = n := ⟨i.toNat, by omega⟩
      have hw : IntKind.u32.wrap (n : Int) = (n : Int) := wrap_u32 (by omega)
      have hent : (if 0 ≤ (n : Int) ∧ (n : Int) < 256 then ent 0 (n : Int).toNat else 0) = sh8 n := by rw [if_pos ⟨h0, h1⟩]; rfl
      have hd1 : decide (0 ≤ (n : Int)) = true := by simp
      rw [hd1]
      simp (disch := first | omega | (simp only [List.length_append, List.length_cons, List.length_nil, List.length_set, List.length_map, List.length_take, List.length_drop]; omega)) only [stdh, goK_s2b, dgoK_s2b, isEff_s2b, isPure_s2b, goK_b2s, dgoK_b2s, isEff_b2s, isPure_b2s, evalOp_s2b, s2bR, goK_mark, dgoK_mark, isEff_mark, isPure_mark, evalOp_mark, markA_slc, markB, ↓reduceIte, Nat.reduceEqDiff, Int.reduceToNat, Int.reducePow, Nat.reduceAdd, Nat.reduceLeDiff, Nat.reduceMul, Nat.reduceBEq, reduceCtorEq, hw]
      refine callK_fn (of_ok _ (by omega) _ ?_)
      refine runL_V 60 ?_
      simp (disch := first | omega | (simp only [List.length_append, List.length_cons, List.length_nil, List.length_set, List.length_map, List.length_take, List.length_drop]; omega)) only [stdh, goK_s2b, dgoK_s2b, isEff_s2b, isPure_s2b, goK_b2s, dgoK_b2s, isEff_b2s, isPure_b2s, evalOp_s2b, s2bR, goK_mark, dgoK_mark, isEff_mark, isPure_mark, evalOp_mark, markA_slc, markB, ↓reduceIte, Nat.reduceEqDiff, Int.reduceToNat, Int.reducePow, Nat.reduceAdd, Nat.reduceLeDiff, Nat.reduceMul, Nat.reduceBEq, reduceCtorEq]
      refine callK_fn (shiftW_ok _ (by omega) _ ?_)
      refine runL_V 60 ?_
      simp (disch := first | omega | (simp only [List.length_append, List.length_cons, List.length_nil, List.length_set, List.length_map, List.length_take, List.length_drop]; omega)) only [stdh, goK_s2b, dgoK_s2b, isEff_s2b, isPure_s2b, goK_b2s, dgoK_b2s, isEff_b2s, isPure_b2s, evalOp_s2b, s2bR, goK_mark, dgoK_mark, isEff_mark, isPure_mark, evalOp_mark, markA_slc, markB, ↓reduceIte, Nat.reduceEqDiff, Int.reduceToNat, Int.reducePow, Nat.reduceAdd, Nat.reduceLeDiff, Nat.reduceMul, Nat.reduceBEq, reduceCtorEq]
      refine callK_fn (word_ok _ (sh8_lt (by omega)) _ ?_)
      refine runL_V 60 ?_
      simp (disch := first | omega | (simp only [List.length_append, List.length_cons, List.length_nil, List.length_set, List.length_map, List.length_take, List.length_drop]; omega)) only [stdh, goK_s2b, dgoK_s2b, isEff_s2b, isPure_s2b, goK_b2s, dgoK_b2s, isEff_b2s, isPure_b2s, evalOp_s2b, s2bR, goK_mark, dgoK_mark, isEff_mark, isPure_mark, evalOp_mark, markA_slc, markB, ↓reduceIte, Nat.reduceEqDiff, Int.reduceToNat, Int.reducePow, Nat.reduceAdd, Nat.reduceLeDiff, Nat.reduceMul, Nat.reduceBEq, reduceCtorEq, cuneiformlaw04_CrcSums.d0]
      refine callD_fn (begin_ok _ _ ?_)
      refine ⟨by simp (disch := first | omega | (simp only [List.length_append, List.length_cons, List.length_nil, List.length_set, List.length_map, List.length_take, List.length_drop]; omega)) only [stdh, goK_s2b, dgoK_s2b, isEff_s2b, isPure_s2b, goK_b2s, dgoK_b2s, isEff_b2s, isPure_b2s, evalOp_s2b, s2bR, goK_mark, dgoK_mark, isEff_mark, isPure_mark, evalOp_mark, markA_slc, markB, ↓reduceIte, Nat.reduceEqDiff, Int.reduceToNat, Int.reducePow, Nat.reduceAdd, Nat.reduceLeDiff, Nat.reduceMul, Nat.reduceBEq, reduceCtorEq], ?_⟩
      refine runD_V 60 ?_
      simp (disch := first | omega | (simp only [List.length_append, List.length_cons, List.length_nil, List.length_set, List.length_map, List.length_take, List.length_drop]; omega)) only [stdh, goK_s2b, dgoK_s2b, isEff_s2b, isPure_s2b, goK_b2s, dgoK_b2s, isEff_b2s, isPure_b2s, evalOp_s2b, s2bR, goK_mark, dgoK_mark, isEff_mark, isPure_mark, evalOp_mark, markA_slc, markB, ↓reduceIte, Nat.reduceEqDiff, Int.reduceToNat, Int.reducePow, Nat.reduceAdd, Nat.reduceLeDiff, Nat.reduceMul, Nat.reduceBEq, reduceCtorEq]
      refine callD_fn (add_ok (s := 4294967295) _ (by decide) (by simp; omega) h1z _ ?_)
      refine ⟨by simp (disch := first | omega | (simp only [List.length_append, List.length_cons, List.length_nil, List.length_set, List.length_map, List.length_take, List.length_drop]; omega)) only [stdh, goK_s2b, dgoK_s2b, isEff_s2b, isPure_s2b, goK_b2s, dgoK_b2s, isEff_b2s, isPure_b2s, evalOp_s2b, s2bR, goK_mark, dgoK_mark, isEff_mark, isPure_mark, evalOp_mark, markA_slc, markB, ↓reduceIte, Nat.reduceEqDiff, Int.reduceToNat, Int.reducePow, Nat.reduceAdd, Nat.reduceLeDiff, Nat.reduceMul, Nat.reduceBEq, reduceCtorEq], ?_⟩
      refine runD_V 60 ?_
      simp (disch := first | omega | (simp only [List.length_append, List.length_cons, List.length_nil, List.length_set, List.length_map, List.length_take, List.length_drop]; omega)) only [stdh, goK_s2b, dgoK_s2b, isEff_s2b, isPure_s2b, goK_b2s, dgoK_b2s, isEff_b2s, isPure_b2s, evalOp_s2b, s2bR, goK_mark, dgoK_mark, isEff_mark, isPure_mark, evalOp_mark, markA_slc, markB, ↓reduceIte, Nat.reduceEqDiff, Int.reduceToNat, Int.reducePow, Nat.reduceAdd, Nat.reduceLeDiff, Nat.reduceMul, Nat.reduceBEq, reduceCtorEq]
      refine callD_fn (add_ok _ hs1 (by simp; omega) h2z _ ?_)
      refine ⟨by simp (disch := first | omega | (simp only [List.length_append, List.length_cons, List.length_nil, List.length_set, List.length_map, List.length_take, List.length_drop]; omega)) only [stdh, goK_s2b, dgoK_s2b, isEff_s2b, isPure_s2b, goK_b2s, dgoK_b2s, isEff_b2s, isPure_b2s, evalOp_s2b, s2bR, goK_mark, dgoK_mark, isEff_mark, isPure_mark, evalOp_mark, markA_slc, markB, ↓reduceIte, Nat.reduceEqDiff, Int.reduceToNat, Int.reducePow, Nat.reduceAdd, Nat.reduceLeDiff, Nat.reduceMul, Nat.reduceBEq, reduceCtorEq], ?_⟩
      refine runD_V 60 ?_
      rw [hs2]
      simp (disch := first | omega | (simp only [List.length_append, List.length_cons, List.length_nil, List.length_set, List.length_map, List.length_take, List.length_drop]; omega)) only [stdh, goK_s2b, dgoK_s2b, isEff_s2b, isPure_s2b, goK_b2s, dgoK_b2s, isEff_b2s, isPure_b2s, evalOp_s2b, s2bR, goK_mark, dgoK_mark, isEff_mark, isPure_mark, evalOp_mark, markA_slc, markB, ↓reduceIte, Nat.reduceEqDiff, Int.reduceToNat, Int.reducePow, Nat.reduceAdd, Nat.reduceLeDiff, Nat.reduceMul, Nat.reduceBEq, reduceCtorEq, cuneiformlaw04_CrcSums.d1]
      refine callD_fn (known04_ok _ _ ?_)
      refine ⟨by simp (disch := first | omega | (simp only [List.length_append, List.length_cons, List.length_nil, List.length_set, List.length_map, List.length_take, List.length_drop]; omega)) only [stdh, goK_s2b, dgoK_s2b, isEff_s2b, isPure_s2b, goK_b2s, dgoK_b2s, isEff_b2s, isPure_b2s, evalOp_s2b, s2bR, goK_mark, dgoK_mark, isEff_mark, isPure_mark, evalOp_mark, markA_slc, markB, ↓reduceIte, Nat.reduceEqDiff, Int.reduceToNat, Int.reducePow, Nat.reduceAdd, Nat.reduceLeDiff, Nat.reduceMul, Nat.reduceBEq, reduceCtorEq], ?_⟩
      refine runD_V 60 ?_
      simp (disch := first | omega | (simp only [List.length_append, List.length_cons, List.length_nil, List.length_set, List.length_map, List.length_take, List.length_drop]; omega)) only [stdh, goK_s2b, dgoK_s2b, isEff_s2b, isPure_s2b, goK_b2s, dgoK_b2s, isEff_b2s, isPure_b2s, evalOp_s2b, s2bR, goK_mark, dgoK_mark, isEff_mark, isPure_mark, evalOp_mark, markA_slc, markB, ↓reduceIte, Nat.reduceEqDiff, Int.reduceToNat, Int.reducePow, Nat.reduceAdd, Nat.reduceLeDiff, Nat.reduceMul, Nat.reduceBEq, reduceCtorEq]
      refine callD_fn (sum_ok _ (lists_one (bs := zs) (t := false) rfl (Sees.refl _) hz (by omega)) _ ?_)
      refine ⟨by simp (disch := first | omega | (simp only [List.length_append, List.length_cons, List.length_nil, List.length_set, List.length_map, List.length_take, List.length_drop]; omega)) only [stdh, goK_s2b, dgoK_s2b, isEff_s2b, isPure_s2b, goK_b2s, dgoK_b2s, isEff_b2s, isPure_b2s, evalOp_s2b, s2bR, goK_mark, dgoK_mark, isEff_mark, isPure_mark, evalOp_mark, markA_slc, markB, ↓reduceIte, Nat.reduceEqDiff, Int.reduceToNat, Int.reducePow, Nat.reduceAdd, Nat.reduceLeDiff, Nat.reduceMul, Nat.reduceBEq, reduceCtorEq], ?_⟩
      refine runD_V 60 ?_
      rw [hf1]
      simp (disch := first | omega | (simp only [List.length_append, List.length_cons, List.length_nil, List.length_set, List.length_map, List.length_take, List.length_drop]; omega)) only [stdh, goK_s2b, dgoK_s2b, isEff_s2b, isPure_s2b, goK_b2s, dgoK_b2s, isEff_b2s, isPure_b2s, evalOp_s2b, s2bR, goK_mark, dgoK_mark, isEff_mark, isPure_mark, evalOp_mark, markA_slc, markB, ↓reduceIte, Nat.reduceEqDiff, Int.reduceToNat, Int.reducePow, Nat.reduceAdd, Nat.reduceLeDiff, Nat.reduceMul, Nat.reduceBEq, reduceCtorEq]
      refine callD_fn (slow_ok _ (by omega) hz _ ?_)
      refine ⟨by simp (disch := first | omega | (simp only [List.length_append, List.length_cons, List.length_nil, List.length_set, List.length_map, List.length_take, List.length_drop]; omega)) only [stdh, goK_s2b, dgoK_s2b, isEff_s2b, isPure_s2b, goK_b2s, dgoK_b2s, isEff_b2s, isPure_b2s, evalOp_s2b, s2bR, goK_mark, dgoK_mark, isEff_mark, isPure_mark, evalOp_mark, markA_slc, markB, ↓reduceIte, Nat.reduceEqDiff, Int.reduceToNat, Int.reducePow, Nat.reduceAdd, Nat.reduceLeDiff, Nat.reduceMul, Nat.reduceBEq, reduceCtorEq], ?_⟩
      refine runD_V 60 ?_
      simp (disch := first | omega | (simp only [List.length_append, List.length_cons, List.length_nil, List.length_set, List.length_map, List.length_take, List.length_drop]; omega)) only [stdh, goK_s2b, dgoK_s2b, isEff_s2b, isPure_s2b, goK_b2s, dgoK_b2s, isEff_b2s, isPure_b2s, evalOp_s2b, s2bR, goK_mark, dgoK_mark, isEff_mark, isPure_mark, evalOp_mark, markA_slc, markB, ↓reduceIte, Nat.reduceEqDiff, Int.reduceToNat, Int.reducePow, Nat.reduceAdd, Nat.reduceLeDiff, Nat.reduceMul, Nat.reduceBEq, reduceCtorEq]
      refine callD_fn (sum_ok _ (lists_three (a := zs.take kk) (b := zs.drop kk) rfl (Sees.refl _) (Sees.nils false) (Sees.refl _) h1z h2z (by simp; omega) (by simp; omega)) _ ?_)
      refine ⟨by simp (disch := first | omega | (simp only [List.length_append, List.length_cons, List.length_nil, List.length_set, List.length_map, List.length_take, List.length_drop]; omega)) only [stdh, goK_s2b, dgoK_s2b, isEff_s2b, isPure_s2b, goK_b2s, dgoK_b2s, isEff_b2s, isPure_b2s, evalOp_s2b, s2bR, goK_mark, dgoK_mark, isEff_mark, isPure_mark, evalOp_mark, markA_slc, markB, ↓reduceIte, Nat.reduceEqDiff, Int.reduceToNat, Int.reducePow, Nat.reduceAdd, Nat.reduceLeDiff, Nat.reduceMul, Nat.reduceBEq, reduceCtorEq], ?_⟩
      refine runD_V 60 ?_
      rw [hf3]
      simp (disch := first | omega | (simp only [List.length_append, List.length_cons, List.length_nil, List.length_set, List.length_map, List.length_take, List.length_drop]; omega)) only [stdh, goK_s2b, dgoK_s2b, isEff_s2b, isPure_s2b, goK_b2s, dgoK_b2s, isEff_b2s, isPure_b2s, evalOp_s2b, s2bR, goK_mark, dgoK_mark, isEff_mark, isPure_mark, evalOp_mark, markA_slc, markB, ↓reduceIte, Nat.reduceEqDiff, Int.reduceToNat, Int.reducePow, Nat.reduceAdd, Nat.reduceLeDiff, Nat.reduceMul, Nat.reduceBEq, reduceCtorEq]
      refine callD_fn (end_ok _ hs3 _ ?_)
      refine ⟨by simp (disch := first | omega | (simp only [List.length_append, List.length_cons, List.length_nil, List.length_set, List.length_map, List.length_take, List.length_drop]; omega)) only [stdh, goK_s2b, dgoK_s2b, isEff_s2b, isPure_s2b, goK_b2s, dgoK_b2s, isEff_b2s, isPure_b2s, evalOp_s2b, s2bR, goK_mark, dgoK_mark, isEff_mark, isPure_mark, evalOp_mark, markA_slc, markB, ↓reduceIte, Nat.reduceEqDiff, Int.reduceToNat, Int.reducePow, Nat.reduceAdd, Nat.reduceLeDiff, Nat.reduceMul, Nat.reduceBEq, reduceCtorEq], ?_⟩
      refine runD_V 60 ?_
      rw [hs4]
      simp (disch := first | omega | (simp only [List.length_append, List.length_cons, List.length_nil, List.length_set, List.length_map, List.length_take, List.length_drop]; omega)) only [stdh, goK_s2b, dgoK_s2b, isEff_s2b, isPure_s2b, goK_b2s, dgoK_b2s, isEff_b2s, isPure_b2s, evalOp_s2b, s2bR, goK_mark, dgoK_mark, isEff_mark, isPure_mark, evalOp_mark, markA_slc, markB, ↓reduceIte, Nat.reduceEqDiff, Int.reduceToNat, Int.reducePow, Nat.reduceAdd, Nat.reduceLeDiff, Nat.reduceMul, Nat.reduceBEq, reduceCtorEq]
      refine callD_fn (entry_ok _ hi _ ?_)
      refine ⟨by simp (disch := first | omega | (simp only [List.length_append, List.length_cons, List.length_nil, List.length_set, List.length_map, List.length_take, List.length_drop]; omega)) only [stdh, goK_s2b, dgoK_s2b, isEff_s2b, isPure_s2b, goK_b2s, dgoK_b2s, isEff_b2s, isPure_b2s, evalOp_s2b, s2bR, goK_mark, dgoK_mark, isEff_mark, isPure_mark, evalOp_mark, markA_slc, markB, ↓reduceIte, Nat.reduceEqDiff, Int.reduceToNat, Int.reducePow, Nat.reduceAdd, Nat.reduceLeDiff, Nat.reduceMul, Nat.reduceBEq, reduceCtorEq], ?_⟩
      refine runD_V 60 ?_
      rw [hent]
      simp (disch := first | omega | (simp only [List.length_append, List.length_cons, List.length_nil, List.length_set, List.length_map, List.length_take, List.length_drop]; omega)) only [stdh, goK_s2b, dgoK_s2b, isEff_s2b, isPure_s2b, goK_b2s, dgoK_b2s, isEff_b2s, isPure_b2s, evalOp_s2b, s2bR, goK_mark, dgoK_mark, isEff_mark, isPure_mark, evalOp_mark, markA_slc, markB, ↓reduceIte, Nat.reduceEqDiff, Int.reduceToNat, Int.reducePow, Nat.reduceAdd, Nat.reduceLeDiff, Nat.reduceMul, Nat.reduceBEq, reduceCtorEq]
    · have hent : (if 0 ≤ i ∧ i < 256 then ent 0 i.toNat else 0) = 0 := by rw [if_neg (by omega)]
      have hd1 : decide (0 ≤ i) = true := by simp [h0]
      rw [hd1]
      simp (disch := first | omega | (simp only [List.length_append, List.length_cons, List.length_nil, List.length_set, List.length_map, List.length_take, List.length_drop]; omega)) only [stdh, goK_s2b, dgoK_s2b, isEff_s2b, isPure_s2b, goK_b2s, dgoK_b2s, isEff_b2s, isPure_b2s, evalOp_s2b, s2bR, goK_mark, dgoK_mark, isEff_mark, isPure_mark, evalOp_mark, markA_slc, markB, ↓reduceIte, Nat.reduceEqDiff, Int.reduceToNat, Int.reducePow, Nat.reduceAdd, Nat.reduceLeDiff, Nat.reduceMul, Nat.reduceBEq, reduceCtorEq, cuneiformlaw04_CrcSums.d0]
      refine callD_fn (begin_ok _ _ ?_)
      refine ⟨by simp (disch := first | omega | (simp only [List.length_append, List.length_cons, List.length_nil, List.length_set, List.length_map, List.length_take, List.length_drop]; omega)) only [stdh, goK_s2b, dgoK_s2b, isEff_s2b, isPure_s2b, goK_b2s, dgoK_b2s, isEff_b2s, isPure_b2s, evalOp_s2b, s2bR, goK_mark, dgoK_mark, isEff_mark, isPure_mark, evalOp_mark, markA_slc, markB, ↓reduceIte, Nat.reduceEqDiff, Int.reduceToNat, Int.reducePow, Nat.reduceAdd, Nat.reduceLeDiff, Nat.reduceMul, Nat.reduceBEq, reduceCtorEq], ?_⟩
      refine runD_V 60 ?_
      simp (disch := first | omega | (simp only [List.length_append, List.length_cons, List.length_nil, List.length_set, List.length_map, List.length_take, List.length_drop]; omega)) only [stdh, goK_s2b, dgoK_s2b, isEff_s2b, isPure_s2b, goK_b2s, dgoK_b2s, isEff_b2s, isPure_b2s, evalOp_s2b, s2bR, goK_mark, dgoK_mark, isEff_mark, isPure_mark, evalOp_mark, markA_slc, markB, ↓reduceIte, Nat.reduceEqDiff, Int.reduceToNat, Int.reducePow, Nat.reduceAdd, Nat.reduceLeDiff, Nat.reduceMul, Nat.reduceBEq, reduceCtorEq]
      refine callD_fn (add_ok (s := 4294967295) _ (by decide) (by simp; omega) h1z _ ?_)
      refine ⟨by simp (disch := first | omega | (simp only [List.length_append, List.length_cons, List.length_nil, List.length_set, List.length_map, List.length_take, List.length_drop]; omega)) only [stdh, goK_s2b, dgoK_s2b, isEff_s2b, isPure_s2b, goK_b2s, dgoK_b2s, isEff_b2s, isPure_b2s, evalOp_s2b, s2bR, goK_mark, dgoK_mark, isEff_mark, isPure_mark, evalOp_mark, markA_slc, markB, ↓reduceIte, Nat.reduceEqDiff, Int.reduceToNat, Int.reducePow, Nat.reduceAdd, Nat.reduceLeDiff, Nat.reduceMul, Nat.reduceBEq, reduceCtorEq], ?_⟩
      refine runD_V 60 ?_
      simp (disch := first | omega | (simp only [List.length_append, List.length_cons, List.length_nil, List.length_set, List.length_map, List.length_take, List.length_drop]; omega)) only [stdh, goK_s2b, dgoK_s2b, isEff_s2b, isPure_s2b, goK_b2s, dgoK_b2s, isEff_b2s, isPure_b2s, evalOp_s2b, s2bR, goK_mark, dgoK_mark, isEff_mark, isPure_mark, evalOp_mark, markA_slc, markB, ↓reduceIte, Nat.reduceEqDiff, Int.reduceToNat, Int.reducePow, Nat.reduceAdd, Nat.reduceLeDiff, Nat.reduceMul, Nat.reduceBEq, reduceCtorEq]
      refine callD_fn (add_ok _ hs1 (by simp; omega) h2z _ ?_)
      refine ⟨by simp (disch := first | omega | (simp only [List.length_append, List.length_cons, List.length_nil, List.length_set, List.length_map, List.length_take, List.length_drop]; omega)) only [stdh, goK_s2b, dgoK_s2b, isEff_s2b, isPure_s2b, goK_b2s, dgoK_b2s, isEff_b2s, isPure_b2s, evalOp_s2b, s2bR, goK_mark, dgoK_mark, isEff_mark, isPure_mark, evalOp_mark, markA_slc, markB, ↓reduceIte, Nat.reduceEqDiff, Int.reduceToNat, Int.reducePow, Nat.reduceAdd, Nat.reduceLeDiff, Nat.reduceMul, Nat.reduceBEq, reduceCtorEq], ?_⟩
      refine runD_V 60 ?_
      rw [hs2]
      simp (disch := first | omega | (simp only [List.length_append, List.length_cons, List.length_nil, List.length_set, List.length_map, List.length_take, List.length_drop]; omega)) only [stdh, goK_s2b, dgoK_s2b, isEff_s2b, isPure_s2b, goK_b2s, dgoK_b2s, isEff_b2s, isPure_b2s, evalOp_s2b, s2bR, goK_mark, dgoK_mark, isEff_mark, isPure_mark, evalOp_mark, markA_slc, markB, ↓reduceIte, Nat.reduceEqDiff, Int.reduceToNat, Int.reducePow, Nat.reduceAdd, Nat.reduceLeDiff, Nat.reduceMul, Nat.reduceBEq, reduceCtorEq, cuneiformlaw04_CrcSums.d1]
      refine callD_fn (known04_ok _ _ ?_)
      refine ⟨by simp (disch := first | omega | (simp only [List.length_append, List.length_cons, List.length_nil, List.length_set, List.length_map, List.length_take, List.length_drop]; omega)) only [stdh, goK_s2b, dgoK_s2b, isEff_s2b, isPure_s2b, goK_b2s, dgoK_b2s, isEff_b2s, isPure_b2s, evalOp_s2b, s2bR, goK_mark, dgoK_mark, isEff_mark, isPure_mark, evalOp_mark, markA_slc, markB, ↓reduceIte, Nat.reduceEqDiff, Int.reduceToNat, Int.reducePow, Nat.reduceAdd, Nat.reduceLeDiff, Nat.reduceMul, Nat.reduceBEq, reduceCtorEq], ?_⟩
      refine runD_V 60 ?_
      simp (disch := first | omega | (simp only [List.length_append, List.length_cons, List.length_nil, List.length_set, List.length_map, List.length_take, List.length_drop]; omega)) only [stdh, goK_s2b, dgoK_s2b, isEff_s2b, isPure_s2b, goK_b2s, dgoK_b2s, isEff_b2s, isPure_b2s, evalOp_s2b, s2bR, goK_mark, dgoK_mark, isEff_mark, isPure_mark, evalOp_mark, markA_slc, markB, ↓reduceIte, Nat.reduceEqDiff, Int.reduceToNat, Int.reducePow, Nat.reduceAdd, Nat.reduceLeDiff, Nat.reduceMul, Nat.reduceBEq, reduceCtorEq]
      refine callD_fn (sum_ok _ (lists_one (bs := zs) (t := false) rfl (Sees.refl _) hz (by omega)) _ ?_)
      refine ⟨by simp (disch := first | omega | (simp only [List.length_append, List.length_cons, List.length_nil, List.length_set, List.length_map, List.length_take, List.length_drop]; omega)) only [stdh, goK_s2b, dgoK_s2b, isEff_s2b, isPure_s2b, goK_b2s, dgoK_b2s, isEff_b2s, isPure_b2s, evalOp_s2b, s2bR, goK_mark, dgoK_mark, isEff_mark, isPure_mark, evalOp_mark, markA_slc, markB, ↓reduceIte, Nat.reduceEqDiff, Int.reduceToNat, Int.reducePow, Nat.reduceAdd, Nat.reduceLeDiff, Nat.reduceMul, Nat.reduceBEq, reduceCtorEq], ?_⟩
      refine runD_V 60 ?_
      rw [hf1]
      simp (disch := first | omega | (simp only [List.length_append, List.length_cons, List.length_nil, List.length_set, List.length_map, List.length_take, List.length_drop]; omega)) only [stdh, goK_s2b, dgoK_s2b, isEff_s2b, isPure_s2b, goK_b2s, dgoK_b2s, isEff_b2s, isPure_b2s, evalOp_s2b, s2bR, goK_mark, dgoK_mark, isEff_mark, isPure_mark, evalOp_mark, markA_slc, markB, ↓reduceIte, Nat.reduceEqDiff, Int.reduceToNat, Int.reducePow, Nat.reduceAdd, Nat.reduceLeDiff, Nat.reduceMul, Nat.reduceBEq, reduceCtorEq]
      refine callD_fn (slow_ok _ (by omega) hz _ ?_)
      refine ⟨by simp (disch := first | omega | (simp only [List.length_append, List.length_cons, List.length_nil, List.length_set, List.length_map, List.length_take, List.length_drop]; omega)) only [stdh, goK_s2b, dgoK_s2b, isEff_s2b, isPure_s2b, goK_b2s, dgoK_b2s, isEff_b2s, isPure_b2s, evalOp_s2b, s2bR, goK_mark, dgoK_mark, isEff_mark, isPure_mark, evalOp_mark, markA_slc, markB, ↓reduceIte, Nat.reduceEqDiff, Int.reduceToNat, Int.reducePow, Nat.reduceAdd, Nat.reduceLeDiff, Nat.reduceMul, Nat.reduceBEq, reduceCtorEq], ?_⟩
      refine runD_V 60 ?_
      simp (disch := first | omega | (simp only [List.length_append, List.length_cons, List.length_nil, List.length_set, List.length_map, List.length_take, List.length_drop]; omega)) only [stdh, goK_s2b, dgoK_s2b, isEff_s2b, isPure_s2b, goK_b2s, dgoK_b2s, isEff_b2s, isPure_b2s, evalOp_s2b, s2bR, goK_mark, dgoK_mark, isEff_mark, isPure_mark, evalOp_mark, markA_slc, markB, ↓reduceIte, Nat.reduceEqDiff, Int.reduceToNat, Int.reducePow, Nat.reduceAdd, Nat.reduceLeDiff, Nat.reduceMul, Nat.reduceBEq, reduceCtorEq]
      refine callD_fn (sum_ok _ (lists_three (a := zs.take kk) (b := zs.drop kk) rfl (Sees.refl _) (Sees.nils false) (Sees.refl _) h1z h2z (by simp; omega) (by simp; omega)) _ ?_)
      refine ⟨by simp (disch := first | omega | (simp only [List.length_append, List.length_cons, List.length_nil, List.length_set, List.length_map, List.length_take, List.length_drop]; omega)) only [stdh, goK_s2b, dgoK_s2b, isEff_s2b, isPure_s2b, goK_b2s, dgoK_b2s, isEff_b2s, isPure_b2s, evalOp_s2b, s2bR, goK_mark, dgoK_mark, isEff_mark, isPure_mark, evalOp_mark, markA_slc, markB, ↓reduceIte, Nat.reduceEqDiff, Int.reduceToNat, Int.reducePow, Nat.reduceAdd, Nat.reduceLeDiff, Nat.reduceMul, Nat.reduceBEq, reduceCtorEq], ?_⟩
      refine runD_V 60 ?_
      rw [hf3]
      simp (disch := first | omega | (simp only [List.length_append, List.length_cons, List.length_nil, List.length_set, List.length_map, List.length_take, List.length_drop]; omega)) only [stdh, goK_s2b, dgoK_s2b, isEff_s2b, isPure_s2b, goK_b2s, dgoK_b2s, isEff_b2s, isPure_b2s, evalOp_s2b, s2bR, goK_mark, dgoK_mark, isEff_mark, isPure_mark, evalOp_mark, markA_slc, markB, ↓reduceIte, Nat.reduceEqDiff, Int.reduceToNat, Int.reducePow, Nat.reduceAdd, Nat.reduceLeDiff, Nat.reduceMul, Nat.reduceBEq, reduceCtorEq]
      refine callD_fn (end_ok _ hs3 _ ?_)
      refine ⟨by simp (disch := first | omega | (simp only [List.length_append, List.length_cons, List.length_nil, List.length_set, List.length_map, List.length_take, List.length_drop]; omega)) only [stdh, goK_s2b, dgoK_s2b, isEff_s2b, isPure_s2b, goK_b2s, dgoK_b2s, isEff_b2s, isPure_b2s, evalOp_s2b, s2bR, goK_mark, dgoK_mark, isEff_mark, isPure_mark, evalOp_mark, markA_slc, markB, ↓reduceIte, Nat.reduceEqDiff, Int.reduceToNat, Int.reducePow, Nat.reduceAdd, Nat.reduceLeDiff, Nat.reduceMul, Nat.reduceBEq, reduceCtorEq], ?_⟩
      refine runD_V 60 ?_
      rw [hs4]
      simp (disch := first | omega | (simp only [List.length_append, List.length_cons, List.length_nil, List.length_set, List.length_map, List.length_take, List.length_drop]; omega)) only [stdh, goK_s2b, dgoK_s2b, isEff_s2b, isPure_s2b, goK_b2s, dgoK_b2s, isEff_b2s, isPure_b2s, evalOp_s2b, s2bR, goK_mark, dgoK_mark, isEff_mark, isPure_mark, evalOp_mark, markA_slc, markB, ↓reduceIte, Nat.reduceEqDiff, Int.reduceToNat, Int.reducePow, Nat.reduceAdd, Nat.reduceLeDiff, Nat.reduceMul, Nat.reduceBEq, reduceCtorEq]
      refine callD_fn (entry_ok _ hi _ ?_)
      refine ⟨by simp (disch := first | omega | (simp only [List.length_append, List.length_cons, List.length_nil, List.length_set, List.length_map, List.length_take, List.length_drop]; omega)) only [stdh, goK_s2b, dgoK_s2b, isEff_s2b, isPure_s2b, goK_b2s, dgoK_b2s, isEff_b2s, isPure_b2s, evalOp_s2b, s2bR, goK_mark, dgoK_mark, isEff_mark, isPure_mark, evalOp_mark, markA_slc, markB, ↓reduceIte, Nat.reduceEqDiff, Int.reduceToNat, Int.reducePow, Nat.reduceAdd, Nat.reduceLeDiff, Nat.reduceMul, Nat.reduceBEq, reduceCtorEq], ?_⟩
      refine runD_V 60 ?_
      rw [hent]
      simp (disch := first | omega | (simp only [List.length_append, List.length_cons, List.length_nil, List.length_set, List.length_map, List.length_take, List.length_drop]; omega)) only [stdh, goK_s2b, dgoK_s2b, isEff_s2b, isPure_s2b, goK_b2s, dgoK_b2s, isEff_b2s, isPure_b2s, evalOp_s2b, s2bR, goK_mark, dgoK_mark, isEff_mark, isPure_mark, evalOp_mark, markA_slc, markB, ↓reduceIte, Nat.reduceEqDiff, Int.reduceToNat, Int.reducePow, Nat.reduceAdd, Nat.reduceLeDiff, Nat.reduceMul, Nat.reduceBEq, reduceCtorEq]
  · have hent : (if 0 ≤ i ∧ i < 256 then ent 0 i.toNat else 0) = 0 := by rw [if_neg (by omega)]
    have hd1 : decide (0 ≤ i) = false := by simp; omega
    rw [hd1]
    simp (disch := first | omega | (simp only [List.length_append, List.length_cons, List.length_nil, List.length_set, List.length_map, List.length_take, List.length_drop]; omega)) only [stdh, goK_s2b, dgoK_s2b, isEff_s2b, isPure_s2b, goK_b2s, dgoK_b2s, isEff_b2s, isPure_b2s, evalOp_s2b, s2bR, goK_mark, dgoK_mark, isEff_mark, isPure_mark, evalOp_mark, markA_slc, markB, ↓reduceIte, Nat.reduceEqDiff, Int.reduceToNat, Int.reducePow, Nat.reduceAdd, Nat.reduceLeDiff, Nat.reduceMul, Nat.reduceBEq, reduceCtorEq, cuneiformlaw04_CrcSums.d0]
    refine callD_fn (begin_ok _ _ ?_)
    refine ⟨by simp (disch := first | omega | (simp only [List.length_append, List.length_cons, List.length_nil, List.length_set, List.length_map, List.length_take, List.length_drop]; omega)) only [stdh, goK_s2b, dgoK_s2b, isEff_s2b, isPure_s2b, goK_b2s, dgoK_b2s, isEff_b2s, isPure_b2s, evalOp_s2b, s2bR, goK_mark, dgoK_mark, isEff_mark, isPure_mark, evalOp_mark, markA_slc, markB, ↓reduceIte, Nat.reduceEqDiff, Int.reduceToNat, Int.reducePow, Nat.reduceAdd, Nat.reduceLeDiff, Nat.reduceMul, Nat.reduceBEq, reduceCtorEq], ?_⟩
    refine runD_V 60 ?_
    simp (disch := first | omega | (simp only [List.length_append, List.length_cons, List.length_nil, List.length_set, List.length_map, List.length_take, List.length_drop]; omega)) only [stdh, goK_s2b, dgoK_s2b, isEff_s2b, isPure_s2b, goK_b2s, dgoK_b2s, isEff_b2s, isPure_b2s, evalOp_s2b, s2bR, goK_mark, dgoK_mark, isEff_mark, isPure_mark, evalOp_mark, markA_slc, markB, ↓reduceIte, Nat.reduceEqDiff, Int.reduceToNat, Int.reducePow, Nat.reduceAdd, Nat.reduceLeDiff, Nat.reduceMul, Nat.reduceBEq, reduceCtorEq]
    refine callD_fn (add_ok (s := 4294967295) _ (by decide) (by simp; omega) h1z _ ?_)
    refine ⟨by simp (disch := first | omega | (simp only [List.length_append, List.length_cons, List.length_nil, List.length_set, List.length_map, List.length_take, List.length_drop]; omega)) only [stdh, goK_s2b, dgoK_s2b, isEff_s2b, isPure_s2b, goK_b2s, dgoK_b2s, isEff_b2s, isPure_b2s, evalOp_s2b, s2bR, goK_mark, dgoK_mark, isEff_mark, isPure_mark, evalOp_mark, markA_slc, markB, ↓reduceIte, Nat.reduceEqDiff, Int.reduceToNat, Int.reducePow, Nat.reduceAdd, Nat.reduceLeDiff, Nat.reduceMul, Nat.reduceBEq, reduceCtorEq], ?_⟩
    refine runD_V 60 ?_
    simp (disch := first | omega | (simp only [List.length_append, List.length_cons, List.length_nil, List.length_set, List.length_map, List.length_take, List.length_drop]; omega)) only [stdh, goK_s2b, dgoK_s2b, isEff_s2b, isPure_s2b, goK_b2s, dgoK_b2s, isEff_b2s, isPure_b2s, evalOp_s2b, s2bR, goK_mark, dgoK_mark, isEff_mark, isPure_mark, evalOp_mark, markA_slc, markB, ↓reduceIte, Nat.reduceEqDiff, Int.reduceToNat, Int.reducePow, Nat.reduceAdd, Nat.reduceLeDiff, Nat.reduceMul, Nat.reduceBEq, reduceCtorEq]
    refine callD_fn (add_ok _ hs1 (by simp; omega) h2z _ ?_)
    refine ⟨by simp (disch := first | omega | (simp only [List.length_append, List.length_cons, List.length_nil, List.length_set, List.length_map, List.length_take, List.length_drop]; omega)) only [stdh, goK_s2b, dgoK_s2b, isEff_s2b, isPure_s2b, goK_b2s, dgoK_b2s, isEff_b2s, isPure_b2s, evalOp_s2b, s2bR, goK_mark, dgoK_mark, isEff_mark, isPure_mark, evalOp_mark, markA_slc, markB, ↓reduceIte, Nat.reduceEqDiff, Int.reduceToNat, Int.reducePow, Nat.reduceAdd, Nat.reduceLeDiff, Nat.reduceMul, Nat.reduceBEq, reduceCtorEq], ?_⟩
    refine runD_V 60 ?_
    rw [hs2]
    simp (disch := first | omega | (simp only [List.length_append, List.length_cons, List.length_nil, List.length_set, List.length_map, List.length_take, List.length_drop]; omega)) only [stdh, goK_s2b, dgoK_s2b, isEff_s2b, isPure_s2b, goK_b2s, dgoK_b2s, isEff_b2s, isPure_b2s, evalOp_s2b, s2bR, goK_mark, dgoK_mark, isEff_mark, isPure_mark, evalOp_mark, markA_slc, markB, ↓reduceIte, Nat.reduceEqDiff, Int.reduceToNat, Int.reducePow, Nat.reduceAdd, Nat.reduceLeDiff, Nat.reduceMul, Nat.reduceBEq, reduceCtorEq, cuneiformlaw04_CrcSums.d1]
    refine callD_fn (known04_ok _ _ ?_)
    refine ⟨by simp (disch := first | omega | (simp only [List.length_append, List.length_cons, List.length_nil, List.length_set, List.length_map, List.length_take, List.length_drop]; omega)) only [stdh, goK_s2b, dgoK_s2b, isEff_s2b, isPure_s2b, goK_b2s, dgoK_b2s, isEff_b2s, isPure_b2s, evalOp_s2b, s2bR, goK_mark, dgoK_mark, isEff_mark, isPure_mark, evalOp_mark, markA_slc, markB, ↓reduceIte, Nat.reduceEqDiff, Int.reduceToNat, Int.reducePow, Nat.reduceAdd, Nat.reduceLeDiff, Nat.reduceMul, Nat.reduceBEq, reduceCtorEq], ?_⟩
    refine runD_V 60 ?_
    simp (disch := first | omega | (simp only [List.length_append, List.length_cons, List.length_nil, List.length_set, List.length_map, List.length_take, List.length_drop]; omega)) only [stdh, goK_s2b, dgoK_s2b, isEff_s2b, isPure_s2b, goK_b2s, dgoK_b2s, isEff_b2s, isPure_b2s, evalOp_s2b, s2bR, goK_mark, dgoK_mark, isEff_mark, isPure_mark, evalOp_mark, markA_slc, markB, ↓reduceIte, Nat.reduceEqDiff, Int.reduceToNat, Int.reducePow, Nat.reduceAdd, Nat.reduceLeDiff, Nat.reduceMul, Nat.reduceBEq, reduceCtorEq]
    refine callD_fn (sum_ok _ (lists_one (bs := zs) (t := false) rfl (Sees.refl _) hz (by omega)) _ ?_)
    refine ⟨by simp (disch := first | omega | (simp only [List.length_append, List.length_cons, List.length_nil, List.length_set, List.length_map, List.length_take, List.length_drop]; omega)) only [stdh, goK_s2b, dgoK_s2b, isEff_s2b, isPure_s2b, goK_b2s, dgoK_b2s, isEff_b2s, isPure_b2s, evalOp_s2b, s2bR, goK_mark, dgoK_mark, isEff_mark, isPure_mark, evalOp_mark, markA_slc, markB, ↓reduceIte, Nat.reduceEqDiff, Int.reduceToNat, Int.reducePow, Nat.reduceAdd, Nat.reduceLeDiff, Nat.reduceMul, Nat.reduceBEq, reduceCtorEq], ?_⟩
    refine runD_V 60 ?_
    rw [hf1]
    simp (disch := first | omega | (simp only [List.length_append, List.length_cons, List.length_nil, List.length_set, List.length_map, List.length_take, List.length_drop]; omega)) only [stdh, goK_s2b, dgoK_s2b, isEff_s2b, isPure_s2b, goK_b2s, dgoK_b2s, isEff_b2s, isPure_b2s, evalOp_s2b, s2bR, goK_mark, dgoK_mark, isEff_mark, isPure_mark, evalOp_mark, markA_slc, markB, ↓reduceIte, Nat.reduceEqDiff, Int.reduceToNat, Int.reducePow, Nat.reduceAdd, Nat.reduceLeDiff, Nat.reduceMul, Nat.reduceBEq, reduceCtorEq]
    refine callD_fn (slow_ok _ (by omega) hz _ ?_)
    refine ⟨by simp (disch := first | omega | (simp only [List.length_append, List.length_cons, List.length_nil, List.length_set, List.length_map, List.length_take, List.length_drop]; omega)) only [stdh, goK_s2b, dgoK_s2b, isEff_s2b, isPure_s2b, goK_b2s, dgoK_b2s, isEff_b2s, isPure_b2s, evalOp_s2b, s2bR, goK_mark, dgoK_mark, isEff_mark, isPure_mark, evalOp_mark, markA_slc, markB, ↓reduceIte, Nat.reduceEqDiff, Int.reduceToNat, Int.reducePow, Nat.reduceAdd, Nat.reduceLeDiff, Nat.reduceMul, Nat.reduceBEq, reduceCtorEq], ?_⟩
    refine runD_V 60 ?_
    simp (disch := first | omega | (simp only [List.length_append, List.length_cons, List.length_nil, List.length_set, List.length_map, List.length_take, List.length_drop]; omega)) only [stdh, goK_s2b, dgoK_s2b, isEff_s2b, isPure_s2b, goK_b2s, dgoK_b2s, isEff_b2s, isPure_b2s, evalOp_s2b, s2bR, goK_mark, dgoK_mark, isEff_mark, isPure_mark, evalOp_mark, markA_slc, markB, ↓reduceIte, Nat.reduceEqDiff, Int.reduceToNat, Int.reducePow, Nat.reduceAdd, Nat.reduceLeDiff, Nat.reduceMul, Nat.reduceBEq, reduceCtorEq]
    refine callD_fn (sum_ok _ (lists_three (a := zs.take kk) (b := zs.drop kk) rfl (Sees.refl _) (Sees.nils false) (Sees.refl _) h1z h2z (by simp; omega) (by simp; omega)) _ ?_)
    refine ⟨by simp (disch := first | omega | (simp only [List.length_append, List.length_cons, List.length_nil, List.length_set, List.length_map, List.length_take, List.length_drop]; omega)) only [stdh, goK_s2b, dgoK_s2b, isEff_s2b, isPure_s2b, goK_b2s, dgoK_b2s, isEff_b2s, isPure_b2s, evalOp_s2b, s2bR, goK_mark, dgoK_mark, isEff_mark, isPure_mark, evalOp_mark, markA_slc, markB, ↓reduceIte, Nat.reduceEqDiff, Int.reduceToNat, Int.reducePow, Nat.reduceAdd, Nat.reduceLeDiff, Nat.reduceMul, Nat.reduceBEq, reduceCtorEq], ?_⟩
    refine runD_V 60 ?_
    rw [hf3]
    simp (disch := first | omega | (simp only [List.length_append, List.length_cons, List.length_nil, List.length_set, List.length_map, List.length_take, List.length_drop]; omega)) only [stdh, goK_s2b, dgoK_s2b, isEff_s2b, isPure_s2b, goK_b2s, dgoK_b2s, isEff_b2s, isPure_b2s, evalOp_s2b, s2bR, goK_mark, dgoK_mark, isEff_mark, isPure_mark, evalOp_mark, markA_slc, markB, ↓reduceIte, Nat.reduceEqDiff, Int.reduceToNat, Int.reducePow, Nat.reduceAdd, Nat.reduceLeDiff, Nat.reduceMul, Nat.reduceBEq, reduceCtorEq]
    refine callD_fn (end_ok _ hs3 _ ?_)
    refine ⟨by simp (disch := first | omega | (simp only [List.length_append, List.length_cons, List.length_nil, List.length_set, List.length_map, List.length_take, List.length_drop]; omega)) only [stdh, goK_s2b, dgoK_s2b, isEff_s2b, isPure_s2b, goK_b2s, dgoK_b2s, isEff_b2s, isPure_b2s, evalOp_s2b, s2bR, goK_mark, dgoK_mark, isEff_mark, isPure_mark, evalOp_mark, markA_slc, markB, ↓reduceIte, Nat.reduceEqDiff, Int.reduceToNat, Int.reducePow, Nat.reduceAdd, Nat.reduceLeDiff, Nat.reduceMul, Nat.reduceBEq, reduceCtorEq], ?_⟩
    refine runD_V 60 ?_
    rw [hs4]
    simp (disch := first | omega | (simp only [List.length_append, List.length_cons, List.length_nil, List.length_set, List.length_map, List.length_take, List.length_drop]; omega)) only [stdh, goK_s2b, dgoK_s2b, isEff_s2b, isPure_s2b, goK_b2s, dgoK_b2s, isEff_b2s, isPure_b2s, evalOp_s2b, s2bR, goK_mark, dgoK_mark, isEff_mark, isPure_mark, evalOp_mark, markA_slc, markB, ↓reduceIte, Nat.reduceEqDiff, Int.reduceToNat, Int.reducePow, Nat.reduceAdd, Nat.reduceLeDiff, Nat.reduceMul, Nat.reduceBEq, reduceCtorEq]
    refine callD_fn (entry_ok _ hi _ ?_)
    refine ⟨by simp (disch := first | omega | (simp only [List.length_append, List.length_cons, List.length_nil, List.length_set, List.length_map, List.length_take, List.length_drop]; omega)) only [stdh, goK_s2b, dgoK_s2b, isEff_s2b, isPure_s2b, goK_b2s, dgoK_b2s, isEff_b2s, isPure_b2s, evalOp_s2b, s2bR, goK_mark, dgoK_mark, isEff_mark, isPure_mark, evalOp_mark, markA_slc, markB, ↓reduceIte, Nat.reduceEqDiff, Int.reduceToNat, Int.reducePow, Nat.reduceAdd, Nat.reduceLeDiff, Nat.reduceMul, Nat.reduceBEq, reduceCtorEq], ?_⟩
    refine runD_V 60 ?_
    rw [hent]
    simp (disch := first | omega | (simp only [List.length_append, List.length_cons, List.length_nil, List.length_set, List.length_map, List.length_take, List.length_drop]; omega)) only [stdh, goK_s2b, dgoK_s2b, isEff_s2b, isPure_s2b, goK_b2s, dgoK_b2s, isEff_b2s, isPure_b2s, evalOp_s2b, s2bR, goK_mark, dgoK_mark, isEff_mark, isPure_mark, evalOp_mark, markA_slc, markB, ↓reduceIte, Nat.reduceEqDiff, Int.reduceToNat, Int.reducePow, Nat.reduceAdd, Nat.reduceLeDiff, Nat.reduceMul, Nat.reduceBEq, reduceCtorEq]
end Go.Proofs.Ytlbalhddopcamaa

namespace Go.Proofs.Ytlbalhddopcamaa
open Go Go.Am
set_option linter.unusedSimpArgs false
set_option linter.unusedVariables false

def sizeOf (n : Nat) : Nat := if h : n < 128 then 1 else 1 + sizeOf (n / 128)
  termination_by n

theorem sizeOf_lt {n : Nat} (h : n < 128) : sizeOf n = 1 := by rw [sizeOf, dif_pos h]
theorem sizeOf_ge {n : Nat} (h : ¬ n < 128) : sizeOf n = 1 + sizeOf (n / 128) := by rw [sizeOf, dif_neg h]

theorem sizeOf_le : ∀ (k n : Nat), n < 128 ^ (k + 1) → sizeOf n ≤ k + 1
  | 0, n, h => by rw [sizeOf_lt (by simpa using h)]; omega
  | k + 1, n, h => by
    by_cases hn : n < 128
    · rw [sizeOf_lt hn]; omega
    · rw [sizeOf_ge hn]
      have := sizeOf_le k (n / 128) (by rw [Nat.pow_succ] at h; exact Nat.div_lt_of_lt_mul (by rw [Nat.mul_comm]; exact h))
      omega
theorem sizeOf_le10 {n : Nat} (h : n < 18446744073709551616) : sizeOf n ≤ 10 := sizeOf_le 9 n (by omega)
theorem sizeOf_pos (n : Nat) : 1 ≤ sizeOf n := by
  by_cases hn : n < 128
  · rw [sizeOf_lt hn]; omega
  · rw [sizeOf_ge hn]; omega
end Go.Proofs.Ytlbalhddopcamaa

namespace Go.Proofs.Ytlbalhddopcamaa
open Go Go.Am
set_option linter.unusedSimpArgs false
set_option linter.unusedVariables false

abbrev sameC : Ctx := ⟨F.cuneiformref01_Same, 26, [.tmp 4], none⟩

theorem same_loop (T : List AItem) (H : AHeap) (Q : AVal → AHeap → Prop) {a b : AVal} {xs ys : List Nat} (ha : Nats .u8 H a xs) (hb : Nats .u8 H b ys) (hl : xs.length = ys.length) (hm : xs.length < 9223372036854775808) :
    ∀ (m i : Nat), xs.length - i = m → i ≤ xs.length → (xs.drop i = ys.drop i → ∀ r', Run Try.prog sameC T r' H Q) → (xs.drop i ≠ ys.drop i → Q (.bool false) H) →
    Rounds Try.prog sameC cuneiformref01_Same.b1 [.inBlock 0] T [(0, a), (1, b), (5, .int .i64 i)] H Q
  | m, i, h1, h2, h3, h4 => by
    refine loop_V 200 cuneiformref01_Same.b1.eq_1 ?_
    by_cases hi : i < xs.length
    · have hxi : xs.drop i = xs.getD i 0 :: xs.drop (i + 1) := by
        rw [List.drop_eq_getElem_cons hi]; simp [hi]
      have hyi : ys.drop i = ys.getD i 0 :: ys.drop (i + 1) := by
        rw [List.drop_eq_getElem_cons (by omega : i < ys.length)]; simp [show i < ys.length by omega]
      by_cases he : xs.getD i 0 = ys.getD i 0
      · have he' : ((xs.getD i 0 : Nat) : Int) = ((ys.getD i 0 : Nat) : Int) := by rw [he]
        simp (disch := omega) only [std, goK_s2b, dgoK_s2b, isEff_s2b, isPure_s2b, goK_b2s, dgoK_b2s, isEff_b2s, isPure_b2s, evalOp_s2b, s2bR, goK_mark, dgoK_mark, isEff_mark, isPure_mark, evalOp_mark, markA_slc, markB, ↓reduceIte, Nat.reduceEqDiff, Int.reduceToNat, Int.reducePow, Nat.reduceAdd, Nat.reduceLeDiff, Nat.reduceMul, Nat.reduceBEq, reduceCtorEq, ha.len, hb.len, ha.isSome, hb.isSome, cuneiformref01_Same.d0, ha.load, hb.load, he']
        refine same_loop T H Q ha hb hl hm (xs.length - (i + 1)) (i + 1) rfl (by omega) (fun h => h3 (by rw [hxi, hyi, he, h])) (fun h => h4 (by rw [hxi, hyi, he]; simpa using h))
      · have he' : ((xs.getD i 0 : Nat) : Int) ≠ ((ys.getD i 0 : Nat) : Int) := by omega
        simp (disch := omega) only [std, goK_s2b, dgoK_s2b, isEff_s2b, isPure_s2b, goK_b2s, dgoK_b2s, isEff_b2s, isPure_b2s, evalOp_s2b, s2bR, goK_mark, dgoK_mark, isEff_mark, isPure_mark, evalOp_mark, markA_slc, markB, ↓reduceIte, Nat.reduceEqDiff, Int.reduceToNat, Int.reducePow, Nat.reduceAdd, Nat.reduceLeDiff, Nat.reduceMul, Nat.reduceBEq, reduceCtorEq, ha.len, hb.len, ha.isSome, hb.isSome, cuneiformref01_Same.d0, ha.load, hb.load, he']
        exact h4 (by rw [hxi, hyi]; intro h; exact he (List.cons.inj h).1)
    · simp (disch := omega) only [std, goK_s2b, dgoK_s2b, isEff_s2b, isPure_s2b, goK_b2s, dgoK_b2s, isEff_b2s, isPure_b2s, evalOp_s2b, s2bR, goK_mark, dgoK_mark, isEff_mark, isPure_mark, evalOp_mark, markA_slc, markB, ↓reduceIte, Nat.reduceEqDiff, Int.reduceToNat, Int.reducePow, Nat.reduceAdd, Nat.reduceLeDiff, Nat.reduceMul, Nat.reduceBEq, reduceCtorEq, ha.len, hb.len]
      exact h3 (by rw [List.drop_eq_nil_of_le (by omega), List.drop_eq_nil_of_le (by omega)]) _
  termination_by m => m

theorem same_ok (H : AHeap) {a b : AVal} {xs ys : List Nat} (ha : Nats .u8 H a xs) (hb : Nats .u8 H b ys) (hm : xs.length < 9223372036854775808) (Q : AVal → AHeap → Prop) (h : Q (.bool (decide (xs = ys))) H) : FunOK Try.prog F.cuneiformref01_Same [a, b] H Q := by
  refine fun_V 100 cuneiformref01_Same_code rfl ?_
  by_cases hl : xs.length = ys.length
  · simp (disch := omega) only [std, goK_s2b, dgoK_s2b, isEff_s2b, isPure_s2b, goK_b2s, dgoK_b2s, isEff_b2s, isPure_b2s, evalOp_s2b, s2bR, goK_mark, dgoK_mark, isEff_mark, isPure_mark, evalOp_mark, markA_slc, markB, ↓reduceIte, Nat.reduceEqDiff, Int.reduceToNat, Int.reducePow, Nat.reduceAdd, Nat.reduceLeDiff, Nat.reduceMul, Nat.reduceBEq, reduceCtorEq, cuneiformref01_Same, cuneiformref01_Same.body, ha.len, hb.len, hl]
    refine same_loop _ H Q ha hb hl hm _ 0 rfl (by omega) ?_ ?_
    · intro he r'
      refine run_V 100 ?_
      simp (disch := omega) only [std, goK_s2b, dgoK_s2b, isEff_s2b, isPure_s2b, goK_b2s, dgoK_b2s, isEff_b2s, isPure_b2s, evalOp_s2b, s2bR, goK_mark, dgoK_mark, isEff_mark, isPure_mark, evalOp_mark, markA_slc, markB, ↓reduceIte, Nat.reduceEqDiff, Int.reduceToNat, Int.reducePow, Nat.reduceAdd, Nat.reduceLeDiff, Nat.reduceMul, Nat.reduceBEq, reduceCtorEq]
      simpa [show xs = ys by simpa using he] using h
    · intro he
      simpa [show xs ≠ ys by simpa using he] using h
  · simp (disch := omega) only [std, goK_s2b, dgoK_s2b, isEff_s2b, isPure_s2b, goK_b2s, dgoK_b2s, isEff_b2s, isPure_b2s, evalOp_s2b, s2bR, goK_mark, dgoK_mark, isEff_mark, isPure_mark, evalOp_mark, markA_slc, markB, ↓reduceIte, Nat.reduceEqDiff, Int.reduceToNat, Int.reducePow, Nat.reduceAdd, Nat.reduceLeDiff, Nat.reduceMul, Nat.reduceBEq, reduceCtorEq, cuneiformref01_Same, cuneiformref01_Same.body, ha.len, hb.len]
    simpa [show xs ≠ ys by intro he; exact hl (by rw [he])] using h
end Go.Proofs.Ytlbalhddopcamaa
