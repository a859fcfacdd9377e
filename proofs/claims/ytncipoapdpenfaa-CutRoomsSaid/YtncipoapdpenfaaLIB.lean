/-
  Lemmas on the way to the statements of this seat. By an AI agent. No person has read it.
-/
import Derived.Test.YtncipoapdpenfaaCode
import Derived.Test.YtncipoapdpenfaaAm6

namespace Go.Proofs.Ytncipoapdpenfaa
open Go Go.Am
set_option linter.unusedSimpArgs false
set_option linter.unusedVariables false

def sizeOf (n : Nat) : Nat := if h : n < 128 then 1 else 1 + sizeOf (n / 128)
  termination_by n

theorem sizeOf_lt {n : Nat} (h : n < 128) : sizeOf n = 1 := by rw [sizeOf, dif_pos h]
theorem sizeOf_ge {n : Nat} (h : ¬ n < 128) : sizeOf n = 1 + sizeOf (n / 128) := by rw [sizeOf, dif_neg h]

theorem sizeOf_le : ∀ (k n : Nat), n < 128 ^ (k + 1) → sizeOf n ≤ k + 1
  | 0, n, h => by rw [sizeOf_lt (by simpa using h)]; omega
  | k + 1, n, h => by
    by_cases hn : n < 128
    · rw [sizeOf_lt hn]; omega
    · rw [sizeOf_ge hn]
      have := sizeOf_le k (n / 128) (by rw [Nat.pow_succ] at h; exact Nat.div_lt_of_lt_mul (by rw [Nat.mul_comm]; exact h))
      omega
theorem sizeOf_le10 {n : Nat} (h : n < 18446744073709551616) : sizeOf n ≤ 10 := sizeOf_le 9 n (by omega)
theorem sizeOf_pos (n : Nat) : 1 ≤ sizeOf n := by
  by_cases hn : n < 128
  · rw [sizeOf_lt hn]; omega
  · rw [sizeOf_ge hn]; omega
end Go.Proofs.Ytncipoapdpenfaa

namespace Go.Proofs.Ytncipoapdpenfaa
open Go Go.Am
set_option linter.unusedSimpArgs false
set_option linter.unusedVariables false

abbrev sameC : Ctx := ⟨F.cuneiformref01_Same, 26, [.tmp 4], none⟩

theorem same_loop (T : List AItem) (H : AHeap) (Q : AVal → AHeap → Prop) {a b : AVal} {xs ys : List Nat} (ha : Nats .u8 H a xs) (hb : Nats .u8 H b ys) (hl : xs.length = ys.length) (hm : xs.length < 9223372036854775808) :
    ∀ (m i : Nat), xs.length - i = m → i ≤ xs.length → (xs.drop i = ys.drop i → ∀ r', Run Try.prog sameC T r' H Q) → (xs.drop i ≠ ys.drop i → Q (.bool false) H) →
    Rounds Try.prog sameC cuneiformref01_Same.b1 [.inBlock 0] T [(0, a), (1, b), (5, .int .i64 i)] H Q
  | m, i, h1, h2, h3, h4 => by
    refine loop_V 200 cuneiformref01_Same.b1.eq_1 ?_
    by_cases hi : i < xs.length
    · have hxi : xs.drop i = xs.getD i 0 :: xs.drop (i + 1) := by
        rw [List.drop_eq_getElem_cons hi]; simp [hi]
      have hyi : ys.drop i = ys.getD i 0 :: ys.drop (i + 1) := by
        rw [List.drop_eq_getElem_cons (by omega : i < ys.length)]; simp [show i < ys.length by omega]
      by_cases he : xs.getD i 0 = ys.getD i 0
      · have he' : ((xs.getD i 0 : Nat) : Int) = ((ys.getD i 0 : Nat) : Int) := by rw [he]
        simp (disch := omega) only [std, goK_s2b, dgoK_s2b, isEff_s2b, isPure_s2b, goK_b2s, dgoK_b2s, isEff_b2s, isPure_b2s, evalOp_s2b, s2bR, goK_mark, dgoK_mark, isEff_mark, isPure_mark, evalOp_mark, markA_slc, markB, ↓reduceIte, Nat.reduceEqDiff, Int.reduceToNat, Int.reducePow, Nat.reduceAdd, Nat.reduceLeDiff, Nat.reduceMul, Nat.reduceBEq, reduceCtorEq, ha.len, hb.len, ha.isSome, hb.isSome, cuneiformref01_Same.d0, ha.load, hb.load, he']
        refine same_loop T H Q ha hb hl hm (xs.length - (i + 1)) (i + 1) rfl (by omega) (fun h => h3 (by rw [hxi, hyi, he, h])) (fun h => h4 (by rw [hxi, hyi, he]; simpa using h))
      · have he' : ((xs.getD i 0 : Nat) : Int) ≠ ((ys.getD i 0 : Nat) : Int) := by omega
        simp (disch := omega) only [std, goK_s2b, dgoK_s2b, isEff_s2b, isPure_s2b, goK_b2s, dgoK_b2s, isEff_b2s, isPure_b2s, evalOp_s2b, s2bR, goK_mark, dgoK_mark, isEff_mark, isPure_mark, evalOp_mark, markA_slc, markB, ↓reduceIte, Nat.reduceEqDiff, Int.reduceToNat, Int.reducePow, Nat.reduceAdd, Nat.reduceLeDiff, Nat.reduceMul, Nat.reduceBEq, reduceCtorEq, ha.len, hb.len, ha.isSome, hb.isSome, cuneiformref01_Same.d0, ha.load, hb.load, he']
        exact h4 (by rw [hxi, hyi]; intro h; exact he (List.cons.inj h).1)
    · simp (disch := omega) only [std, goK_s2b, dgoK_s2b, isEff_s2b, isPure_s2b, goK_b2s, dgoK_b2s, isEff_b2s, isPure_b2s, evalOp_s2b, s2bR, goK_mark, dgoK_mark, isEff_mark, isPure_mark, evalOp_mark, markA_slc, markB, ↓reduceIte, Nat.reduceEqDiff, Int.reduceToNat, Int.reducePow, Nat.reduceAdd, Nat.reduceLeDiff, Nat.reduceMul, Nat.reduceBEq, reduceCtorEq, ha.len, hb.len]
      exact h3 (by rw [List.drop_eq_nil_of_le (by omega), List.drop_eq_nil_of_le (by omega)]) _
  termination_by m => m

theorem same_ok (H : AHeap) {a b : AVal} {xs ys : List Nat} (ha : Nats .u8 H a xs) (hb : Nats .u8 H b ys) (hm : xs.length < 9223372036854775808) (Q : AVal → AHeap → Prop) (h : Q (.bool (decide (xs = ys))) H) : FunOK Try.prog F.cuneiformref01_Same [a, b] H Q := by
  refine fun_V 100 cuneiformref01_Same_code rfl ?_
  by_cases hl : xs.length = ys.length
  · simp (disch := omega) only [std, goK_s2b, dgoK_s2b, isEff_s2b, isPure_s2b, goK_b2s, dgoK_b2s, isEff_b2s, isPure_b2s, evalOp_s2b, s2bR, goK_mark, dgoK_mark, isEff_mark, isPure_mark, evalOp_mark, markA_slc, markB, ↓reduceIte, Nat.reduceEqDiff, Int.reduceToNat, Int.reducePow, Nat.reduceAdd, Nat.reduceLeDiff, Nat.reduceMul, Nat.reduceBEq, reduceCtorEq, cuneiformref01_Same, cuneiformref01_Same.body, ha.len, hb.len, hl]
    refine same_loop _ H Q ha hb hl hm _ 0 rfl (by omega) ?_ ?_
    · intro he r'
      refine run_V 100 ?_
      simp (disch := omega) only [std, goK_s2b, dgoK_s2b, isEff_s2b, isPure_s2b, goK_b2s, dgoK_b2s, isEff_b2s, isPure_b2s, evalOp_s2b, s2bR, goK_mark, dgoK_mark, isEff_mark, isPure_mark, evalOp_mark, markA_slc, markB, ↓reduceIte, Nat.reduceEqDiff, Int.reduceToNat, Int.reducePow, Nat.reduceAdd, Nat.reduceLeDiff, Nat.reduceMul, Nat.reduceBEq, reduceCtorEq]
      simpa [show xs = ys by simpa using he] using h
    · intro he
      simpa [show xs ≠ ys by simpa using he] using h
  · simp (disch := omega) only [std, goK_s2b, dgoK_s2b, isEff_s2b, isPure_s2b, goK_b2s, dgoK_b2s, isEff_b2s, isPure_b2s, evalOp_s2b, s2bR, goK_mark, dgoK_mark, isEff_mark, isPure_mark, evalOp_mark, markA_slc, markB, ↓reduceIte, Nat.reduceEqDiff, Int.reduceToNat, Int.reducePow, Nat.reduceAdd, Nat.reduceLeDiff, Nat.reduceMul, Nat.reduceBEq, reduceCtorEq, cuneiformref01_Same, cuneiformref01_Same.body, ha.len, hb.len]
    simpa [show xs ≠ ys by intro he; exact hl (by rw [he])] using h
end Go.Proofs.Ytncipoapdpenfaa

namespace Go.Proofs.Ytncipoapdpenfaa
open Go Go.Am
set_option linter.unusedSimpArgs false
set_option linter.unusedVariables false

/-- A head. -/
structure Hd where
  v : Int
  k : Int
  s : Int
  i : Int
  c : Int

def encHd (h : Hd) : List AVal := [.int .i64 h.v, .int .i64 h.k, .int .u32 h.s, .int .i64 h.i, .int .i64 h.c]

/-- A frame. -/
structure Fr where
  h : Hd
  b : List Nat

def encFr (f : Fr) : List AVal := [.int .i64 f.h.v, .int .i64 f.h.k, .int .u32 f.h.s, .int .i64 f.h.i, .int .i64 f.h.c, nums .u8 false f.b]
theorem encFr_len (f : Fr) : (encFr f).length = 6 := rfl

instance : Inhabited Hd := ⟨⟨0, 0, 0, 0, 0⟩⟩
instance : Inhabited Fr := ⟨⟨default, []⟩⟩

def mates (a b : Hd) : Bool := decide (a.v = b.v) && (decide (a.k = b.k) && (decide (a.s = b.s) && decide (a.c = b.c)))

theorem mates_ok (H : AHeap) (a b : Hd) (Q : AVal → AHeap → Prop) (h : Q (.bool (mates a b)) H) : FunOK Try.prog F.head_Mates [.agg (encHd a), .agg (encHd b)] H Q := by
  refine fun_iced head_Mates_code fun _ => ?_
  refine fun_V 100 head_Mates_code rfl ?_
  simp (disch := first | omega | (simp only [List.length_append, List.length_cons, List.length_nil, List.length_set, List.length_map, List.length_take, List.length_drop]; omega)) only [stdh, goK_s2b, dgoK_s2b, isEff_s2b, isPure_s2b, goK_b2s, dgoK_b2s, isEff_b2s, isPure_b2s, evalOp_s2b, s2bR, goK_mark, dgoK_mark, isEff_mark, isPure_mark, evalOp_mark, markA_slc, markB, ↓reduceIte, Nat.reduceEqDiff, Int.reduceToNat, Int.reducePow, Nat.reduceAdd, Nat.reduceLeDiff, Nat.reduceMul, Nat.reduceBEq, reduceCtorEq, head_Mates, head_Mates.body, encHd, eqA, eqCells, eqCell]
  refine ice_none trivial ?_
  have : (decide (a.v = b.v) && (decide (a.k = b.k) && (decide (a.s = b.s) && (decide (b.i = b.i) && (decide (a.c = b.c) && true))))) = mates a b := by simp [mates]
  first | exact h | (rw [← this] at h; exact h) | (simpa [mates] using h)

theorem rmates_ok (H : AHeap) (a b : Hd) (Q : AVal → AHeap → Prop) (h : Q (.bool (mates a b)) H) : FunOK Try.prog F.cuneiformref12_Mates [.agg (encHd a), .agg (encHd b)] H Q := by
  refine fun_iced cuneiformref12_Mates_code fun _ => ?_
  refine fun_V 100 cuneiformref12_Mates_code rfl ?_
  unfold mates at h
  by_cases h1 : a.v = b.v
  · by_cases h2 : a.k = b.k
    · by_cases h3 : a.s = b.s
      · simp (disch := first | omega | (simp only [List.length_append, List.length_cons, List.length_nil, List.length_set, List.length_map, List.length_take, List.length_drop]; omega)) only [stdh, goK_s2b, dgoK_s2b, isEff_s2b, isPure_s2b, goK_b2s, dgoK_b2s, isEff_b2s, isPure_b2s, evalOp_s2b, s2bR, goK_mark, dgoK_mark, isEff_mark, isPure_mark, evalOp_mark, markA_slc, markB, ↓reduceIte, Nat.reduceEqDiff, Int.reduceToNat, Int.reducePow, Nat.reduceAdd, Nat.reduceLeDiff, Nat.reduceMul, Nat.reduceBEq, reduceCtorEq, cuneiformref12_Mates, cuneiformref12_Mates.body, encHd, h1, h2, h3]
        exact ice_none trivial (by simpa [h1, h2, h3] using h)
      · simp (disch := first | omega | (simp only [List.length_append, List.length_cons, List.length_nil, List.length_set, List.length_map, List.length_take, List.length_drop]; omega)) only [stdh, goK_s2b, dgoK_s2b, isEff_s2b, isPure_s2b, goK_b2s, dgoK_b2s, isEff_b2s, isPure_b2s, evalOp_s2b, s2bR, goK_mark, dgoK_mark, isEff_mark, isPure_mark, evalOp_mark, markA_slc, markB, ↓reduceIte, Nat.reduceEqDiff, Int.reduceToNat, Int.reducePow, Nat.reduceAdd, Nat.reduceLeDiff, Nat.reduceMul, Nat.reduceBEq, reduceCtorEq, cuneiformref12_Mates, cuneiformref12_Mates.body, encHd, h1, h2, h3]
        exact ice_none trivial (by simpa [h1, h2, h3] using h)
    · simp (disch := first | omega | (simp only [List.length_append, List.length_cons, List.length_nil, List.length_set, List.length_map, List.length_take, List.length_drop]; omega)) only [stdh, goK_s2b, dgoK_s2b, isEff_s2b, isPure_s2b, goK_b2s, dgoK_b2s, isEff_b2s, isPure_b2s, evalOp_s2b, s2bR, goK_mark, dgoK_mark, isEff_mark, isPure_mark, evalOp_mark, markA_slc, markB, ↓reduceIte, Nat.reduceEqDiff, Int.reduceToNat, Int.reducePow, Nat.reduceAdd, Nat.reduceLeDiff, Nat.reduceMul, Nat.reduceBEq, reduceCtorEq, cuneiformref12_Mates, cuneiformref12_Mates.body, encHd, h1, h2]
      exact ice_none trivial (by simpa [h1, h2] using h)
  · simp (disch := first | omega | (simp only [List.length_append, List.length_cons, List.length_nil, List.length_set, List.length_map, List.length_take, List.length_drop]; omega)) only [stdh, goK_s2b, dgoK_s2b, isEff_s2b, isPure_s2b, goK_b2s, dgoK_b2s, isEff_b2s, isPure_b2s, evalOp_s2b, s2bR, goK_mark, dgoK_mark, isEff_mark, isPure_mark, evalOp_mark, markA_slc, markB, ↓reduceIte, Nat.reduceEqDiff, Int.reduceToNat, Int.reducePow, Nat.reduceAdd, Nat.reduceLeDiff, Nat.reduceMul, Nat.reduceBEq, reduceCtorEq, cuneiformref12_Mates, cuneiformref12_Mates.body, encHd, h1]
    exact ice_none trivial (by simpa [h1] using h)

theorem of_ok (H : AHeap) (f : Fr) (Q : AVal → AHeap → Prop) (h : Q (.agg (encFr f)) H) : FunOK Try.prog F.cuneiformlaw08_Of [.agg (encFr f)] H Q := by
  refine fun_iced cuneiformlaw08_Of_code fun _ => ?_
  refine fun_V 100 cuneiformlaw08_Of_code rfl ?_
  simp (disch := first | omega | (simp only [List.length_append, List.length_cons, List.length_nil, List.length_set, List.length_map, List.length_take, List.length_drop]; omega)) only [stdh, goK_s2b, dgoK_s2b, isEff_s2b, isPure_s2b, goK_b2s, dgoK_b2s, isEff_b2s, isPure_b2s, evalOp_s2b, s2bR, goK_mark, dgoK_mark, isEff_mark, isPure_mark, evalOp_mark, markA_slc, markB, ↓reduceIte, Nat.reduceEqDiff, Int.reduceToNat, Int.reducePow, Nat.reduceAdd, Nat.reduceLeDiff, Nat.reduceMul, Nat.reduceBEq, reduceCtorEq, cuneiformlaw08_Of, cuneiformlaw08_Of.body, encFr]
  exact ice_none (by simp [closed, closeds, closed_nums]) h

def cutFr (f : Fr) : Fr := { f with b := f.b.take (min f.b.length 250) }

theorem cut250 (n : Nat) : (if 250 < (n : Int) then 250 else (n : Int)) = ((min n 250 : Nat) : Int) := by split <;> omega

theorem cut_ok (H : AHeap) (f : Fr) (Q : AVal → AHeap → Prop) (h : Q (.agg (encFr (cutFr f))) H) : FunOK Try.prog F.cuneiformlaw08_Cut [.agg (encFr f)] H Q := by
  refine fun_iced cuneiformlaw08_Cut_code fun _ => ?_
  refine fun_V 100 cuneiformlaw08_Cut_code rfl ?_
  simp (disch := first | omega | (simp only [List.length_append, List.length_cons, List.length_nil, List.length_set, List.length_map, List.length_take, List.length_drop]; omega)) only [stdh, goK_s2b, dgoK_s2b, isEff_s2b, isPure_s2b, goK_b2s, dgoK_b2s, isEff_b2s, isPure_b2s, evalOp_s2b, s2bR, goK_mark, dgoK_mark, isEff_mark, isPure_mark, evalOp_mark, markA_slc, markB, ↓reduceIte, Nat.reduceEqDiff, Int.reduceToNat, Int.reducePow, Nat.reduceAdd, Nat.reduceLeDiff, Nat.reduceMul, Nat.reduceBEq, reduceCtorEq, cuneiformlaw08_Cut, cuneiformlaw08_Cut.body, encFr, cut250]
  exact ice_none (by simp [closed, closeds, closed_nums]) h

/-- Frames in a list. -/
structure Frs (H : AHeap) (l : AVal) (fs : List Fr) : Prop where
  len : slen l = some fs.length
  view : view H l = some (fs.flatMap encFr)

theorem Frs.keep {H H' : AHeap} {l : AVal} {fs : List Fr} (h : Frs H l fs) (hk : Keeps H H') : Frs H' l fs := ⟨h.len, hk.view h.view⟩
theorem Frs.isSome {H : AHeap} {l : AVal} {fs : List Fr} (h : Frs H l fs) : (Am.view H l).isSome = true := by rw [h.view]; rfl
theorem Frs.load1 {H : AHeap} {l : AVal} {fs : List Fr} (h : Frs H l fs) {j o : Nat} (hj : j < fs.length) (ho : o < 6) : loadA H none (.sptr l (j * 6 + o)) = some (True, (encFr (fs.getD j default)).getD o .junk) := by
  have := load_rec1 (H := H) (t := false) (zs := fs) (j := j) (o := o) encFr_len hj ho
  simp only [loadA, cellsAt, view_recs, h.view] at this ⊢
  exact this
theorem Frs.loadN {H : AHeap} {l : AVal} {fs : List Fr} (h : Frs H l fs) {j o n : Nat} (hj : j < fs.length) (ho : o + n ≤ 6) : loadA H (some n) (.sptr l (j * 6 + o)) = some (True, .agg (((encFr (fs.getD j default)).drop o).take n)) := by
  have := load_recN (H := H) (t := false) (zs := fs) (j := j) (o := o) (n := n) encFr_len hj ho
  simp only [loadA, cellsAt, view_recs, h.view] at this ⊢
  exact this
theorem frs_recs {H : AHeap} {t : Bool} {fs : List Fr} : Frs H (recs encFr t fs) fs := ⟨rfl, rfl⟩

/-! ### The body of frames -/

/-- The first thing that is wrong. -/
def wrongOf (h0 : Hd) : Nat → List Fr → Nat
  | _, [] => 0
  | i, f :: fs => if mates f.h h0 = false then 17 else if f.h.i ≠ (i : Int) then 3 else wrongOf h0 (i + 1) fs

def wholeOf (fs : List Fr) : List Nat × Nat :=
  if wrongOf (fs.getD 0 default).h 0 fs ≠ 0 then ([], wrongOf (fs.getD 0 default).h 0 fs)
  else if fs = [] ∨ (fs.length : Int) < (fs.getD 0 default).h.c then ([], 13)
  else if (fs.getD 0 default).h.c < (fs.length : Int) then ([], 6) else (fs.flatMap Fr.b, 0)

theorem wrongOf_drop {h0 : Hd} {fs : List Fr} {j : Nat} (hj : j < fs.length) : wrongOf h0 j (fs.drop j) = if mates (fs.getD j default).h h0 = false then 17 else if (fs.getD j default).h.i ≠ (j : Int) then 3 else wrongOf h0 (j + 1) (fs.drop (j + 1)) := by
  rw [List.drop_eq_getElem_cons hj, wrongOf]
  have : fs.getD j default = fs[j] := by simp [hj]
  rw [this]
end Go.Proofs.Ytncipoapdpenfaa

namespace Go.Proofs.Ytncipoapdpenfaa
open Go Go.Am
set_option linter.unusedSimpArgs false
set_option linter.unusedVariables false

def u8s (xs : List Nat) : List AVal := xs.map fun n : Nat => AVal.int .u8 (n : Int)
theorem u8s_len (xs : List Nat) : (u8s xs).length = xs.length := by simp [u8s]
theorem u8s_append (xs ys : List Nat) : u8s (xs ++ ys) = u8s xs ++ u8s ys := by simp [u8s]
theorem u8s_cellish (xs : List Nat) : (u8s xs).all AVal.cellish = true := by simp [u8s, AVal.cellish]

abbrev wholeC : Ctx := ⟨F.cut_Whole, 57, [.tmp 2, .tmp 3], none⟩

theorem flat_take {fs : List Fr} {j : Nat} (hj : j < fs.length) : (fs.take (j + 1)).flatMap Fr.b = (fs.take j).flatMap Fr.b ++ (fs.getD j default).b := by
  rw [List.take_succ_eq_append_getElem hj, List.flatMap_append]
  simp [hj]

theorem flat_le {fs : List Fr} {j : Nat} (hj : j < fs.length) : ((fs.take j).flatMap Fr.b).length + (fs.getD j default).b.length ≤ (fs.flatMap Fr.b).length := by
  have h1 := congrArg List.length (flat_take hj)
  rw [List.length_append] at h1
  rw [← h1]
  conv => rhs; rw [← List.take_append_drop (j + 1) fs]
  rw [List.flatMap_append, List.length_append]; omega

theorem whole_loop (K : List AItem) (H0 : AHeap) (Q : AVal → AHeap → Prop) {l : AVal} {fs : List Fr} (hl : Frs H0 l fs) (hsum : (fs.flatMap Fr.b).length ≤ 1000000) (hn : fs.length ≤ 1000000)
    (hE : ∀ r' H' (e : Nat), Keeps H0 H' → wholeOf fs = ([], e) → rget r' 5 = .int .i64 (e : Nat) → Run Try.prog wholeC K r' H' Q)
    (hR : ∀ a H', Own 1 T.uint8 H0.length H' a (fs.flatMap Fr.b).length (u8s (fs.flatMap Fr.b)) → Keeps H0 H' → wholeOf fs = (fs.flatMap Fr.b, 0) → Q (.tup [a, .int .i64 0]) H') :
    ∀ (m j : Nat) (H : AHeap) (a : AVal) (e : Nat), j + m = fs.length → Own 1 T.uint8 H0.length H a ((fs.take j).flatMap Fr.b).length (u8s ((fs.take j).flatMap Fr.b)) → Keeps H0 H →
    wrongOf (fs.getD 0 default).h 0 fs = wrongOf (fs.getD 0 default).h j (fs.drop j) → (j < fs.length → e = 13) → (j = fs.length → wholeOf fs = ([], e)) →
    Rounds Try.prog wholeC cut_Whole.b1 [.inBlock 0] K [(0, l), (4, a), (5, .int .i64 (e : Nat)), (9, l), (10, .int .i64 (fs.length : Nat)), (11, .int .i64 (j : Nat))] H Q
  | 0, j, H, a, e, h1, hm, hk, hw, he, hf => by
    refine loop_V 200 cut_Whole.b1.eq_1 ?_
    simp (disch := first | omega | (simp only [List.length_append, List.length_cons, List.length_nil, List.length_set, List.length_map, List.length_take, List.length_drop]; omega)) only [stdh, goK_s2b, dgoK_s2b, isEff_s2b, isPure_s2b, goK_b2s, dgoK_b2s, isEff_b2s, isPure_b2s, evalOp_s2b, s2bR, goK_mark, dgoK_mark, isEff_mark, isPure_mark, evalOp_mark, markA_slc, markB, ↓reduceIte, Nat.reduceEqDiff, Int.reduceToNat, Int.reducePow, Nat.reduceAdd, Nat.reduceLeDiff, Nat.reduceMul, Nat.reduceBEq, reduceCtorEq]
    exact hE _ H e hk (hf (by omega)) rfl
  | m + 1, j, H, a, e, h1, hm, hk, hw, he, hf => by
    refine loop_V 200 cut_Whole.b1.eq_1 ?_
    have hj : j < fs.length := by omega
    have e13 := he hj
    subst e13
    have hl' := hl.keep hk
    have hld : loadA H (some 6) (.sptr l (j * 6)) = some (True, .agg (encFr (fs.getD j default))) := hl'.loadN (o := 0) (n := 6) hj (by omega)
    rw [wrongOf_drop hj] at hw
    have hl0 : ∀ b, loadA (H ++ [b]) (some 5) (.sptr l 0) = some (True, .agg (encHd (fs.getD 0 default).h)) := fun b => (hl'.keep ((Keeps.refl H).push b)).loadN (j := 0) (o := 0) (n := 5) (by omega) (by omega)
    have his : ∀ b, (view (H ++ [b]) l).isSome = true := fun b => (hl'.keep ((Keeps.refl H).push b)).isSome
    have hfl := flat_le hj
    have hft := flat_take hj
    have hdef : wholeOf fs = (if wrongOf (fs.getD 0 default).h 0 fs ≠ 0 then ([], wrongOf (fs.getD 0 default).h 0 fs)
      else if fs = [] ∨ (fs.length : Int) < (fs.getD 0 default).h.c then ([], 13)
      else if (fs.getD 0 default).h.c < (fs.length : Int) then ([], 6) else (fs.flatMap Fr.b, 0)) := rfl
    generalize hf0 : fs.getD 0 default = f0 at *
    generalize hfj : fs.getD j default = f at *
    have e1 : encFr f = [.int .i64 f.h.v, .int .i64 f.h.k, .int .u32 f.h.s, .int .i64 f.h.i, .int .i64 f.h.c, nums .u8 false f.b] := rfl
    have e2 : ([.int .i64 f.h.v, .int .i64 f.h.k, .int .u32 f.h.s, .int .i64 f.h.i, .int .i64 f.h.c] : List AVal) = encHd f.h := rfl
    simp (disch := first | omega | (simp only [List.length_append, List.length_cons, List.length_nil, List.length_set, List.length_map, List.length_take, List.length_drop]; omega)) only [stdh, goK_s2b, dgoK_s2b, isEff_s2b, isPure_s2b, goK_b2s, dgoK_b2s, isEff_b2s, isPure_b2s, evalOp_s2b, s2bR, goK_mark, dgoK_mark, isEff_mark, isPure_mark, evalOp_mark, markA_slc, markB, ↓reduceIte, Nat.reduceEqDiff, Int.reduceToNat, Int.reducePow, Nat.reduceAdd, Nat.reduceLeDiff, Nat.reduceMul, Nat.reduceBEq, reduceCtorEq, hl'.len, hl'.isSome, hld, e1, cut_Whole.d0, his, hl0]
    refine callD_fn (mates_ok _ f.h f0.h _ ?_)
    refine ⟨by simp (disch := first | omega | (simp only [List.length_append, List.length_cons, List.length_nil, List.length_set, List.length_map, List.length_take, List.length_drop]; omega)) only [stdh, goK_s2b, dgoK_s2b, isEff_s2b, isPure_s2b, goK_b2s, dgoK_b2s, isEff_b2s, isPure_b2s, evalOp_s2b, s2bR, goK_mark, dgoK_mark, isEff_mark, isPure_mark, evalOp_mark, markA_slc, markB, ↓reduceIte, Nat.reduceEqDiff, Int.reduceToNat, Int.reducePow, Nat.reduceAdd, Nat.reduceLeDiff, Nat.reduceMul, Nat.reduceBEq, reduceCtorEq], ?_⟩
    refine runD_V 160 ?_
    have hcell : (H ++ [ABlk.cells [.int .i64 f.h.v, .int .i64 f.h.k, .int .u32 f.h.s, .int .i64 f.h.i, .int .i64 f.h.c, nums .u8 false f.b] T.frame_Frame])[H.length]? = some (ABlk.cells [.int .i64 f.h.v, .int .i64 f.h.k, .int .u32 f.h.s, .int .i64 f.h.i, .int .i64 f.h.c, nums .u8 false f.b] T.frame_Frame) := at_0
    cases hmt : mates f.h f0.h with
    | false =>
      rw [hmt, if_pos rfl] at hw
      rw [hw, if_pos (by decide)] at hdef
      simp (disch := first | omega | (simp only [List.length_append, List.length_cons, List.length_nil, List.length_set, List.length_map, List.length_take, List.length_drop]; omega)) only [stdh, goK_s2b, dgoK_s2b, isEff_s2b, isPure_s2b, goK_b2s, dgoK_b2s, isEff_b2s, isPure_b2s, evalOp_s2b, s2bR, goK_mark, dgoK_mark, isEff_mark, isPure_mark, evalOp_mark, markA_slc, markB, ↓reduceIte, Nat.reduceEqDiff, Int.reduceToNat, Int.reducePow, Nat.reduceAdd, Nat.reduceLeDiff, Nat.reduceMul, Nat.reduceBEq, reduceCtorEq]
      exact hE _ _ 17 (hk.push _) hdef rfl
    | true =>
      rw [hmt, if_neg (by decide)] at hw
      by_cases hi : f.h.i = (j : Int)
      · rw [if_neg (by simp [hi])] at hw
        have hx : f0.h = f.h ∨ True := .inr trivial
        have hc0 : f.h.c = f0.h.c := by
          simp only [mates, Bool.and_eq_true, decide_eq_true_eq] at hmt
          exact hmt.2.2.2
        rw [hi] at hcell
        obtain ⟨p, a1, hp⟩ := Own.append3 (H := H ++ [ABlk.cells [.int .i64 f.h.v, .int .i64 f.h.k, .int .u32 f.h.s, .int .i64 (j : Int), .int .i64 f.h.c, nums .u8 false f.b] T.frame_Frame]) (hm.keep ((Keeps.refl H).push _)) (x := nums .u8 false f.b) (k := f.b.length) (ys := u8s f.b) 1 rfl rfl (by simp [u8s]) (by omega) (by omega) (by omega) (u8s_cellish _)
        have hnm : H.length ∉ a.names := fun hmem => by have := (hm.lt _ hmem).2; omega
        generalize hH2 : killA (H ++ [ABlk.cells [.int .i64 f.h.v, .int .i64 f.h.k, .int .u32 f.h.s, .int .i64 (j : Int), .int .i64 f.h.c, nums .u8 false f.b] T.frame_Frame]) a = H2 at *
        have hl2 : H2.length = H.length + 1 := by rw [← hH2, killA_len]; simp
        have hg2 : H2[H.length]? = some (ABlk.cells [.int .i64 f.h.v, .int .i64 f.h.k, .int .u32 f.h.s, .int .i64 (j : Int), .int .i64 f.h.c, nums .u8 false f.b] T.frame_Frame) := by
          rw [← hH2, killA_get hnm]; exact hcell
        have hk2 : Keeps H0 H2 := by
          refine ⟨by have := hk.le; omega, fun n hn => ?_⟩
          rw [← hH2, killA_get (fun hmem => by have := (hm.lt _ hmem).1; omega), at_low (by have := hk.le; omega)]
          exact hk.at_ n hn
        have hov : Own 1 T.uint8 H0.length (H2 ++ [.vec (u8s ((fs.take j).flatMap Fr.b) ++ u8s f.b) T.uint8 1]) (.slc (H.length + 1) 0 (((fs.take j).flatMap Fr.b).length + f.b.length) 1) ((fs.take (j + 1)).flatMap Fr.b).length (u8s ((fs.take (j + 1)).flatMap Fr.b)) := by
          refine ⟨by simp [u8s], .inr ⟨H.length + 1, by have := hk.le; omega, by rw [hft, List.length_append], ?_⟩⟩
          rw [hft, u8s_append, ← hl2, at_0]; rfl
        have hk3 : Keeps H0 (H2 ++ [.vec (u8s ((fs.take j).flatMap Fr.b) ++ u8s f.b) T.uint8 1]) := hk2.push _
        by_cases hlast : j + 1 < fs.length
        · simp (disch := first | omega | (simp only [List.length_append, List.length_cons, List.length_nil, List.length_set, List.length_map, List.length_take, List.length_drop]; omega)) only [stdh, goK_s2b, dgoK_s2b, isEff_s2b, isPure_s2b, goK_b2s, dgoK_b2s, isEff_b2s, isPure_b2s, evalOp_s2b, s2bR, goK_mark, dgoK_mark, isEff_mark, isPure_mark, evalOp_mark, markA_slc, markB, ↓reduceIte, Nat.reduceEqDiff, Int.reduceToNat, Int.reducePow, Nat.reduceAdd, Nat.reduceLeDiff, Nat.reduceMul, Nat.reduceBEq, reduceCtorEq, hi, a1, hp, hl2, at_low, hg2, hl'.len]
          exact whole_loop K H0 Q hl hsum hn hE hR m (j + 1) _ _ 13 (by omega) hov hk3 (by rw [hf0]; exact hw) (fun _ => rfl) (fun hh => by omega)
        · have hjn : j + 1 = fs.length := by omega
          rw [List.drop_eq_nil_of_le (by omega)] at hw
          have hw0 : wrongOf f0.h 0 fs = 0 := hw
          rw [hw0, if_neg (by decide)] at hdef
          have hne : fs ≠ [] := fun e => by rw [e] at hj; simp at hj
          have hall : (fs.take (j + 1)).flatMap Fr.b = fs.flatMap Fr.b := by rw [List.take_of_length_le (by omega)]
          by_cases hce : f.h.c = (fs.length : Int)
          · rw [if_neg (by simp only [not_or]; exact ⟨hne, by omega⟩), if_neg (by omega)] at hdef
            simp (disch := first | omega | (simp only [List.length_append, List.length_cons, List.length_nil, List.length_set, List.length_map, List.length_take, List.length_drop]; omega)) only [stdh, goK_s2b, dgoK_s2b, isEff_s2b, isPure_s2b, goK_b2s, dgoK_b2s, isEff_b2s, isPure_b2s, evalOp_s2b, s2bR, goK_mark, dgoK_mark, isEff_mark, isPure_mark, evalOp_mark, markA_slc, markB, ↓reduceIte, Nat.reduceEqDiff, Int.reduceToNat, Int.reducePow, Nat.reduceAdd, Nat.reduceLeDiff, Nat.reduceMul, Nat.reduceBEq, reduceCtorEq, hi, a1, hp, hl2, at_low, hg2, hl'.len]
            rw [hall] at hov
            exact hR _ _ hov hk3 hdef
          · by_cases hcl : f.h.c < (fs.length : Int)
            · rw [if_neg (by simp only [not_or]; exact ⟨hne, by omega⟩), if_pos (by omega)] at hdef
              simp (disch := first | omega | (simp only [List.length_append, List.length_cons, List.length_nil, List.length_set, List.length_map, List.length_take, List.length_drop]; omega)) only [stdh, goK_s2b, dgoK_s2b, isEff_s2b, isPure_s2b, goK_b2s, dgoK_b2s, isEff_b2s, isPure_b2s, evalOp_s2b, s2bR, goK_mark, dgoK_mark, isEff_mark, isPure_mark, evalOp_mark, markA_slc, markB, ↓reduceIte, Nat.reduceEqDiff, Int.reduceToNat, Int.reducePow, Nat.reduceAdd, Nat.reduceLeDiff, Nat.reduceMul, Nat.reduceBEq, reduceCtorEq, hi, a1, hp, hl2, at_low, hg2, hl'.len]
              exact whole_loop K H0 Q hl hsum hn hE hR m (j + 1) _ _ 6 (by omega) hov hk3 (by rw [hf0, List.drop_eq_nil_of_le (by omega)]; exact hw) (fun hh => by omega) (fun _ => hdef)
            · rw [if_pos (.inr (by omega))] at hdef
              simp (disch := first | omega | (simp only [List.length_append, List.length_cons, List.length_nil, List.length_set, List.length_map, List.length_take, List.length_drop]; omega)) only [stdh, goK_s2b, dgoK_s2b, isEff_s2b, isPure_s2b, goK_b2s, dgoK_b2s, isEff_b2s, isPure_b2s, evalOp_s2b, s2bR, goK_mark, dgoK_mark, isEff_mark, isPure_mark, evalOp_mark, markA_slc, markB, ↓reduceIte, Nat.reduceEqDiff, Int.reduceToNat, Int.reducePow, Nat.reduceAdd, Nat.reduceLeDiff, Nat.reduceMul, Nat.reduceBEq, reduceCtorEq, hi, a1, hp, hl2, at_low, hg2, hl'.len]
              exact whole_loop K H0 Q hl hsum hn hE hR m (j + 1) _ _ 13 (by omega) hov hk3 (by rw [hf0, List.drop_eq_nil_of_le (by omega)]; exact hw) (fun hh => by omega) (fun _ => hdef)
      · rw [if_pos hi] at hw
        rw [hw, if_pos (by decide)] at hdef
        simp (disch := first | omega | (simp only [List.length_append, List.length_cons, List.length_nil, List.length_set, List.length_map, List.length_take, List.length_drop]; omega)) only [stdh, goK_s2b, dgoK_s2b, isEff_s2b, isPure_s2b, goK_b2s, dgoK_b2s, isEff_b2s, isPure_b2s, evalOp_s2b, s2bR, goK_mark, dgoK_mark, isEff_mark, isPure_mark, evalOp_mark, markA_slc, markB, ↓reduceIte, Nat.reduceEqDiff, Int.reduceToNat, Int.reducePow, Nat.reduceAdd, Nat.reduceLeDiff, Nat.reduceMul, Nat.reduceBEq, reduceCtorEq, hi]
        exact hE _ _ 3 (hk.push _) hdef rfl

theorem whole_ok (H : AHeap) {l : AVal} {fs : List Fr} (hl : Frs H l fs) (hsum : (fs.flatMap Fr.b).length ≤ 1000000) (hn : fs.length ≤ 1000000) (Q : AVal → AHeap → Prop) (h : Q (.tup [nums .u8 false (wholeOf fs).1, .int .i64 ((wholeOf fs).2 : Nat)]) H) :
    FunOK Try.prog F.cut_Whole [l] H Q := by
  refine fun_iced cut_Whole_code fun _ => ?_
  refine fun_V 100 cut_Whole_code rfl ?_
  simp (disch := first | omega | (simp only [List.length_append, List.length_cons, List.length_nil, List.length_set, List.length_map, List.length_take, List.length_drop]; omega)) only [stdh, goK_s2b, dgoK_s2b, isEff_s2b, isPure_s2b, goK_b2s, dgoK_b2s, isEff_b2s, isPure_b2s, evalOp_s2b, s2bR, goK_mark, dgoK_mark, isEff_mark, isPure_mark, evalOp_mark, markA_slc, markB, ↓reduceIte, Nat.reduceEqDiff, Int.reduceToNat, Int.reducePow, Nat.reduceAdd, Nat.reduceLeDiff, Nat.reduceMul, Nat.reduceBEq, reduceCtorEq, cut_Whole, cut_Whole.body, hl.len]
  refine whole_loop _ H _ hl hsum hn ?_ ?_ fs.length 0 H .nils 13 (by omega) Own.nil (Keeps.refl _) rfl (fun _ => rfl) ?_
  · intro r' H' e hk hw hr
    rw [hw] at h
    refine run_V0 60 ?_
    simp (disch := first | omega | (simp only [List.length_append, List.length_cons, List.length_nil, List.length_set, List.length_map, List.length_take, List.length_drop]; omega)) only [stdh, goK_s2b, dgoK_s2b, isEff_s2b, isPure_s2b, goK_b2s, dgoK_b2s, isEff_b2s, isPure_b2s, evalOp_s2b, s2bR, goK_mark, dgoK_mark, isEff_mark, isPure_mark, evalOp_mark, markA_slc, markB, ↓reduceIte, Nat.reduceEqDiff, Int.reduceToNat, Int.reducePow, Nat.reduceAdd, Nat.reduceLeDiff, Nat.reduceMul, Nat.reduceBEq, reduceCtorEq, hr]
    exact ice_tup [(.nils, .imm [] 0 false), (.int .i64 e, .int .i64 e)] hk (by
      intro p hp
      simp only [List.mem_cons, List.not_mem_nil, or_false] at hp
      rcases hp with rfl | rfl
      · exact Fin.own (w := 1) (el := 0) Own.nil trivial
      · exact Fin.same trivial) h
  · intro a H' ho hk hw
    rw [hw] at h
    exact ice_tup [(a, nums .u8 false (fs.flatMap Fr.b)), (.int .i64 0, .int .i64 0)] hk (by
      intro p hp
      simp only [List.mem_cons, List.not_mem_nil, or_false] at hp
      rcases hp with rfl | rfl
      · exact Fin.own ho (closeds_ints _ _)
      · exact Fin.same trivial) h
  · intro h0
    have : fs = [] := List.length_eq_zero_iff.1 h0.symm
    subst this
    rfl

abbrev rwholeC : Ctx := ⟨F.cuneiformref12_Whole, 60, [.tmp 2, .tmp 3], none⟩

theorem rwhole_loop (K : List AItem) (H0 : AHeap) (Q : AVal → AHeap → Prop) {l : AVal} {fs : List Fr} (hl : Frs H0 l fs) (hsum : (fs.flatMap Fr.b).length ≤ 1000000) (hn : fs.length ≤ 1000000)
    (hE : ∀ H' (e : Nat), Keeps H0 H' → wrongOf (fs.getD 0 default).h 0 fs = e → e ≠ 0 → Q (.tup [.nils, .int .i64 (e : Nat)]) H')
    (hK : ∀ r' a H', Own 1 T.uint8 H0.length H' a (fs.flatMap Fr.b).length (u8s (fs.flatMap Fr.b)) → Keeps H0 H' → wrongOf (fs.getD 0 default).h 0 fs = 0 → rget r' 0 = l → rget r' 4 = a → Run Try.prog rwholeC K r' H' Q) :
    ∀ (m j : Nat) (H : AHeap) (a : AVal), j + m = fs.length → Own 1 T.uint8 H0.length H a ((fs.take j).flatMap Fr.b).length (u8s ((fs.take j).flatMap Fr.b)) → Keeps H0 H →
    wrongOf (fs.getD 0 default).h 0 fs = wrongOf (fs.getD 0 default).h j (fs.drop j) →
    Rounds Try.prog rwholeC cuneiformref12_Whole.b1 [.inBlock 0] K [(0, l), (4, a), (5, .int .i64 (j : Nat))] H Q
  | 0, j, H, a, h1, hm, hk, hw => by
    refine loop_V 100 cuneiformref12_Whole.b1.eq_1 ?_
    have hl' := hl.keep hk
    rw [List.drop_eq_nil_of_le (by omega)] at hw
    rw [List.take_of_length_le (by omega)] at hm
    simp (disch := first | omega | (simp only [List.length_append, List.length_cons, List.length_nil, List.length_set, List.length_map, List.length_take, List.length_drop]; omega)) only [stdh, goK_s2b, dgoK_s2b, isEff_s2b, isPure_s2b, goK_b2s, dgoK_b2s, isEff_b2s, isPure_b2s, evalOp_s2b, s2bR, goK_mark, dgoK_mark, isEff_mark, isPure_mark, evalOp_mark, markA_slc, markB, ↓reduceIte, Nat.reduceEqDiff, Int.reduceToNat, Int.reducePow, Nat.reduceAdd, Nat.reduceLeDiff, Nat.reduceMul, Nat.reduceBEq, reduceCtorEq, hl'.len]
    exact hK _ a H hm hk hw rfl rfl
  | m + 1, j, H, a, h1, hm, hk, hw => by
    refine loop_V 100 cuneiformref12_Whole.b1.eq_1 ?_
    have hj : j < fs.length := by omega
    have hl' := hl.keep hk
    have hld : loadA H (some 5) (.sptr l (j * 6)) = some (True, .agg (encHd (fs.getD j default).h)) := hl'.loadN (o := 0) (n := 5) hj (by omega)
    have hl0 : loadA H (some 5) (.sptr l 0) = some (True, .agg (encHd (fs.getD 0 default).h)) := hl'.loadN (j := 0) (o := 0) (n := 5) (by omega) (by omega)
    have hli : loadA H none (.sptr l (j * 6 + 3)) = some (True, .int .i64 (fs.getD j default).h.i) := hl'.load1 (o := 3) hj (by omega)
    have hlb : loadA H none (.sptr l (j * 6 + 5)) = some (True, nums .u8 false (fs.getD j default).b) := hl'.load1 (o := 5) hj (by omega)
    rw [wrongOf_drop hj] at hw
    have hfl := flat_le hj
    have hft := flat_take hj
    generalize hf0 : fs.getD 0 default = f0 at *
    generalize hfj : fs.getD j default = f at *
    simp (disch := first | omega | (simp only [List.length_append, List.length_cons, List.length_nil, List.length_set, List.length_map, List.length_take, List.length_drop]; omega)) only [stdh, goK_s2b, dgoK_s2b, isEff_s2b, isPure_s2b, goK_b2s, dgoK_b2s, isEff_b2s, isPure_b2s, evalOp_s2b, s2bR, goK_mark, dgoK_mark, isEff_mark, isPure_mark, evalOp_mark, markA_slc, markB, ↓reduceIte, Nat.reduceEqDiff, Int.reduceToNat, Int.reducePow, Nat.reduceAdd, Nat.reduceLeDiff, Nat.reduceMul, Nat.reduceBEq, reduceCtorEq, hl'.len, hl'.isSome, hld, hl0, cuneiformref12_Whole.d0, Nat.add_zero]
    refine callD_fn (rmates_ok _ f.h f0.h _ ?_)
    refine ⟨by simp (disch := first | omega | (simp only [List.length_append, List.length_cons, List.length_nil, List.length_set, List.length_map, List.length_take, List.length_drop]; omega)) only [stdh, goK_s2b, dgoK_s2b, isEff_s2b, isPure_s2b, goK_b2s, dgoK_b2s, isEff_b2s, isPure_b2s, evalOp_s2b, s2bR, goK_mark, dgoK_mark, isEff_mark, isPure_mark, evalOp_mark, markA_slc, markB, ↓reduceIte, Nat.reduceEqDiff, Int.reduceToNat, Int.reducePow, Nat.reduceAdd, Nat.reduceLeDiff, Nat.reduceMul, Nat.reduceBEq, reduceCtorEq], ?_⟩
    refine runD_V 60 ?_
    cases hmt : mates f.h f0.h with
    | false =>
      rw [hmt, if_pos rfl] at hw
      simp (disch := first | omega | (simp only [List.length_append, List.length_cons, List.length_nil, List.length_set, List.length_map, List.length_take, List.length_drop]; omega)) only [stdh, goK_s2b, dgoK_s2b, isEff_s2b, isPure_s2b, goK_b2s, dgoK_b2s, isEff_b2s, isPure_b2s, evalOp_s2b, s2bR, goK_mark, dgoK_mark, isEff_mark, isPure_mark, evalOp_mark, markA_slc, markB, ↓reduceIte, Nat.reduceEqDiff, Int.reduceToNat, Int.reducePow, Nat.reduceAdd, Nat.reduceLeDiff, Nat.reduceMul, Nat.reduceBEq, reduceCtorEq]
      exact hE _ 17 hk hw (by decide)
    | true =>
      rw [hmt, if_neg (by decide)] at hw
      by_cases hi : f.h.i = (j : Int)
      · rw [if_neg (by simp [hi])] at hw
        obtain ⟨p, a1, hp⟩ := Own.append3 hm (x := nums .u8 false f.b) (k := f.b.length) (ys := u8s f.b) 1 rfl rfl (by simp [u8s]) (by omega) (by omega) (by omega) (u8s_cellish _)
        have hk2 : Keeps H0 (killA H a) := by
          refine ⟨by have := hk.le; rw [killA_len]; omega, fun n hn => ?_⟩
          rw [killA_get (fun hmem => by have := (hm.lt _ hmem).1; omega)]
          exact hk.at_ n hn
        have hl2 := killA_len H a
        generalize killA H a = H2 at *
        have hov : Own 1 T.uint8 H0.length (H2 ++ [.vec (u8s ((fs.take j).flatMap Fr.b) ++ u8s f.b) T.uint8 1]) (.slc H.length 0 (((fs.take j).flatMap Fr.b).length + f.b.length) 1) ((fs.take (j + 1)).flatMap Fr.b).length (u8s ((fs.take (j + 1)).flatMap Fr.b)) := by
          refine ⟨by simp [u8s], .inr ⟨H.length, by have := hk.le; omega, by rw [hft, List.length_append], ?_⟩⟩
          rw [hft, u8s_append, ← hl2, at_0]; rfl
        simp (disch := first | omega | (simp only [List.length_append, List.length_cons, List.length_nil, List.length_set, List.length_map, List.length_take, List.length_drop]; omega)) only [stdh, goK_s2b, dgoK_s2b, isEff_s2b, isPure_s2b, goK_b2s, dgoK_b2s, isEff_b2s, isPure_b2s, evalOp_s2b, s2bR, goK_mark, dgoK_mark, isEff_mark, isPure_mark, evalOp_mark, markA_slc, markB, ↓reduceIte, Nat.reduceEqDiff, Int.reduceToNat, Int.reducePow, Nat.reduceAdd, Nat.reduceLeDiff, Nat.reduceMul, Nat.reduceBEq, reduceCtorEq, hl'.len, hl'.isSome, hli, hlb, hi, a1, hp]
        exact rwhole_loop K H0 Q hl hsum hn (by rw [hf0]; exact hE) (by rw [hf0]; exact hK) m (j + 1) _ _ (by omega) hov (hk2.push _) (by rw [hf0]; exact hw)
      · rw [if_pos hi] at hw
        simp (disch := first | omega | (simp only [List.length_append, List.length_cons, List.length_nil, List.length_set, List.length_map, List.length_take, List.length_drop]; omega)) only [stdh, goK_s2b, dgoK_s2b, isEff_s2b, isPure_s2b, goK_b2s, dgoK_b2s, isEff_b2s, isPure_b2s, evalOp_s2b, s2bR, goK_mark, dgoK_mark, isEff_mark, isPure_mark, evalOp_mark, markA_slc, markB, ↓reduceIte, Nat.reduceEqDiff, Int.reduceToNat, Int.reducePow, Nat.reduceAdd, Nat.reduceLeDiff, Nat.reduceMul, Nat.reduceBEq, reduceCtorEq, hl'.len, hl'.isSome, hli, hi]
        exact hE _ 3 hk hw (by decide)

theorem rwhole_ok (H : AHeap) {l : AVal} {fs : List Fr} (hl : Frs H l fs) (hsum : (fs.flatMap Fr.b).length ≤ 1000000) (hn : fs.length ≤ 1000000) (Q : AVal → AHeap → Prop) (h : Q (.tup [nums .u8 false (wholeOf fs).1, .int .i64 ((wholeOf fs).2 : Nat)]) H) :
    FunOK Try.prog F.cuneiformref12_Whole [l] H Q := by
  refine fun_iced cuneiformref12_Whole_code fun _ => ?_
  refine fun_V 100 cuneiformref12_Whole_code rfl ?_
  have hnil : ∀ (H' : AHeap) (e : Nat), Keeps H H' → wholeOf fs = ([], e) → IceQ H Q (.tup [.nils, .int .i64 (e : Nat)]) H' := fun H' e hk hw => by
    rw [hw] at h
    exact ice_tup [(.nils, .imm [] 0 false), (.int .i64 e, .int .i64 e)] hk (by
      intro p hp
      simp only [List.mem_cons, List.not_mem_nil, or_false] at hp
      rcases hp with rfl | rfl
      · exact Fin.own (w := 1) (el := 0) Own.nil trivial
      · exact Fin.same trivial) h
  simp (disch := first | omega | (simp only [List.length_append, List.length_cons, List.length_nil, List.length_set, List.length_map, List.length_take, List.length_drop]; omega)) only [stdh, goK_s2b, dgoK_s2b, isEff_s2b, isPure_s2b, goK_b2s, dgoK_b2s, isEff_b2s, isPure_b2s, evalOp_s2b, s2bR, goK_mark, dgoK_mark, isEff_mark, isPure_mark, evalOp_mark, markA_slc, markB, ↓reduceIte, Nat.reduceEqDiff, Int.reduceToNat, Int.reducePow, Nat.reduceAdd, Nat.reduceLeDiff, Nat.reduceMul, Nat.reduceBEq, reduceCtorEq, cuneiformref12_Whole, cuneiformref12_Whole.body]
  refine rwhole_loop _ H _ hl hsum hn ?_ ?_ fs.length 0 H .nils (by omega) Own.nil (Keeps.refl _) rfl
  · intro H' e hk hw he
    exact hnil H' e hk (by unfold wholeOf; rw [hw, if_pos he])
  · intro r' a H' ho hk hw r0 r4
    have hl' := hl.keep hk
    have hlc : 0 < fs.length → loadA H' none (.sptr l 4) = some (True, .int .i64 (fs.getD 0 default).h.c) := fun hh => hl'.load1 (j := 0) (o := 4) hh (by omega)
    have hwd : wholeOf fs = (if fs = [] ∨ (fs.length : Int) < (fs.getD 0 default).h.c then ([], 13)
      else if (fs.getD 0 default).h.c < (fs.length : Int) then ([], 6) else (fs.flatMap Fr.b, 0)) := by
      unfold wholeOf; rw [hw, if_neg (by decide)]
    generalize fs.getD 0 default = f0 at *
    refine run_V0 100 ?_
    by_cases h0 : fs.length = 0
    · have hf : fs = [] := List.length_eq_zero_iff.1 h0
      rw [if_pos (.inl hf)] at hwd
      simp (disch := first | omega | (simp only [List.length_append, List.length_cons, List.length_nil, List.length_set, List.length_map, List.length_take, List.length_drop]; omega)) only [stdh, goK_s2b, dgoK_s2b, isEff_s2b, isPure_s2b, goK_b2s, dgoK_b2s, isEff_b2s, isPure_b2s, evalOp_s2b, s2bR, goK_mark, dgoK_mark, isEff_mark, isPure_mark, evalOp_mark, markA_slc, markB, ↓reduceIte, Nat.reduceEqDiff, Int.reduceToNat, Int.reducePow, Nat.reduceAdd, Nat.reduceLeDiff, Nat.reduceMul, Nat.reduceBEq, reduceCtorEq, r0, r4, hl'.len, h0]
      exact hnil _ 13 hk hwd
    · have hf : fs ≠ [] := fun e => h0 (by rw [e]; rfl)
      have hlc := hlc (by omega)
      have his := hl'.isSome
      by_cases hlt : (fs.length : Int) < f0.h.c
      · rw [if_pos (.inr hlt)] at hwd
        simp (disch := first | omega | (simp only [List.length_append, List.length_cons, List.length_nil, List.length_set, List.length_map, List.length_take, List.length_drop]; omega)) only [stdh, goK_s2b, dgoK_s2b, isEff_s2b, isPure_s2b, goK_b2s, dgoK_b2s, isEff_b2s, isPure_b2s, evalOp_s2b, s2bR, goK_mark, dgoK_mark, isEff_mark, isPure_mark, evalOp_mark, markA_slc, markB, ↓reduceIte, Nat.reduceEqDiff, Int.reduceToNat, Int.reducePow, Nat.reduceAdd, Nat.reduceLeDiff, Nat.reduceMul, Nat.reduceBEq, reduceCtorEq, r0, r4, hl'.len, his, hlc]
        exact hnil _ 13 hk hwd
      · rw [if_neg (by simp only [not_or]; exact ⟨hf, hlt⟩)] at hwd
        by_cases hgt : f0.h.c < (fs.length : Int)
        · rw [if_pos hgt] at hwd
          simp (disch := first | omega | (simp only [List.length_append, List.length_cons, List.length_nil, List.length_set, List.length_map, List.length_take, List.length_drop]; omega)) only [stdh, goK_s2b, dgoK_s2b, isEff_s2b, isPure_s2b, goK_b2s, dgoK_b2s, isEff_b2s, isPure_b2s, evalOp_s2b, s2bR, goK_mark, dgoK_mark, isEff_mark, isPure_mark, evalOp_mark, markA_slc, markB, ↓reduceIte, Nat.reduceEqDiff, Int.reduceToNat, Int.reducePow, Nat.reduceAdd, Nat.reduceLeDiff, Nat.reduceMul, Nat.reduceBEq, reduceCtorEq, r0, r4, hl'.len, his, hlc]
          exact hnil _ 6 hk hwd
        · rw [if_neg hgt] at hwd
          rw [hwd] at h
          simp (disch := first | omega | (simp only [List.length_append, List.length_cons, List.length_nil, List.length_set, List.length_map, List.length_take, List.length_drop]; omega)) only [stdh, goK_s2b, dgoK_s2b, isEff_s2b, isPure_s2b, goK_b2s, dgoK_b2s, isEff_b2s, isPure_b2s, evalOp_s2b, s2bR, goK_mark, dgoK_mark, isEff_mark, isPure_mark, evalOp_mark, markA_slc, markB, ↓reduceIte, Nat.reduceEqDiff, Int.reduceToNat, Int.reducePow, Nat.reduceAdd, Nat.reduceLeDiff, Nat.reduceMul, Nat.reduceBEq, reduceCtorEq, r0, r4, hl'.len, his, hlc]
          exact ice_tup [(a, nums .u8 false (fs.flatMap Fr.b)), (.int .i64 0, .int .i64 0)] hk (by
            intro p hp
            simp only [List.mem_cons, List.not_mem_nil, or_false] at hp
            rcases hp with rfl | rfl
            · exact Fin.own ho (closeds_ints _ _)
            · exact Fin.same trivial) h
end Go.Proofs.Ytncipoapdpenfaa

namespace Go.Proofs.Ytncipoapdpenfaa
open Go Go.Am
theorem known12_ok (H : AHeap) (Q : AVal → AHeap → Prop) (h : Q (.bool true) H) : FunOK Try.prog F.cuneiformlaw12_known [] H Q :=
  fun_reck codes_ok 3000 (.bool true) (by kernel_rfl) rfl rfl _ _ h
end Go.Proofs.Ytncipoapdpenfaa

namespace Go.Am
open Go

def shHead : Sh := .struct [.int .i64, .int .i64, .int .u32, .int .i64, .int .i64]
def shFrame : Sh := .struct [shHead, .slice (.int .u8)]

/-- A frame that is handed in. -/
theorem frame_fits {a : AVal} (h : FitsA shFrame a) : ∃ (v k s i c : Int) (bs : List Nat), Sees a (.agg [.int .i64 v, .int .i64 k, .int .u32 s, .int .i64 i, .int .i64 c, nums .u8 false bs]) ∧
    (Lit.int .i64 v).wf = true ∧ (Lit.int .i64 k).wf = true ∧ (Lit.int .u32 s).wf = true ∧ (Lit.int .i64 i).wf = true ∧ (Lit.int .i64 c).wf = true ∧ (∀ b ∈ bs, (Lit.int .u8 (b : Int)).wf = true) ∧ bs.length ≤ 9223372036854775807 := by
  obtain ⟨l, rfl, h⟩ := h
  obtain ⟨l1, l2, rfl, h1, h2⟩ := h
  obtain ⟨l3, l4, rfl, h3, h4⟩ := h2
  have h4' : l4 = [] := h4
  subst h4'
  obtain ⟨_, _, rfl, ⟨v, rfl, b1⟩, h1⟩ := h1
  obtain ⟨_, _, rfl, ⟨k, rfl, b2⟩, h1⟩ := h1
  obtain ⟨_, _, rfl, ⟨s, rfl, b3⟩, h1⟩ := h1
  obtain ⟨_, _, rfl, ⟨i, rfl, b4⟩, h1⟩ := h1
  obtain ⟨_, _, rfl, ⟨c, rfl, b5⟩, h1⟩ := h1
  have h1' : _ = ([] : List AVal) := h1
  subst h1'
  have h5 : ∃ x, l3 = [x] := by
    rcases h3 with rfl | ⟨gs, t, _, rfl, _⟩
    · exact ⟨_, rfl⟩
    · exact ⟨_, rfl⟩
  obtain ⟨x, rfl⟩ := h5
  obtain ⟨bs, q1, q2, q3⟩ := nums_fits (k := .u8) rfl (show FitsA (.slice (.int .u8)) x from h3)
  exact ⟨v, k, s, i, c, bs, Sees.agg (SeesL.cons (Sees.refl _) (SeesL.cons (Sees.refl _) (SeesL.cons (Sees.refl _) (SeesL.cons (Sees.refl _) (SeesL.cons (Sees.refl _) (SeesL.cons q1 SeesL.nil)))))), b1, b2, b3, b4, b5, q2, q3⟩
end Go.Am
