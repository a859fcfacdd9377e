/-
  Lemmas on the way to the statements of this seat. By an AI agent. No person has read it.
-/
import Derived.Test.YtamcfgdnhgmkpaaCode
import Derived.Test.YtamcfgdnhgmkpaaAm6
set_option linter.unusedSimpArgs false
set_option linter.unusedVariables false

namespace Go.Proofs.Ytamcfgdnhgmkpaa
open Go Go.Am
set_option linter.unusedSimpArgs false
set_option linter.unusedVariables false

def sizeOf (n : Nat) : Nat := if h : n < 128 then 1 else 1 + sizeOf (n / 128)
  termination_by n

theorem sizeOf_lt {n : Nat} (h : n < 128) : sizeOf n = 1 := by rw [sizeOf, dif_pos h]
theorem sizeOf_ge {n : Nat} (h : ¬ n < 128) : sizeOf n = 1 + sizeOf (n / 128) := by rw [sizeOf, dif_neg h]

theorem sizeOf_le : ∀ (k n : Nat), n < 128 ^ (k + 1) → sizeOf n ≤ k + 1
  | 0, n, h => by rw [sizeOf_lt (by simpa using h)]; omega
  | k + 1, n, h => by
    by_cases hn : n < 128
    · rw [sizeOf_lt hn]; omega
    · rw [sizeOf_ge hn]
      have := sizeOf_le k (n / 128) (by rw [Nat.pow_succ] at h; exact Nat.div_lt_of_lt_mul (by rw [Nat.mul_comm]; exact h))
      omega
theorem sizeOf_le10 {n : Nat} (h : n < 18446744073709551616) : sizeOf n ≤ 10 := sizeOf_le 9 n (by omega)
theorem sizeOf_pos (n : Nat) : 1 ≤ sizeOf n := by
  by_cases hn : n < 128
  · rw [sizeOf_lt hn]; omega
  · rw [sizeOf_ge hn]; omega
set_option linter.unusedSimpArgs false
set_option linter.unusedVariables false

abbrev sameC : Ctx := ⟨F.cuneiformref01_Same, 26, [.tmp 4], none⟩

theorem same_loop (T : List AItem) (H : AHeap) (Q : AVal → AHeap → Prop) {a b : AVal} {xs ys : List Nat} (ha : Nats .u8 H a xs) (hb : Nats .u8 H b ys) (hl : xs.length = ys.length) (hm : xs.length < 9223372036854775808) :
    ∀ (m i : Nat), xs.length - i = m → i ≤ xs.length → (xs.drop i = ys.drop i → ∀ r', Run Try.prog sameC T r' H Q) → (xs.drop i ≠ ys.drop i → Q (.bool false) H) →
    Rounds Try.prog sameC cuneiformref01_Same.b1 [.inBlock 0] T [(0, a), (1, b), (5, .int .i64 i)] H Q
  | m, i, h1, h2, h3, h4 => by
    refine loop_V 200 cuneiformref01_Same.b1.eq_1 ?_
    by_cases hi : i < xs.length
    · have hxi : xs.drop i = xs.getD i 0 :: xs.drop (i + 1) := by
        rw [List.drop_eq_getElem_cons hi]; simp [hi]
      have hyi : ys.drop i = ys.getD i 0 :: ys.drop (i + 1) := by
        rw [List.drop_eq_getElem_cons (by omega : i < ys.length)]; simp [show i < ys.length by omega]
      by_cases he : xs.getD i 0 = ys.getD i 0
      · have he' : ((xs.getD i 0 : Nat) : Int) = ((ys.getD i 0 : Nat) : Int) := by rw [he]
        simp (disch := omega) only [std, stdx, ↓reduceIte, seval, ha.len, hb.len, ha.isSome, hb.isSome, cuneiformref01_Same.d0, ha.load, hb.load, he']
        refine same_loop T H Q ha hb hl hm (xs.length - (i + 1)) (i + 1) rfl (by omega) (fun h => h3 (by rw [hxi, hyi, he, h])) (fun h => h4 (by rw [hxi, hyi, he]; simpa using h))
      · have he' : ((xs.getD i 0 : Nat) : Int) ≠ ((ys.getD i 0 : Nat) : Int) := by omega
        simp (disch := omega) only [std, stdx, ↓reduceIte, seval, ha.len, hb.len, ha.isSome, hb.isSome, cuneiformref01_Same.d0, ha.load, hb.load, he']
        exact h4 (by rw [hxi, hyi]; intro h; exact he (List.cons.inj h).1)
    · simp (disch := omega) only [std, stdx, ↓reduceIte, seval, ha.len, hb.len]
      exact h3 (by rw [List.drop_eq_nil_of_le (by omega), List.drop_eq_nil_of_le (by omega)]) _
  termination_by m => m

theorem same_ok (H : AHeap) {a b : AVal} {xs ys : List Nat} (ha : Nats .u8 H a xs) (hb : Nats .u8 H b ys) (hm : xs.length < 9223372036854775808) (Q : AVal → AHeap → Prop) (h : Q (.bool (decide (xs = ys))) H) : FunOK Try.prog F.cuneiformref01_Same [a, b] H Q := by
  refine fun_V 100 cuneiformref01_Same_code rfl ?_
  by_cases hl : xs.length = ys.length
  · simp (disch := omega) only [std, stdx, ↓reduceIte, seval, cuneiformref01_Same, cuneiformref01_Same.body, ha.len, hb.len, hl]
    refine same_loop _ H Q ha hb hl hm _ 0 rfl (by omega) ?_ ?_
    · intro he r'
      refine run_V 100 ?_
      simp (disch := omega) only [std, stdx, ↓reduceIte, seval]
      simpa [show xs = ys by simpa using he] using h
    · intro he
      simpa [show xs ≠ ys by simpa using he] using h
  · simp (disch := omega) only [std, stdx, ↓reduceIte, seval, cuneiformref01_Same, cuneiformref01_Same.body, ha.len, hb.len]
    simpa [show xs ≠ ys by intro he; exact hl (by rw [he])] using h
set_option linter.unusedSimpArgs false
set_option linter.unusedVariables false

/-- A head. -/
structure Hd where
  v : Int
  k : Int
  s : Int
  i : Int
  c : Int

def encHd (h : Hd) : List AVal := [.int .i64 h.v, .int .i64 h.k, .int .u32 h.s, .int .i64 h.i, .int .i64 h.c]

/-- A frame. -/
structure Fr where
  h : Hd
  b : List Nat

def encFr (f : Fr) : List AVal := [.int .i64 f.h.v, .int .i64 f.h.k, .int .u32 f.h.s, .int .i64 f.h.i, .int .i64 f.h.c, nums .u8 false f.b]
theorem encFr_len (f : Fr) : (encFr f).length = 6 := rfl

instance : Inhabited Hd := ⟨⟨0, 0, 0, 0, 0⟩⟩
instance : Inhabited Fr := ⟨⟨default, []⟩⟩

def mates (a b : Hd) : Bool := decide (a.v = b.v) && (decide (a.k = b.k) && (decide (a.s = b.s) && decide (a.c = b.c)))

theorem mates_ok (H : AHeap) (a b : Hd) (Q : AVal → AHeap → Prop) (h : Q (.bool (mates a b)) H) : FunOK Try.prog F.head_Mates [.agg (encHd a), .agg (encHd b)] H Q := by
  refine fun_iced head_Mates_code fun _ => ?_
  refine fun_V 100 head_Mates_code rfl ?_
  simp (disch := first | omega | (simp only [lnx]; omega)) only [stdh, stdx, ↓reduceIte, seval, head_Mates, head_Mates.body, encHd, eqA, eqCells, eqCell]
  refine ice_none trivial ?_
  have : (decide (a.v = b.v) && (decide (a.k = b.k) && (decide (a.s = b.s) && (decide (b.i = b.i) && (decide (a.c = b.c) && true))))) = mates a b := by simp [mates]
  first | exact h | (rw [← this] at h; exact h) | (simpa [mates] using h)

theorem rmates_ok (H : AHeap) (a b : Hd) (Q : AVal → AHeap → Prop) (h : Q (.bool (mates a b)) H) : FunOK Try.prog F.cuneiformref12_Mates [.agg (encHd a), .agg (encHd b)] H Q := by
  refine fun_iced cuneiformref12_Mates_code fun _ => ?_
  refine fun_V 100 cuneiformref12_Mates_code rfl ?_
  unfold mates at h
  by_cases h1 : a.v = b.v
  · by_cases h2 : a.k = b.k
    · by_cases h3 : a.s = b.s
      · simp (disch := first | omega | (simp only [lnx]; omega)) only [stdh, stdx, ↓reduceIte, seval, cuneiformref12_Mates, cuneiformref12_Mates.body, encHd, h1, h2, h3]
        exact ice_none trivial (by simpa [h1, h2, h3] using h)
      · simp (disch := first | omega | (simp only [lnx]; omega)) only [stdh, stdx, ↓reduceIte, seval, cuneiformref12_Mates, cuneiformref12_Mates.body, encHd, h1, h2, h3]
        exact ice_none trivial (by simpa [h1, h2, h3] using h)
    · simp (disch := first | omega | (simp only [lnx]; omega)) only [stdh, stdx, ↓reduceIte, seval, cuneiformref12_Mates, cuneiformref12_Mates.body, encHd, h1, h2]
      exact ice_none trivial (by simpa [h1, h2] using h)
  · simp (disch := first | omega | (simp only [lnx]; omega)) only [stdh, stdx, ↓reduceIte, seval, cuneiformref12_Mates, cuneiformref12_Mates.body, encHd, h1]
    exact ice_none trivial (by simpa [h1] using h)

theorem of_ok (H : AHeap) (f : Fr) (Q : AVal → AHeap → Prop) (h : Q (.agg (encFr f)) H) : FunOK Try.prog F.cuneiformlaw08_Of [.agg (encFr f)] H Q := by
  refine fun_iced cuneiformlaw08_Of_code fun _ => ?_
  refine fun_V 100 cuneiformlaw08_Of_code rfl ?_
  simp (disch := first | omega | (simp only [lnx]; omega)) only [stdh, stdx, ↓reduceIte, seval, cuneiformlaw08_Of, cuneiformlaw08_Of.body, encFr]
  exact ice_none (by simp [closed, closeds, closed_nums]) h

def cutFr (f : Fr) : Fr := { f with b := f.b.take (min f.b.length 250) }

theorem cut250 (n : Nat) : (if 250 < (n : Int) then 250 else (n : Int)) = ((min n 250 : Nat) : Int) := by split <;> omega

theorem cut_ok (H : AHeap) (f : Fr) (Q : AVal → AHeap → Prop) (h : Q (.agg (encFr (cutFr f))) H) : FunOK Try.prog F.cuneiformlaw08_Cut [.agg (encFr f)] H Q := by
  refine fun_iced cuneiformlaw08_Cut_code fun _ => ?_
  refine fun_V 100 cuneiformlaw08_Cut_code rfl ?_
  simp (disch := first | omega | (simp only [lnx]; omega)) only [stdh, stdx, ↓reduceIte, seval, cuneiformlaw08_Cut, cuneiformlaw08_Cut.body, encFr, cut250]
  exact ice_none (by simp [closed, closeds, closed_nums]) h

/-- Frames in a list. -/
structure Frs (H : AHeap) (l : AVal) (fs : List Fr) : Prop where
  len : slen l = some fs.length
  view : view H l = some (fs.flatMap encFr)

theorem Frs.keep {H H' : AHeap} {l : AVal} {fs : List Fr} (h : Frs H l fs) (hk : Keeps H H') : Frs H' l fs := ⟨h.len, hk.view h.view⟩
theorem Frs.isSome {H : AHeap} {l : AVal} {fs : List Fr} (h : Frs H l fs) : (Am.view H l).isSome = true := by rw [h.view]; rfl
theorem Frs.load1 {H : AHeap} {l : AVal} {fs : List Fr} (h : Frs H l fs) {j o : Nat} (hj : j < fs.length) (ho : o < 6) : loadA H none (.sptr l (j * 6 + o)) = some (True, (encFr (fs.getD j default)).getD o .junk) := by
  have := load_rec1 (H := H) (t := false) (zs := fs) (j := j) (o := o) encFr_len hj ho
  simp only [loadA, cellsAt, view_recs, h.view] at this ⊢
  exact this
theorem Frs.loadN {H : AHeap} {l : AVal} {fs : List Fr} (h : Frs H l fs) {j o n : Nat} (hj : j < fs.length) (ho : o + n ≤ 6) : loadA H (some n) (.sptr l (j * 6 + o)) = some (True, .agg (((encFr (fs.getD j default)).drop o).take n)) := by
  have := load_recN (H := H) (t := false) (zs := fs) (j := j) (o := o) (n := n) encFr_len hj ho
  simp only [loadA, cellsAt, view_recs, h.view] at this ⊢
  exact this
theorem frs_recs {H : AHeap} {t : Bool} {fs : List Fr} : Frs H (recs encFr t fs) fs := ⟨rfl, rfl⟩

/-! ### The body of frames -/

/-- The first thing that is wrong. -/
def wrongOf (h0 : Hd) : Nat → List Fr → Nat
  | _, [] => 0
  | i, f :: fs => if mates f.h h0 = false then 17 else if f.h.i ≠ (i : Int) then 3 else wrongOf h0 (i + 1) fs

def wholeOf (fs : List Fr) : List Nat × Nat :=
  if wrongOf (fs.getD 0 default).h 0 fs ≠ 0 then ([], wrongOf (fs.getD 0 default).h 0 fs)
  else if fs = [] ∨ (fs.length : Int) < (fs.getD 0 default).h.c then ([], 13)
  else if (fs.getD 0 default).h.c < (fs.length : Int) then ([], 6) else (fs.flatMap Fr.b, 0)

theorem wrongOf_drop {h0 : Hd} {fs : List Fr} {j : Nat} (hj : j < fs.length) : wrongOf h0 j (fs.drop j) = if mates (fs.getD j default).h h0 = false then 17 else if (fs.getD j default).h.i ≠ (j : Int) then 3 else wrongOf h0 (j + 1) (fs.drop (j + 1)) := by
  rw [List.drop_eq_getElem_cons hj, wrongOf]
  have : fs.getD j default = fs[j] := by simp [hj]
  rw [this]
set_option linter.unusedSimpArgs false
set_option linter.unusedVariables false

def w8s (xs : List Nat) : List AVal := xs.map fun n : Nat => AVal.int .u8 (n : Int)
theorem w8s_len (xs : List Nat) : (w8s xs).length = xs.length := by simp [w8s]
theorem w8s_append (xs ys : List Nat) : w8s (xs ++ ys) = w8s xs ++ w8s ys := by simp [w8s]
theorem w8s_cellish (xs : List Nat) : (w8s xs).all AVal.cellish = true := by simp [w8s, AVal.cellish]

theorem flat_take {fs : List Fr} {j : Nat} (hj : j < fs.length) : (fs.take (j + 1)).flatMap Fr.b = (fs.take j).flatMap Fr.b ++ (fs.getD j default).b := by
  rw [List.take_succ_eq_append_getElem hj, List.flatMap_append]
  simp [hj]

theorem flat_le {fs : List Fr} {j : Nat} (hj : j < fs.length) : ((fs.take j).flatMap Fr.b).length + (fs.getD j default).b.length ≤ (fs.flatMap Fr.b).length := by
  have h1 := congrArg List.length (flat_take hj)
  rw [List.length_append] at h1
  rw [← h1]
  conv => rhs; rw [← List.take_append_drop (j + 1) fs]
  rw [List.flatMap_append, List.length_append]; omega

set_option linter.unusedSimpArgs false
set_option linter.unusedVariables false

def errs (j : Nat) : Nat := if j = 0 then 10 else if j = 1 then 9 else 3
def bads (h : Hd) (j : Nat) : Bool :=
  if j = 0 then decide (h.v < 1 ∨ 2 < h.v) else if j = 1 then decide (h.k < 1 ∨ 5 < h.k) else decide (h.c < 1 ∨ 255 < h.c ∨ h.i < 0 ∨ h.c ≤ h.i)
def wrongItem (h : Hd) (j : Nat) : List AVal := [.int .i64 (errs j : Nat), .bool (bads h j)]

/-- What is wrong with a head. -/
def checkOf (h : Hd) : Nat := if bads h 0 then 10 else if bads h 1 then 9 else if bads h 2 then 3 else 0

set_option maxHeartbeats 4000000 in
theorem wrong_iter {H : AHeap} {n : Nat} (h : Hd) : Iter Try.prog F.head_wrong_1 [.yld n, cellN (encHd h)] n (wrongItem h) 3 [] H := by
  intro I hI fp hi hown
  refine fun_V 200 head_wrong_1_code rfl ?_
  by_cases h0 : h.v < 1
  · by_cases h1 : h.k < 1
    · skip
      by_cases h2 : h.c < 1
      · skip
        have i0 : wrongItem h 0 = [.int .i64 10, .bool true] := by simp [wrongItem, bads, errs, h0]
        have i1 : wrongItem h 1 = [.int .i64 9, .bool true] := by simp [wrongItem, bads, errs, h1]
        have i2 : wrongItem h 2 = [.int .i64 3, .bool true] := by simp [wrongItem, bads, errs, h2]
        simp (disch := first | omega | (simp only [lnx]; omega)) only [stdh, stdx, ↓reduceIte, seval, head_wrong_1, head_wrong_1.body, cellN, load_imm, encHd]
        have s0 := hI.step 0 fp H (by omega) hi
        rw [i0] at s0
        refine CallV.mono s0 fun av H1 hh => ?_
        obtain ⟨fp1, t1, hh⟩ := hh
        refine runL_V 200 ?_
        rcases hh with ⟨rfl, hi1⟩ | ⟨rfl, hi1⟩
        rotate_left
        · simp (disch := first | omega | (simp only [lnx]; omega)) only [stdh, stdx, ↓reduceIte, seval]
          refine run_fin rfl rfl trivial ?_
          exact ⟨false, 1, fp1, t1.le, t1.kept, (fun e => by cases e), hi1⟩
        simp (disch := first | omega | (simp only [lnx]; omega)) only [stdh, stdx, ↓reduceIte, seval, load_imm]
        have s1 := hI.step 1 fp1 H1 (by omega) hi1
        rw [i1] at s1
        refine CallV.mono s1 fun av H2 hh => ?_
        obtain ⟨fp2, t2, hh⟩ := hh
        replace t2 := t1.trans t2
        refine runL_V 200 ?_
        rcases hh with ⟨rfl, hi2⟩ | ⟨rfl, hi2⟩
        rotate_left
        · simp (disch := first | omega | (simp only [lnx]; omega)) only [stdh, stdx, ↓reduceIte, seval]
          refine run_fin rfl rfl trivial ?_
          exact ⟨false, 2, fp2, t2.le, t2.kept, (fun e => by cases e), hi2⟩
        simp (disch := first | omega | (simp only [lnx]; omega)) only [stdh, stdx, ↓reduceIte, seval, load_imm]
        have s2 := hI.step 2 fp2 H2 (by omega) hi2
        rw [i2] at s2
        refine CallV.mono s2 fun av H3 hh => ?_
        obtain ⟨fp3, t3, hh⟩ := hh
        replace t3 := t2.trans t3
        refine runL_V 200 ?_
        rcases hh with ⟨rfl, hi3⟩ | ⟨rfl, hi3⟩
        rotate_left
        · simp (disch := first | omega | (simp only [lnx]; omega)) only [stdh, stdx, ↓reduceIte, seval]
          refine run_fin rfl rfl trivial ?_
          exact ⟨false, 3, fp3, t3.le, t3.kept, (fun e => by cases e), hi3⟩
        simp (disch := first | omega | (simp only [lnx]; omega)) only [stdh, stdx, ↓reduceIte, seval]
        refine run_fin rfl rfl trivial ?_
        exact ⟨true, 3, fp3, t3.le, t3.kept, fun _ => rfl, hi3⟩
      · by_cases h3 : 255 < h.c
        · skip
          have i0 : wrongItem h 0 = [.int .i64 10, .bool true] := by simp [wrongItem, bads, errs, h0]
          have i1 : wrongItem h 1 = [.int .i64 9, .bool true] := by simp [wrongItem, bads, errs, h1]
          have i2 : wrongItem h 2 = [.int .i64 3, .bool true] := by simp [wrongItem, bads, errs, h2, h3]
          simp (disch := first | omega | (simp only [lnx]; omega)) only [stdh, stdx, ↓reduceIte, seval, head_wrong_1, head_wrong_1.body, cellN, load_imm, encHd]
          have s0 := hI.step 0 fp H (by omega) hi
          rw [i0] at s0
          refine CallV.mono s0 fun av H1 hh => ?_
          obtain ⟨fp1, t1, hh⟩ := hh
          refine runL_V 200 ?_
          rcases hh with ⟨rfl, hi1⟩ | ⟨rfl, hi1⟩
          rotate_left
          · simp (disch := first | omega | (simp only [lnx]; omega)) only [stdh, stdx, ↓reduceIte, seval]
            refine run_fin rfl rfl trivial ?_
            exact ⟨false, 1, fp1, t1.le, t1.kept, (fun e => by cases e), hi1⟩
          simp (disch := first | omega | (simp only [lnx]; omega)) only [stdh, stdx, ↓reduceIte, seval, load_imm]
          have s1 := hI.step 1 fp1 H1 (by omega) hi1
          rw [i1] at s1
          refine CallV.mono s1 fun av H2 hh => ?_
          obtain ⟨fp2, t2, hh⟩ := hh
          replace t2 := t1.trans t2
          refine runL_V 200 ?_
          rcases hh with ⟨rfl, hi2⟩ | ⟨rfl, hi2⟩
          rotate_left
          · simp (disch := first | omega | (simp only [lnx]; omega)) only [stdh, stdx, ↓reduceIte, seval]
            refine run_fin rfl rfl trivial ?_
            exact ⟨false, 2, fp2, t2.le, t2.kept, (fun e => by cases e), hi2⟩
          simp (disch := first | omega | (simp only [lnx]; omega)) only [stdh, stdx, ↓reduceIte, seval, load_imm]
          have s2 := hI.step 2 fp2 H2 (by omega) hi2
          rw [i2] at s2
          refine CallV.mono s2 fun av H3 hh => ?_
          obtain ⟨fp3, t3, hh⟩ := hh
          replace t3 := t2.trans t3
          refine runL_V 200 ?_
          rcases hh with ⟨rfl, hi3⟩ | ⟨rfl, hi3⟩
          rotate_left
          · simp (disch := first | omega | (simp only [lnx]; omega)) only [stdh, stdx, ↓reduceIte, seval]
            refine run_fin rfl rfl trivial ?_
            exact ⟨false, 3, fp3, t3.le, t3.kept, (fun e => by cases e), hi3⟩
          simp (disch := first | omega | (simp only [lnx]; omega)) only [stdh, stdx, ↓reduceIte, seval]
          refine run_fin rfl rfl trivial ?_
          exact ⟨true, 3, fp3, t3.le, t3.kept, fun _ => rfl, hi3⟩
        · by_cases h4 : h.i < 0
          · skip
            have i0 : wrongItem h 0 = [.int .i64 10, .bool true] := by simp [wrongItem, bads, errs, h0]
            have i1 : wrongItem h 1 = [.int .i64 9, .bool true] := by simp [wrongItem, bads, errs, h1]
            have i2 : wrongItem h 2 = [.int .i64 3, .bool true] := by simp [wrongItem, bads, errs, h2, h3, h4]
            simp (disch := first | omega | (simp only [lnx]; omega)) only [stdh, stdx, ↓reduceIte, seval, head_wrong_1, head_wrong_1.body, cellN, load_imm, encHd]
            have s0 := hI.step 0 fp H (by omega) hi
            rw [i0] at s0
            refine CallV.mono s0 fun av H1 hh => ?_
            obtain ⟨fp1, t1, hh⟩ := hh
            refine runL_V 200 ?_
            rcases hh with ⟨rfl, hi1⟩ | ⟨rfl, hi1⟩
            rotate_left
            · simp (disch := first | omega | (simp only [lnx]; omega)) only [stdh, stdx, ↓reduceIte, seval]
              refine run_fin rfl rfl trivial ?_
              exact ⟨false, 1, fp1, t1.le, t1.kept, (fun e => by cases e), hi1⟩
            simp (disch := first | omega | (simp only [lnx]; omega)) only [stdh, stdx, ↓reduceIte, seval, load_imm]
            have s1 := hI.step 1 fp1 H1 (by omega) hi1
            rw [i1] at s1
            refine CallV.mono s1 fun av H2 hh => ?_
            obtain ⟨fp2, t2, hh⟩ := hh
            replace t2 := t1.trans t2
            refine runL_V 200 ?_
            rcases hh with ⟨rfl, hi2⟩ | ⟨rfl, hi2⟩
            rotate_left
            · simp (disch := first | omega | (simp only [lnx]; omega)) only [stdh, stdx, ↓reduceIte, seval]
              refine run_fin rfl rfl trivial ?_
              exact ⟨false, 2, fp2, t2.le, t2.kept, (fun e => by cases e), hi2⟩
            simp (disch := first | omega | (simp only [lnx]; omega)) only [stdh, stdx, ↓reduceIte, seval, load_imm]
            have s2 := hI.step 2 fp2 H2 (by omega) hi2
            rw [i2] at s2
            refine CallV.mono s2 fun av H3 hh => ?_
            obtain ⟨fp3, t3, hh⟩ := hh
            replace t3 := t2.trans t3
            refine runL_V 200 ?_
            rcases hh with ⟨rfl, hi3⟩ | ⟨rfl, hi3⟩
            rotate_left
            · simp (disch := first | omega | (simp only [lnx]; omega)) only [stdh, stdx, ↓reduceIte, seval]
              refine run_fin rfl rfl trivial ?_
              exact ⟨false, 3, fp3, t3.le, t3.kept, (fun e => by cases e), hi3⟩
            simp (disch := first | omega | (simp only [lnx]; omega)) only [stdh, stdx, ↓reduceIte, seval]
            refine run_fin rfl rfl trivial ?_
            exact ⟨true, 3, fp3, t3.le, t3.kept, fun _ => rfl, hi3⟩
          · skip
            have i0 : wrongItem h 0 = [.int .i64 10, .bool true] := by simp [wrongItem, bads, errs, h0]
            have i1 : wrongItem h 1 = [.int .i64 9, .bool true] := by simp [wrongItem, bads, errs, h1]
            have i2 : wrongItem h 2 = [.int .i64 3, .bool (decide (h.c ≤ h.i))] := by simp [wrongItem, bads, errs, h2, h3, h4]
            simp (disch := first | omega | (simp only [lnx]; omega)) only [stdh, stdx, ↓reduceIte, seval, head_wrong_1, head_wrong_1.body, cellN, load_imm, encHd]
            have s0 := hI.step 0 fp H (by omega) hi
            rw [i0] at s0
            refine CallV.mono s0 fun av H1 hh => ?_
            obtain ⟨fp1, t1, hh⟩ := hh
            refine runL_V 200 ?_
            rcases hh with ⟨rfl, hi1⟩ | ⟨rfl, hi1⟩
            rotate_left
            · simp (disch := first | omega | (simp only [lnx]; omega)) only [stdh, stdx, ↓reduceIte, seval]
              refine run_fin rfl rfl trivial ?_
              exact ⟨false, 1, fp1, t1.le, t1.kept, (fun e => by cases e), hi1⟩
            simp (disch := first | omega | (simp only [lnx]; omega)) only [stdh, stdx, ↓reduceIte, seval, load_imm]
            have s1 := hI.step 1 fp1 H1 (by omega) hi1
            rw [i1] at s1
            refine CallV.mono s1 fun av H2 hh => ?_
            obtain ⟨fp2, t2, hh⟩ := hh
            replace t2 := t1.trans t2
            refine runL_V 200 ?_
            rcases hh with ⟨rfl, hi2⟩ | ⟨rfl, hi2⟩
            rotate_left
            · simp (disch := first | omega | (simp only [lnx]; omega)) only [stdh, stdx, ↓reduceIte, seval]
              refine run_fin rfl rfl trivial ?_
              exact ⟨false, 2, fp2, t2.le, t2.kept, (fun e => by cases e), hi2⟩
            simp (disch := first | omega | (simp only [lnx]; omega)) only [stdh, stdx, ↓reduceIte, seval, load_imm]
            have s2 := hI.step 2 fp2 H2 (by omega) hi2
            rw [i2] at s2
            refine CallV.mono s2 fun av H3 hh => ?_
            obtain ⟨fp3, t3, hh⟩ := hh
            replace t3 := t2.trans t3
            refine runL_V 200 ?_
            rcases hh with ⟨rfl, hi3⟩ | ⟨rfl, hi3⟩
            rotate_left
            · simp (disch := first | omega | (simp only [lnx]; omega)) only [stdh, stdx, ↓reduceIte, seval]
              refine run_fin rfl rfl trivial ?_
              exact ⟨false, 3, fp3, t3.le, t3.kept, (fun e => by cases e), hi3⟩
            simp (disch := first | omega | (simp only [lnx]; omega)) only [stdh, stdx, ↓reduceIte, seval]
            refine run_fin rfl rfl trivial ?_
            exact ⟨true, 3, fp3, t3.le, t3.kept, fun _ => rfl, hi3⟩
    · skip
      by_cases h2 : h.c < 1
      · skip
        have i0 : wrongItem h 0 = [.int .i64 10, .bool true] := by simp [wrongItem, bads, errs, h0]
        have i1 : wrongItem h 1 = [.int .i64 9, .bool (decide (5 < h.k))] := by simp [wrongItem, bads, errs, h1]
        have i2 : wrongItem h 2 = [.int .i64 3, .bool true] := by simp [wrongItem, bads, errs, h2]
        simp (disch := first | omega | (simp only [lnx]; omega)) only [stdh, stdx, ↓reduceIte, seval, head_wrong_1, head_wrong_1.body, cellN, load_imm, encHd]
        have s0 := hI.step 0 fp H (by omega) hi
        rw [i0] at s0
        refine CallV.mono s0 fun av H1 hh => ?_
        obtain ⟨fp1, t1, hh⟩ := hh
        refine runL_V 200 ?_
        rcases hh with ⟨rfl, hi1⟩ | ⟨rfl, hi1⟩
        rotate_left
        · simp (disch := first | omega | (simp only [lnx]; omega)) only [stdh, stdx, ↓reduceIte, seval]
          refine run_fin rfl rfl trivial ?_
          exact ⟨false, 1, fp1, t1.le, t1.kept, (fun e => by cases e), hi1⟩
        simp (disch := first | omega | (simp only [lnx]; omega)) only [stdh, stdx, ↓reduceIte, seval, load_imm]
        have s1 := hI.step 1 fp1 H1 (by omega) hi1
        rw [i1] at s1
        refine CallV.mono s1 fun av H2 hh => ?_
        obtain ⟨fp2, t2, hh⟩ := hh
        replace t2 := t1.trans t2
        refine runL_V 200 ?_
        rcases hh with ⟨rfl, hi2⟩ | ⟨rfl, hi2⟩
        rotate_left
        · simp (disch := first | omega | (simp only [lnx]; omega)) only [stdh, stdx, ↓reduceIte, seval]
          refine run_fin rfl rfl trivial ?_
          exact ⟨false, 2, fp2, t2.le, t2.kept, (fun e => by cases e), hi2⟩
        simp (disch := first | omega | (simp only [lnx]; omega)) only [stdh, stdx, ↓reduceIte, seval, load_imm]
        have s2 := hI.step 2 fp2 H2 (by omega) hi2
        rw [i2] at s2
        refine CallV.mono s2 fun av H3 hh => ?_
        obtain ⟨fp3, t3, hh⟩ := hh
        replace t3 := t2.trans t3
        refine runL_V 200 ?_
        rcases hh with ⟨rfl, hi3⟩ | ⟨rfl, hi3⟩
        rotate_left
        · simp (disch := first | omega | (simp only [lnx]; omega)) only [stdh, stdx, ↓reduceIte, seval]
          refine run_fin rfl rfl trivial ?_
          exact ⟨false, 3, fp3, t3.le, t3.kept, (fun e => by cases e), hi3⟩
        simp (disch := first | omega | (simp only [lnx]; omega)) only [stdh, stdx, ↓reduceIte, seval]
        refine run_fin rfl rfl trivial ?_
        exact ⟨true, 3, fp3, t3.le, t3.kept, fun _ => rfl, hi3⟩
      · by_cases h3 : 255 < h.c
        · skip
          have i0 : wrongItem h 0 = [.int .i64 10, .bool true] := by simp [wrongItem, bads, errs, h0]
          have i1 : wrongItem h 1 = [.int .i64 9, .bool (decide (5 < h.k))] := by simp [wrongItem, bads, errs, h1]
          have i2 : wrongItem h 2 = [.int .i64 3, .bool true] := by simp [wrongItem, bads, errs, h2, h3]
          simp (disch := first | omega | (simp only [lnx]; omega)) only [stdh, stdx, ↓reduceIte, seval, head_wrong_1, head_wrong_1.body, cellN, load_imm, encHd]
          have s0 := hI.step 0 fp H (by omega) hi
          rw [i0] at s0
          refine CallV.mono s0 fun av H1 hh => ?_
          obtain ⟨fp1, t1, hh⟩ := hh
          refine runL_V 200 ?_
          rcases hh with ⟨rfl, hi1⟩ | ⟨rfl, hi1⟩
          rotate_left
          · simp (disch := first | omega | (simp only [lnx]; omega)) only [stdh, stdx, ↓reduceIte, seval]
            refine run_fin rfl rfl trivial ?_
            exact ⟨false, 1, fp1, t1.le, t1.kept, (fun e => by cases e), hi1⟩
          simp (disch := first | omega | (simp only [lnx]; omega)) only [stdh, stdx, ↓reduceIte, seval, load_imm]
          have s1 := hI.step 1 fp1 H1 (by omega) hi1
          rw [i1] at s1
          refine CallV.mono s1 fun av H2 hh => ?_
          obtain ⟨fp2, t2, hh⟩ := hh
          replace t2 := t1.trans t2
          refine runL_V 200 ?_
          rcases hh with ⟨rfl, hi2⟩ | ⟨rfl, hi2⟩
          rotate_left
          · simp (disch := first | omega | (simp only [lnx]; omega)) only [stdh, stdx, ↓reduceIte, seval]
            refine run_fin rfl rfl trivial ?_
            exact ⟨false, 2, fp2, t2.le, t2.kept, (fun e => by cases e), hi2⟩
          simp (disch := first | omega | (simp only [lnx]; omega)) only [stdh, stdx, ↓reduceIte, seval, load_imm]
          have s2 := hI.step 2 fp2 H2 (by omega) hi2
          rw [i2] at s2
          refine CallV.mono s2 fun av H3 hh => ?_
          obtain ⟨fp3, t3, hh⟩ := hh
          replace t3 := t2.trans t3
          refine runL_V 200 ?_
          rcases hh with ⟨rfl, hi3⟩ | ⟨rfl, hi3⟩
          rotate_left
          · simp (disch := first | omega | (simp only [lnx]; omega)) only [stdh, stdx, ↓reduceIte, seval]
            refine run_fin rfl rfl trivial ?_
            exact ⟨false, 3, fp3, t3.le, t3.kept, (fun e => by cases e), hi3⟩
          simp (disch := first | omega | (simp only [lnx]; omega)) only [stdh, stdx, ↓reduceIte, seval]
          refine run_fin rfl rfl trivial ?_
          exact ⟨true, 3, fp3, t3.le, t3.kept, fun _ => rfl, hi3⟩
        · by_cases h4 : h.i < 0
          · skip
            have i0 : wrongItem h 0 = [.int .i64 10, .bool true] := by simp [wrongItem, bads, errs, h0]
            have i1 : wrongItem h 1 = [.int .i64 9, .bool (decide (5 < h.k))] := by simp [wrongItem, bads, errs, h1]
            have i2 : wrongItem h 2 = [.int .i64 3, .bool true] := by simp [wrongItem, bads, errs, h2, h3, h4]
            simp (disch := first | omega | (simp only [lnx]; omega)) only [stdh, stdx, ↓reduceIte, seval, head_wrong_1, head_wrong_1.body, cellN, load_imm, encHd]
            have s0 := hI.step 0 fp H (by omega) hi
            rw [i0] at s0
            refine CallV.mono s0 fun av H1 hh => ?_
            obtain ⟨fp1, t1, hh⟩ := hh
            refine runL_V 200 ?_
            rcases hh with ⟨rfl, hi1⟩ | ⟨rfl, hi1⟩
            rotate_left
            · simp (disch := first | omega | (simp only [lnx]; omega)) only [stdh, stdx, ↓reduceIte, seval]
              refine run_fin rfl rfl trivial ?_
              exact ⟨false, 1, fp1, t1.le, t1.kept, (fun e => by cases e), hi1⟩
            simp (disch := first | omega | (simp only [lnx]; omega)) only [stdh, stdx, ↓reduceIte, seval, load_imm]
            have s1 := hI.step 1 fp1 H1 (by omega) hi1
            rw [i1] at s1
            refine CallV.mono s1 fun av H2 hh => ?_
            obtain ⟨fp2, t2, hh⟩ := hh
            replace t2 := t1.trans t2
            refine runL_V 200 ?_
            rcases hh with ⟨rfl, hi2⟩ | ⟨rfl, hi2⟩
            rotate_left
            · simp (disch := first | omega | (simp only [lnx]; omega)) only [stdh, stdx, ↓reduceIte, seval]
              refine run_fin rfl rfl trivial ?_
              exact ⟨false, 2, fp2, t2.le, t2.kept, (fun e => by cases e), hi2⟩
            simp (disch := first | omega | (simp only [lnx]; omega)) only [stdh, stdx, ↓reduceIte, seval, load_imm]
            have s2 := hI.step 2 fp2 H2 (by omega) hi2
            rw [i2] at s2
            refine CallV.mono s2 fun av H3 hh => ?_
            obtain ⟨fp3, t3, hh⟩ := hh
            replace t3 := t2.trans t3
            refine runL_V 200 ?_
            rcases hh with ⟨rfl, hi3⟩ | ⟨rfl, hi3⟩
            rotate_left
            · simp (disch := first | omega | (simp only [lnx]; omega)) only [stdh, stdx, ↓reduceIte, seval]
              refine run_fin rfl rfl trivial ?_
              exact ⟨false, 3, fp3, t3.le, t3.kept, (fun e => by cases e), hi3⟩
            simp (disch := first | omega | (simp only [lnx]; omega)) only [stdh, stdx, ↓reduceIte, seval]
            refine run_fin rfl rfl trivial ?_
            exact ⟨true, 3, fp3, t3.le, t3.kept, fun _ => rfl, hi3⟩
          · skip
            have i0 : wrongItem h 0 = [.int .i64 10, .bool true] := by simp [wrongItem, bads, errs, h0]
            have i1 : wrongItem h 1 = [.int .i64 9, .bool (decide (5 < h.k))] := by simp [wrongItem, bads, errs, h1]
            have i2 : wrongItem h 2 = [.int .i64 3, .bool (decide (h.c ≤ h.i))] := by simp [wrongItem, bads, errs, h2, h3, h4]
            simp (disch := first | omega | (simp only [lnx]; omega)) only [stdh, stdx, ↓reduceIte, seval, head_wrong_1, head_wrong_1.body, cellN, load_imm, encHd]
            have s0 := hI.step 0 fp H (by omega) hi
            rw [i0] at s0
            refine CallV.mono s0 fun av H1 hh => ?_
            obtain ⟨fp1, t1, hh⟩ := hh
            refine runL_V 200 ?_
            rcases hh with ⟨rfl, hi1⟩ | ⟨rfl, hi1⟩
            rotate_left
            · simp (disch := first | omega | (simp only [lnx]; omega)) only [stdh, stdx, ↓reduceIte, seval]
              refine run_fin rfl rfl trivial ?_
              exact ⟨false, 1, fp1, t1.le, t1.kept, (fun e => by cases e), hi1⟩
            simp (disch := first | omega | (simp only [lnx]; omega)) only [stdh, stdx, ↓reduceIte, seval, load_imm]
            have s1 := hI.step 1 fp1 H1 (by omega) hi1
            rw [i1] at s1
            refine CallV.mono s1 fun av H2 hh => ?_
            obtain ⟨fp2, t2, hh⟩ := hh
            replace t2 := t1.trans t2
            refine runL_V 200 ?_
            rcases hh with ⟨rfl, hi2⟩ | ⟨rfl, hi2⟩
            rotate_left
            · simp (disch := first | omega | (simp only [lnx]; omega)) only [stdh, stdx, ↓reduceIte, seval]
              refine run_fin rfl rfl trivial ?_
              exact ⟨false, 2, fp2, t2.le, t2.kept, (fun e => by cases e), hi2⟩
            simp (disch := first | omega | (simp only [lnx]; omega)) only [stdh, stdx, ↓reduceIte, seval, load_imm]
            have s2 := hI.step 2 fp2 H2 (by omega) hi2
            rw [i2] at s2
            refine CallV.mono s2 fun av H3 hh => ?_
            obtain ⟨fp3, t3, hh⟩ := hh
            replace t3 := t2.trans t3
            refine runL_V 200 ?_
            rcases hh with ⟨rfl, hi3⟩ | ⟨rfl, hi3⟩
            rotate_left
            · simp (disch := first | omega | (simp only [lnx]; omega)) only [stdh, stdx, ↓reduceIte, seval]
              refine run_fin rfl rfl trivial ?_
              exact ⟨false, 3, fp3, t3.le, t3.kept, (fun e => by cases e), hi3⟩
            simp (disch := first | omega | (simp only [lnx]; omega)) only [stdh, stdx, ↓reduceIte, seval]
            refine run_fin rfl rfl trivial ?_
            exact ⟨true, 3, fp3, t3.le, t3.kept, fun _ => rfl, hi3⟩
  · by_cases h1 : h.k < 1
    · skip
      by_cases h2 : h.c < 1
      · skip
        have i0 : wrongItem h 0 = [.int .i64 10, .bool (decide (2 < h.v))] := by simp [wrongItem, bads, errs, h0]
        have i1 : wrongItem h 1 = [.int .i64 9, .bool true] := by simp [wrongItem, bads, errs, h1]
        have i2 : wrongItem h 2 = [.int .i64 3, .bool true] := by simp [wrongItem, bads, errs, h2]
        simp (disch := first | omega | (simp only [lnx]; omega)) only [stdh, stdx, ↓reduceIte, seval, head_wrong_1, head_wrong_1.body, cellN, load_imm, encHd]
        have s0 := hI.step 0 fp H (by omega) hi
        rw [i0] at s0
        refine CallV.mono s0 fun av H1 hh => ?_
        obtain ⟨fp1, t1, hh⟩ := hh
        refine runL_V 200 ?_
        rcases hh with ⟨rfl, hi1⟩ | ⟨rfl, hi1⟩
        rotate_left
        · simp (disch := first | omega | (simp only [lnx]; omega)) only [stdh, stdx, ↓reduceIte, seval]
          refine run_fin rfl rfl trivial ?_
          exact ⟨false, 1, fp1, t1.le, t1.kept, (fun e => by cases e), hi1⟩
        simp (disch := first | omega | (simp only [lnx]; omega)) only [stdh, stdx, ↓reduceIte, seval, load_imm]
        have s1 := hI.step 1 fp1 H1 (by omega) hi1
        rw [i1] at s1
        refine CallV.mono s1 fun av H2 hh => ?_
        obtain ⟨fp2, t2, hh⟩ := hh
        replace t2 := t1.trans t2
        refine runL_V 200 ?_
        rcases hh with ⟨rfl, hi2⟩ | ⟨rfl, hi2⟩
        rotate_left
        · simp (disch := first | omega | (simp only [lnx]; omega)) only [stdh, stdx, ↓reduceIte, seval]
          refine run_fin rfl rfl trivial ?_
          exact ⟨false, 2, fp2, t2.le, t2.kept, (fun e => by cases e), hi2⟩
        simp (disch := first | omega | (simp only [lnx]; omega)) only [stdh, stdx, ↓reduceIte, seval, load_imm]
        have s2 := hI.step 2 fp2 H2 (by omega) hi2
        rw [i2] at s2
        refine CallV.mono s2 fun av H3 hh => ?_
        obtain ⟨fp3, t3, hh⟩ := hh
        replace t3 := t2.trans t3
        refine runL_V 200 ?_
        rcases hh with ⟨rfl, hi3⟩ | ⟨rfl, hi3⟩
        rotate_left
        · simp (disch := first | omega | (simp only [lnx]; omega)) only [stdh, stdx, ↓reduceIte, seval]
          refine run_fin rfl rfl trivial ?_
          exact ⟨false, 3, fp3, t3.le, t3.kept, (fun e => by cases e), hi3⟩
        simp (disch := first | omega | (simp only [lnx]; omega)) only [stdh, stdx, ↓reduceIte, seval]
        refine run_fin rfl rfl trivial ?_
        exact ⟨true, 3, fp3, t3.le, t3.kept, fun _ => rfl, hi3⟩
      · by_cases h3 : 255 < h.c
        · skip
          have i0 : wrongItem h 0 = [.int .i64 10, .bool (decide (2 < h.v))] := by simp [wrongItem, bads, errs, h0]
          have i1 : wrongItem h 1 = [.int .i64 9, .bool true] := by simp [wrongItem, bads, errs, h1]
          have i2 : wrongItem h 2 = [.int .i64 3, .bool true] := by simp [wrongItem, bads, errs, h2, h3]
          simp (disch := first | omega | (simp only [lnx]; omega)) only [stdh, stdx, ↓reduceIte, seval, head_wrong_1, head_wrong_1.body, cellN, load_imm, encHd]
          have s0 := hI.step 0 fp H (by omega) hi
          rw [i0] at s0
          refine CallV.mono s0 fun av H1 hh => ?_
          obtain ⟨fp1, t1, hh⟩ := hh
          refine runL_V 200 ?_
          rcases hh with ⟨rfl, hi1⟩ | ⟨rfl, hi1⟩
          rotate_left
          · simp (disch := first | omega | (simp only [lnx]; omega)) only [stdh, stdx, ↓reduceIte, seval]
            refine run_fin rfl rfl trivial ?_
            exact ⟨false, 1, fp1, t1.le, t1.kept, (fun e => by cases e), hi1⟩
          simp (disch := first | omega | (simp only [lnx]; omega)) only [stdh, stdx, ↓reduceIte, seval, load_imm]
          have s1 := hI.step 1 fp1 H1 (by omega) hi1
          rw [i1] at s1
          refine CallV.mono s1 fun av H2 hh => ?_
          obtain ⟨fp2, t2, hh⟩ := hh
          replace t2 := t1.trans t2
          refine runL_V 200 ?_
          rcases hh with ⟨rfl, hi2⟩ | ⟨rfl, hi2⟩
          rotate_left
          · simp (disch := first | omega | (simp only [lnx]; omega)) only [stdh, stdx, ↓reduceIte, seval]
            refine run_fin rfl rfl trivial ?_
            exact ⟨false, 2, fp2, t2.le, t2.kept, (fun e => by cases e), hi2⟩
          simp (disch := first | omega | (simp only [lnx]; omega)) only [stdh, stdx, ↓reduceIte, seval, load_imm]
          have s2 := hI.step 2 fp2 H2 (by omega) hi2
          rw [i2] at s2
          refine CallV.mono s2 fun av H3 hh => ?_
          obtain ⟨fp3, t3, hh⟩ := hh
          replace t3 := t2.trans t3
          refine runL_V 200 ?_
          rcases hh with ⟨rfl, hi3⟩ | ⟨rfl, hi3⟩
          rotate_left
          · simp (disch := first | omega | (simp only [lnx]; omega)) only [stdh, stdx, ↓reduceIte, seval]
            refine run_fin rfl rfl trivial ?_
            exact ⟨false, 3, fp3, t3.le, t3.kept, (fun e => by cases e), hi3⟩
          simp (disch := first | omega | (simp only [lnx]; omega)) only [stdh, stdx, ↓reduceIte, seval]
          refine run_fin rfl rfl trivial ?_
          exact ⟨true, 3, fp3, t3.le, t3.kept, fun _ => rfl, hi3⟩
        · by_cases h4 : h.i < 0
          · skip
            have i0 : wrongItem h 0 = [.int .i64 10, .bool (decide (2 < h.v))] := by simp [wrongItem, bads, errs, h0]
            have i1 : wrongItem h 1 = [.int .i64 9, .bool true] := by simp [wrongItem, bads, errs, h1]
            have i2 : wrongItem h 2 = [.int .i64 3, .bool true] := by simp [wrongItem, bads, errs, h2, h3, h4]
            simp (disch := first | omega | (simp only [lnx]; omega)) only [stdh, stdx, ↓reduceIte, seval, head_wrong_1, head_wrong_1.body, cellN, load_imm, encHd]
            have s0 := hI.step 0 fp H (by omega) hi
            rw [i0] at s0
            refine CallV.mono s0 fun av H1 hh => ?_
            obtain ⟨fp1, t1, hh⟩ := hh
            refine runL_V 200 ?_
            rcases hh with ⟨rfl, hi1⟩ | ⟨rfl, hi1⟩
            rotate_left
            · simp (disch := first | omega | (simp only [lnx]; omega)) only [stdh, stdx, ↓reduceIte, seval]
              refine run_fin rfl rfl trivial ?_
              exact ⟨false, 1, fp1, t1.le, t1.kept, (fun e => by cases e), hi1⟩
            simp (disch := first | omega | (simp only [lnx]; omega)) only [stdh, stdx, ↓reduceIte, seval, load_imm]
            have s1 := hI.step 1 fp1 H1 (by omega) hi1
            rw [i1] at s1
            refine CallV.mono s1 fun av H2 hh => ?_
            obtain ⟨fp2, t2, hh⟩ := hh
            replace t2 := t1.trans t2
            refine runL_V 200 ?_
            rcases hh with ⟨rfl, hi2⟩ | ⟨rfl, hi2⟩
            rotate_left
            · simp (disch := first | omega | (simp only [lnx]; omega)) only [stdh, stdx, ↓reduceIte, seval]
              refine run_fin rfl rfl trivial ?_
              exact ⟨false, 2, fp2, t2.le, t2.kept, (fun e => by cases e), hi2⟩
            simp (disch := first | omega | (simp only [lnx]; omega)) only [stdh, stdx, ↓reduceIte, seval, load_imm]
            have s2 := hI.step 2 fp2 H2 (by omega) hi2
            rw [i2] at s2
            refine CallV.mono s2 fun av H3 hh => ?_
            obtain ⟨fp3, t3, hh⟩ := hh
            replace t3 := t2.trans t3
            refine runL_V 200 ?_
            rcases hh with ⟨rfl, hi3⟩ | ⟨rfl, hi3⟩
            rotate_left
            · simp (disch := first | omega | (simp only [lnx]; omega)) only [stdh, stdx, ↓reduceIte, seval]
              refine run_fin rfl rfl trivial ?_
              exact ⟨false, 3, fp3, t3.le, t3.kept, (fun e => by cases e), hi3⟩
            simp (disch := first | omega | (simp only [lnx]; omega)) only [stdh, stdx, ↓reduceIte, seval]
            refine run_fin rfl rfl trivial ?_
            exact ⟨true, 3, fp3, t3.le, t3.kept, fun _ => rfl, hi3⟩
          · skip
            have i0 : wrongItem h 0 = [.int .i64 10, .bool (decide (2 < h.v))] := by simp [wrongItem, bads, errs, h0]
            have i1 : wrongItem h 1 = [.int .i64 9, .bool true] := by simp [wrongItem, bads, errs, h1]
            have i2 : wrongItem h 2 = [.int .i64 3, .bool (decide (h.c ≤ h.i))] := by simp [wrongItem, bads, errs, h2, h3, h4]
            simp (disch := first | omega | (simp only [lnx]; omega)) only [stdh, stdx, ↓reduceIte, seval, head_wrong_1, head_wrong_1.body, cellN, load_imm, encHd]
            have s0 := hI.step 0 fp H (by omega) hi
            rw [i0] at s0
            refine CallV.mono s0 fun av H1 hh => ?_
            obtain ⟨fp1, t1, hh⟩ := hh
            refine runL_V 200 ?_
            rcases hh with ⟨rfl, hi1⟩ | ⟨rfl, hi1⟩
            rotate_left
            · simp (disch := first | omega | (simp only [lnx]; omega)) only [stdh, stdx, ↓reduceIte, seval]
              refine run_fin rfl rfl trivial ?_
              exact ⟨false, 1, fp1, t1.le, t1.kept, (fun e => by cases e), hi1⟩
            simp (disch := first | omega | (simp only [lnx]; omega)) only [stdh, stdx, ↓reduceIte, seval, load_imm]
            have s1 := hI.step 1 fp1 H1 (by omega) hi1
            rw [i1] at s1
            refine CallV.mono s1 fun av H2 hh => ?_
            obtain ⟨fp2, t2, hh⟩ := hh
            replace t2 := t1.trans t2
            refine runL_V 200 ?_
            rcases hh with ⟨rfl, hi2⟩ | ⟨rfl, hi2⟩
            rotate_left
            · simp (disch := first | omega | (simp only [lnx]; omega)) only [stdh, stdx, ↓reduceIte, seval]
              refine run_fin rfl rfl trivial ?_
              exact ⟨false, 2, fp2, t2.le, t2.kept, (fun e => by cases e), hi2⟩
            simp (disch := first | omega | (simp only [lnx]; omega)) only [stdh, stdx, ↓reduceIte, seval, load_imm]
            have s2 := hI.step 2 fp2 H2 (by omega) hi2
            rw [i2] at s2
            refine CallV.mono s2 fun av H3 hh => ?_
            obtain ⟨fp3, t3, hh⟩ := hh
            replace t3 := t2.trans t3
            refine runL_V 200 ?_
            rcases hh with ⟨rfl, hi3⟩ | ⟨rfl, hi3⟩
            rotate_left
            · simp (disch := first | omega | (simp only [lnx]; omega)) only [stdh, stdx, ↓reduceIte, seval]
              refine run_fin rfl rfl trivial ?_
              exact ⟨false, 3, fp3, t3.le, t3.kept, (fun e => by cases e), hi3⟩
            simp (disch := first | omega | (simp only [lnx]; omega)) only [stdh, stdx, ↓reduceIte, seval]
            refine run_fin rfl rfl trivial ?_
            exact ⟨true, 3, fp3, t3.le, t3.kept, fun _ => rfl, hi3⟩
    · skip
      by_cases h2 : h.c < 1
      · skip
        have i0 : wrongItem h 0 = [.int .i64 10, .bool (decide (2 < h.v))] := by simp [wrongItem, bads, errs, h0]
        have i1 : wrongItem h 1 = [.int .i64 9, .bool (decide (5 < h.k))] := by simp [wrongItem, bads, errs, h1]
        have i2 : wrongItem h 2 = [.int .i64 3, .bool true] := by simp [wrongItem, bads, errs, h2]
        simp (disch := first | omega | (simp only [lnx]; omega)) only [stdh, stdx, ↓reduceIte, seval, head_wrong_1, head_wrong_1.body, cellN, load_imm, encHd]
        have s0 := hI.step 0 fp H (by omega) hi
        rw [i0] at s0
        refine CallV.mono s0 fun av H1 hh => ?_
        obtain ⟨fp1, t1, hh⟩ := hh
        refine runL_V 200 ?_
        rcases hh with ⟨rfl, hi1⟩ | ⟨rfl, hi1⟩
        rotate_left
        · simp (disch := first | omega | (simp only [lnx]; omega)) only [stdh, stdx, ↓reduceIte, seval]
          refine run_fin rfl rfl trivial ?_
          exact ⟨false, 1, fp1, t1.le, t1.kept, (fun e => by cases e), hi1⟩
        simp (disch := first | omega | (simp only [lnx]; omega)) only [stdh, stdx, ↓reduceIte, seval, load_imm]
        have s1 := hI.step 1 fp1 H1 (by omega) hi1
        rw [i1] at s1
        refine CallV.mono s1 fun av H2 hh => ?_
        obtain ⟨fp2, t2, hh⟩ := hh
        replace t2 := t1.trans t2
        refine runL_V 200 ?_
        rcases hh with ⟨rfl, hi2⟩ | ⟨rfl, hi2⟩
        rotate_left
        · simp (disch := first | omega | (simp only [lnx]; omega)) only [stdh, stdx, ↓reduceIte, seval]
          refine run_fin rfl rfl trivial ?_
          exact ⟨false, 2, fp2, t2.le, t2.kept, (fun e => by cases e), hi2⟩
        simp (disch := first | omega | (simp only [lnx]; omega)) only [stdh, stdx, ↓reduceIte, seval, load_imm]
        have s2 := hI.step 2 fp2 H2 (by omega) hi2
        rw [i2] at s2
        refine CallV.mono s2 fun av H3 hh => ?_
        obtain ⟨fp3, t3, hh⟩ := hh
        replace t3 := t2.trans t3
        refine runL_V 200 ?_
        rcases hh with ⟨rfl, hi3⟩ | ⟨rfl, hi3⟩
        rotate_left
        · simp (disch := first | omega | (simp only [lnx]; omega)) only [stdh, stdx, ↓reduceIte, seval]
          refine run_fin rfl rfl trivial ?_
          exact ⟨false, 3, fp3, t3.le, t3.kept, (fun e => by cases e), hi3⟩
        simp (disch := first | omega | (simp only [lnx]; omega)) only [stdh, stdx, ↓reduceIte, seval]
        refine run_fin rfl rfl trivial ?_
        exact ⟨true, 3, fp3, t3.le, t3.kept, fun _ => rfl, hi3⟩
      · by_cases h3 : 255 < h.c
        · skip
          have i0 : wrongItem h 0 = [.int .i64 10, .bool (decide (2 < h.v))] := by simp [wrongItem, bads, errs, h0]
          have i1 : wrongItem h 1 = [.int .i64 9, .bool (decide (5 < h.k))] := by simp [wrongItem, bads, errs, h1]
          have i2 : wrongItem h 2 = [.int .i64 3, .bool true] := by simp [wrongItem, bads, errs, h2, h3]
          simp (disch := first | omega | (simp only [lnx]; omega)) only [stdh, stdx, ↓reduceIte, seval, head_wrong_1, head_wrong_1.body, cellN, load_imm, encHd]
          have s0 := hI.step 0 fp H (by omega) hi
          rw [i0] at s0
          refine CallV.mono s0 fun av H1 hh => ?_
          obtain ⟨fp1, t1, hh⟩ := hh
          refine runL_V 200 ?_
          rcases hh with ⟨rfl, hi1⟩ | ⟨rfl, hi1⟩
          rotate_left
          · simp (disch := first | omega | (simp only [lnx]; omega)) only [stdh, stdx, ↓reduceIte, seval]
            refine run_fin rfl rfl trivial ?_
            exact ⟨false, 1, fp1, t1.le, t1.kept, (fun e => by cases e), hi1⟩
          simp (disch := first | omega | (simp only [lnx]; omega)) only [stdh, stdx, ↓reduceIte, seval, load_imm]
          have s1 := hI.step 1 fp1 H1 (by omega) hi1
          rw [i1] at s1
          refine CallV.mono s1 fun av H2 hh => ?_
          obtain ⟨fp2, t2, hh⟩ := hh
          replace t2 := t1.trans t2
          refine runL_V 200 ?_
          rcases hh with ⟨rfl, hi2⟩ | ⟨rfl, hi2⟩
          rotate_left
          · simp (disch := first | omega | (simp only [lnx]; omega)) only [stdh, stdx, ↓reduceIte, seval]
            refine run_fin rfl rfl trivial ?_
            exact ⟨false, 2, fp2, t2.le, t2.kept, (fun e => by cases e), hi2⟩
          simp (disch := first | omega | (simp only [lnx]; omega)) only [stdh, stdx, ↓reduceIte, seval, load_imm]
          have s2 := hI.step 2 fp2 H2 (by omega) hi2
          rw [i2] at s2
          refine CallV.mono s2 fun av H3 hh => ?_
          obtain ⟨fp3, t3, hh⟩ := hh
          replace t3 := t2.trans t3
          refine runL_V 200 ?_
          rcases hh with ⟨rfl, hi3⟩ | ⟨rfl, hi3⟩
          rotate_left
          · simp (disch := first | omega | (simp only [lnx]; omega)) only [stdh, stdx, ↓reduceIte, seval]
            refine run_fin rfl rfl trivial ?_
            exact ⟨false, 3, fp3, t3.le, t3.kept, (fun e => by cases e), hi3⟩
          simp (disch := first | omega | (simp only [lnx]; omega)) only [stdh, stdx, ↓reduceIte, seval]
          refine run_fin rfl rfl trivial ?_
          exact ⟨true, 3, fp3, t3.le, t3.kept, fun _ => rfl, hi3⟩
        · by_cases h4 : h.i < 0
          · skip
            have i0 : wrongItem h 0 = [.int .i64 10, .bool (decide (2 < h.v))] := by simp [wrongItem, bads, errs, h0]
            have i1 : wrongItem h 1 = [.int .i64 9, .bool (decide (5 < h.k))] := by simp [wrongItem, bads, errs, h1]
            have i2 : wrongItem h 2 = [.int .i64 3, .bool true] := by simp [wrongItem, bads, errs, h2, h3, h4]
            simp (disch := first | omega | (simp only [lnx]; omega)) only [stdh, stdx, ↓reduceIte, seval, head_wrong_1, head_wrong_1.body, cellN, load_imm, encHd]
            have s0 := hI.step 0 fp H (by omega) hi
            rw [i0] at s0
            refine CallV.mono s0 fun av H1 hh => ?_
            obtain ⟨fp1, t1, hh⟩ := hh
            refine runL_V 200 ?_
            rcases hh with ⟨rfl, hi1⟩ | ⟨rfl, hi1⟩
            rotate_left
            · simp (disch := first | omega | (simp only [lnx]; omega)) only [stdh, stdx, ↓reduceIte, seval]
              refine run_fin rfl rfl trivial ?_
              exact ⟨false, 1, fp1, t1.le, t1.kept, (fun e => by cases e), hi1⟩
            simp (disch := first | omega | (simp only [lnx]; omega)) only [stdh, stdx, ↓reduceIte, seval, load_imm]
            have s1 := hI.step 1 fp1 H1 (by omega) hi1
            rw [i1] at s1
            refine CallV.mono s1 fun av H2 hh => ?_
            obtain ⟨fp2, t2, hh⟩ := hh
            replace t2 := t1.trans t2
            refine runL_V 200 ?_
            rcases hh with ⟨rfl, hi2⟩ | ⟨rfl, hi2⟩
            rotate_left
            · simp (disch := first | omega | (simp only [lnx]; omega)) only [stdh, stdx, ↓reduceIte, seval]
              refine run_fin rfl rfl trivial ?_
              exact ⟨false, 2, fp2, t2.le, t2.kept, (fun e => by cases e), hi2⟩
            simp (disch := first | omega | (simp only [lnx]; omega)) only [stdh, stdx, ↓reduceIte, seval, load_imm]
            have s2 := hI.step 2 fp2 H2 (by omega) hi2
            rw [i2] at s2
            refine CallV.mono s2 fun av H3 hh => ?_
            obtain ⟨fp3, t3, hh⟩ := hh
            replace t3 := t2.trans t3
            refine runL_V 200 ?_
            rcases hh with ⟨rfl, hi3⟩ | ⟨rfl, hi3⟩
            rotate_left
            · simp (disch := first | omega | (simp only [lnx]; omega)) only [stdh, stdx, ↓reduceIte, seval]
              refine run_fin rfl rfl trivial ?_
              exact ⟨false, 3, fp3, t3.le, t3.kept, (fun e => by cases e), hi3⟩
            simp (disch := first | omega | (simp only [lnx]; omega)) only [stdh, stdx, ↓reduceIte, seval]
            refine run_fin rfl rfl trivial ?_
            exact ⟨true, 3, fp3, t3.le, t3.kept, fun _ => rfl, hi3⟩
          · skip
            have i0 : wrongItem h 0 = [.int .i64 10, .bool (decide (2 < h.v))] := by simp [wrongItem, bads, errs, h0]
            have i1 : wrongItem h 1 = [.int .i64 9, .bool (decide (5 < h.k))] := by simp [wrongItem, bads, errs, h1]
            have i2 : wrongItem h 2 = [.int .i64 3, .bool (decide (h.c ≤ h.i))] := by simp [wrongItem, bads, errs, h2, h3, h4]
            simp (disch := first | omega | (simp only [lnx]; omega)) only [stdh, stdx, ↓reduceIte, seval, head_wrong_1, head_wrong_1.body, cellN, load_imm, encHd]
            have s0 := hI.step 0 fp H (by omega) hi
            rw [i0] at s0
            refine CallV.mono s0 fun av H1 hh => ?_
            obtain ⟨fp1, t1, hh⟩ := hh
            refine runL_V 200 ?_
            rcases hh with ⟨rfl, hi1⟩ | ⟨rfl, hi1⟩
            rotate_left
            · simp (disch := first | omega | (simp only [lnx]; omega)) only [stdh, stdx, ↓reduceIte, seval]
              refine run_fin rfl rfl trivial ?_
              exact ⟨false, 1, fp1, t1.le, t1.kept, (fun e => by cases e), hi1⟩
            simp (disch := first | omega | (simp only [lnx]; omega)) only [stdh, stdx, ↓reduceIte, seval, load_imm]
            have s1 := hI.step 1 fp1 H1 (by omega) hi1
            rw [i1] at s1
            refine CallV.mono s1 fun av H2 hh => ?_
            obtain ⟨fp2, t2, hh⟩ := hh
            replace t2 := t1.trans t2
            refine runL_V 200 ?_
            rcases hh with ⟨rfl, hi2⟩ | ⟨rfl, hi2⟩
            rotate_left
            · simp (disch := first | omega | (simp only [lnx]; omega)) only [stdh, stdx, ↓reduceIte, seval]
              refine run_fin rfl rfl trivial ?_
              exact ⟨false, 2, fp2, t2.le, t2.kept, (fun e => by cases e), hi2⟩
            simp (disch := first | omega | (simp only [lnx]; omega)) only [stdh, stdx, ↓reduceIte, seval, load_imm]
            have s2 := hI.step 2 fp2 H2 (by omega) hi2
            rw [i2] at s2
            refine CallV.mono s2 fun av H3 hh => ?_
            obtain ⟨fp3, t3, hh⟩ := hh
            replace t3 := t2.trans t3
            refine runL_V 200 ?_
            rcases hh with ⟨rfl, hi3⟩ | ⟨rfl, hi3⟩
            rotate_left
            · simp (disch := first | omega | (simp only [lnx]; omega)) only [stdh, stdx, ↓reduceIte, seval]
              refine run_fin rfl rfl trivial ?_
              exact ⟨false, 3, fp3, t3.le, t3.kept, (fun e => by cases e), hi3⟩
            simp (disch := first | omega | (simp only [lnx]; omega)) only [stdh, stdx, ↓reduceIte, seval]
            refine run_fin rfl rfl trivial ?_
            exact ⟨true, 3, fp3, t3.le, t3.kept, fun _ => rfl, hi3⟩


theorem wrong_ok (H : AHeap) (h : Hd) (Q : AVal → AHeap → Prop) (hq : Q (.fn F.head_wrong_1 [] [cellN (encHd h)]) H) : FunOK Try.prog F.head_wrong [.agg (encHd h)] H Q := by
  refine fun_iced head_wrong_code fun _ => ?_
  refine fun_V 60 head_wrong_code rfl ?_
  have hce : (encHd h).all AVal.cellish = true := rfl
  simp (disch := first | omega | (simp only [lnx]; omega)) only [stdh, stdx, ↓reduceIte, seval, head_wrong, head_wrong.body, hce]
  exact ice_cloN (by simp [encHd, closeds, closed]) hq

def cStop (h : Hd) (j : Nat) : Option AJump := if bads h j then some (.exit 0) else none
def cVal (h : Hd) (j : Nat) : AVal := .int .i64 ((if 0 < j ∧ bads h (j - 1) then errs (j - 1) else 0 : Nat) : Int)

theorem check_ok (H : AHeap) (h : Hd) (Q : AVal → AHeap → Prop) (hq : Q (.int .i64 (checkOf h : Nat)) H) : FunOK Try.prog F.head_Check [.agg (encHd h)] H Q := by
  refine fun_iced head_Check_code fun _ => ?_
  refine fun_V 60 head_Check_code rfl ?_
  have hce : (encHd h).all AVal.cellish = true := rfl
  have hel : (encHd h).length = 5 := rfl
  have het : (encHd h).take 5 = encHd h := rfl
  simp (disch := first | omega | (simp only [lnx]; omega)) only [stdh, stdx, ↓reduceIte, seval, head_Check, head_Check.body, hce, hel, het]
  refine callK_fn (wrong_ok _ h _ ?_)
  refine runL_V 60 ?_
  simp (disch := first | omega | (simp only [lnx]; omega)) only [stdh, stdx, ↓reduceIte, seval]
  have g1 : (H ++ [ABlk.cells (encHd h) T.head_Head, ABlk.cells [AVal.int IntKind.i64 0] T.api_Errno])[H.length + 1]? = some (.cells [cVal h 0] T.api_Errno) := at_k
  have hk := keeps_append H [ABlk.cells (encHd h) T.head_Head, ABlk.cells [AVal.int IntKind.i64 0] T.api_Errno]
  have hl2 : (H ++ [ABlk.cells (encHd h) T.head_Head, ABlk.cells [AVal.int IntKind.i64 0] T.api_Errno]).length = H.length + 2 := by simp
  generalize H ++ [ABlk.cells (encHd h) T.head_Head, ABlk.cells [AVal.int IntKind.i64 0] T.api_Errno] = H2 at *
  refine range_vars (g := F.head_wrong_1) (first := []) (captured := [cellN (encHd h)]) rfl (by intro n hn; cases hn) (item := wrongItem h) (len := 3) (fun j => rfl) [(H.length + 1, T.api_Errno, cVal h)] (cStop h) (vars_cons g1 vars_nil) ?_ (fun _ _ _ => wrong_iter h) ?_ ?_
  · intro a' b' j H1 hj hst hl hkp hrec hv
    have q1 := hv.get (c := H.length + 1) (T := T.api_Errno) (f := cVal h) (by simp)
    have hkv : cVal h j = .int .i64 0 := by
      cases j with
      | zero => rfl
      | succ j =>
        have := hst j (by omega)
        unfold cStop at this
        split at this
        · cases this
        · rename_i hne
          simp only [cVal, Nat.add_sub_cancel]
          rw [if_neg (fun hh => hne hh.2)]; rfl
    refine run_V0 60 ?_
    cases hw : bads h j with
    | true =>
      have hs : cStop h j = some (.exit 0) := by simp only [cStop, hw, if_true]
      rw [hs]
      simp (disch := first | omega | (simp only [lnx]; omega)) only [stdh, stdx, ↓reduceIte, seval, head_Check.a0, head_Check.b0, hrec, q1, hkv, wrongItem, List.zip_cons_cons, List.zip_nil_left, List.reverse_cons, List.reverse_nil, List.getElem?_set_self, List.getElem?_set_ne, hw]
      refine .inr ⟨rfl, H2.length, _, rfl, by simp (disch := first | omega | (simp only [lnx]; omega)) only [List.getElem?_set_ne, List.getElem?_set_self, List.length_set, ne_eq, not_false_eq_true]; rfl, ?_⟩
      refine varsQ_mk rfl (by (first | omega | (simp only [lnx]; omega))) (fun m m1 m2 m3 => ?_) (vars_cons ?_ vars_nil) (by simp (disch := first | omega | (simp only [lnx]; omega)) only [List.getElem?_set_ne, List.getElem?_set_self, List.length_set, ne_eq, not_false_eq_true]; rfl)
      · simp only [List.map_cons, List.map_nil, List.mem_cons, List.not_mem_nil, or_false] at m3
        simp (disch := first | omega | (simp only [lnx]; omega)) only [List.getElem?_set_ne, List.getElem?_set_self, List.length_set, ne_eq, not_false_eq_true]
      · show _ = some (ABlk.cells [cVal h (j + 1)] T.api_Errno)
        have : cVal h (j + 1) = .int .i64 (errs j : Nat) := by
          simp only [cVal, Nat.add_sub_cancel]; rw [if_pos ⟨by omega, hw⟩]
        rw [this]; simp (disch := first | omega | (simp only [lnx]; omega)) only [List.getElem?_set_ne, List.getElem?_set_self, List.length_set, ne_eq, not_false_eq_true]
    | false =>
      have hs : cStop h j = none := by simp [cStop, hw]
      rw [hs]
      simp (disch := first | omega | (simp only [lnx]; omega)) only [stdh, stdx, ↓reduceIte, seval, head_Check.a0, head_Check.b0, hrec, q1, hkv, wrongItem, List.zip_cons_cons, List.zip_nil_left, List.reverse_cons, List.reverse_nil, List.getElem?_set_self, List.getElem?_set_ne, hw]
      refine round_fin (n := H2.length) (L := lrec _ _ _ a' b' .busy none) rfl (by simp (disch := first | omega | (simp only [lnx]; omega)) only [List.getElem?_set_ne, List.getElem?_set_self, List.length_set, ne_eq, not_false_eq_true]; rfl) ?_
      refine varsQ_mk rfl (by (first | omega | (simp only [lnx]; omega))) (fun m m1 m2 m3 => ?_) (vars_cons ?_ vars_nil) (by simp (disch := first | omega | (simp only [lnx]; omega)) only [List.getElem?_set_ne, List.getElem?_set_self, List.length_set, ne_eq, not_false_eq_true]; rfl)
      · simp only [List.map_cons, List.map_nil, List.mem_cons, List.not_mem_nil, or_false] at m3
        simp (disch := first | omega | (simp only [lnx]; omega)) only [List.getElem?_set_ne, List.getElem?_set_self, List.length_set, ne_eq, not_false_eq_true]
      · show _ = some (ABlk.cells [cVal h (j + 1)] T.api_Errno)
        have : cVal h (j + 1) = .int .i64 0 := by
          simp [cVal, hw]
        rw [this, ← hkv]; simp (disch := first | omega | (simp only [lnx]; omega)) only [List.getElem?_set_ne, List.getElem?_set_self, List.length_set, ne_eq, not_false_eq_true]; exact q1
  · intro H' hl hkp hst hv
    have q1 := hv.get (c := H.length + 1) (T := T.api_Errno) (f := cVal h) (by simp)
    have hb : ∀ j, j < 3 → bads h j = false := fun j hj => by
      have := hst j hj
      unfold cStop at this
      split at this
      · cases this
      · rename_i hne; simpa using hne
    have h0 : checkOf h = 0 := by simp [checkOf, hb 0 (by omega), hb 1 (by omega), hb 2 (by omega)]
    have hc : cVal h 3 = .int .i64 0 := by simp [cVal, hb 2 (by omega)]
    rw [h0] at hq
    rw [hc] at q1
    refine run_V0 60 ?_
    simp (disch := first | omega | (simp only [lnx]; omega)) only [stdh, stdx, ↓reduceIte, seval, q1]
    have hkH : Keeps H H' := ⟨by omega, fun m hm => by rw [hkp m (by omega) (by simp; omega), hk.at_ m hm]⟩
    exact ice_keeps hkH trivial hq
  · intro ap j H' hl hkp hj hs hst hv
    have q1 := hv.get (c := H.length + 1) (T := T.api_Errno) (f := cVal h) (by simp)
    have hw : bads h j = true := by
      refine Classical.byContradiction fun hn => ?_
      simp only [cStop, if_neg hn] at hs
      cases hs
    simp only [cStop, hw, if_true] at hs
    cases hs
    have e1 : cVal h (j + 1) = .int .i64 (errs j : Nat) := by
      simp only [cVal, Nat.add_sub_cancel]; rw [if_pos ⟨by omega, hw⟩]
    have hb : ∀ i, i < j → bads h i = false := fun i hi => by
      have := hst i hi
      unfold cStop at this
      split at this
      · cases this
      · rename_i hne; simpa using hne
    have hc : checkOf h = errs j := by
      have h3 : j = 0 ∨ j = 1 ∨ j = 2 := by omega
      rcases h3 with rfl | rfl | rfl
      · simp [checkOf, hw, errs]
      · simp [checkOf, hb 0 (by omega), hw, errs]
      · simp [checkOf, hb 0 (by omega), hb 1 (by omega), hw, errs]
    rw [e1, ← hc] at q1
    refine run_V0 60 ?_
    simp (disch := first | omega | (simp only [lnx]; omega)) only [stdh, stdx, ↓reduceIte, seval, jumpItems, q1]
    have hkH : Keeps H H' := ⟨by omega, fun m hm => by rw [hkp m (by omega) (by simp; omega), hk.at_ m hm]⟩
    exact ice_keeps hkH trivial hq
end Go.Proofs.Ytamcfgdnhgmkpaa

namespace Go.Am
open Go
set_option linter.unusedVariables false

/-! ### A list in parts -/

def cntP (n r : Nat) : Nat := if n = 0 then 0 else (n - 1) / r + 1
def partP (r : Nat) (ys : List Nat) (j : Nat) : List Nat := (ys.drop (j * r)).take r
def partsP (r : Nat) (ys : List Nat) (k : Nat) : List (List Nat) := (List.range k).map (partP r ys)

theorem cntP_lt {n r j : Nat} (hr : 0 < r) : j < cntP n r ↔ j * r < n := by
  unfold cntP
  split
  · omega
  · rw [Nat.lt_succ_iff, Nat.le_div_iff_mul_le hr]; omega

theorem cntP_le {n r : Nat} (hr : 0 < r) : cntP n r ≤ n := by
  unfold cntP
  split
  · omega
  · have := Nat.div_le_self (n - 1) r
    omega

theorem cntP_pos {n r : Nat} (hn : 0 < n) : 1 ≤ cntP n r := by
  unfold cntP
  rw [if_neg (by omega)]; exact Nat.le_add_left 1 _

theorem cntP_ge {n r : Nat} (hr : 0 < r) : n ≤ cntP n r * r := by
  have := cntP_lt (n := n) (j := cntP n r) hr
  omega

theorem cntP_anti {n r s : Nat} (hr : 0 < r) (h : r ≤ s) : cntP n s ≤ cntP n r := by
  unfold cntP
  split
  · omega
  · have := Nat.div_le_div_left h hr (a := n - 1)
    omega

theorem partsP_len {r : Nat} {ys : List Nat} {k : Nat} : (partsP r ys k).length = k := by simp [partsP]

theorem partsP_succ {r : Nat} {ys : List Nat} {k : Nat} : partsP r ys (k + 1) = partsP r ys k ++ [partP r ys k] := by simp [partsP, List.range_succ]

theorem partsP_flat {r : Nat} {ys : List Nat} : ∀ k, (partsP r ys k).flatten = ys.take (k * r)
  | 0 => by simp [partsP]
  | k + 1 => by
    rw [partsP_succ, List.flatten_append, partsP_flat k, List.flatten_cons, List.flatten_nil, List.append_nil, partP, Nat.add_mul, Nat.one_mul, List.take_add]

theorem partsP_whole {r : Nat} {ys : List Nat} (hr : 0 < r) : (partsP r ys (cntP ys.length r)).flatten = ys := by
  rw [partsP_flat, List.take_of_length_le (cntP_ge hr)]

theorem partP_len {r : Nat} {ys : List Nat} {j : Nat} : (partP r ys j).length = min r (ys.length - j * r) := by simp [partP]

theorem partP_mem {r : Nat} {ys : List Nat} {j : Nat} {b : Nat} (h : b ∈ partP r ys j) : b ∈ ys := List.mem_of_mem_drop (List.mem_of_mem_take h)

theorem drop_parts {r : Nat} {ys : List Nat} {j : Nat} : (ys.drop (j * r)).drop (min r (ys.drop (j * r)).length) = ys.drop ((j + 1) * r) := by
  rw [List.drop_drop, List.length_drop, Nat.add_mul, Nat.one_mul]
  by_cases h : r ≤ ys.length - j * r
  · rw [Nat.min_eq_left h]
  · rw [Nat.min_eq_right (by omega), List.drop_eq_nil_of_le (by omega), List.drop_eq_nil_of_le (by omega)]

theorem take_parts {r : Nat} {ys : List Nat} {j : Nat} : (ys.drop (j * r)).take (min r (ys.drop (j * r)).length) = partP r ys j := by
  rw [partP, List.take_eq_take_iff]
  omega
end Go.Am

namespace Go.Proofs.Ytamcfgdnhgmkpaa
open Go Go.Am
set_option linter.unusedSimpArgs false
set_option linter.unusedVariables false

abbrev partsC : Ctx := ⟨F.cut_Parts_1, 32, [], none⟩

def partItem (r : Nat) (ys : List Nat) (j : Nat) : List AVal := [.int .i64 (j : Nat), nums .u8 false (partP r ys j)]

theorem min_room (a b : Nat) : (if (b : Int) < (a : Int) then (b : Int) else (a : Int)) = ((min a b : Nat) : Int) := by split <;> omega

theorem parts_loop {n r : Nat} (hr : 0 < r) {ys : List Nat} (hlen : ys.length ≤ 1000000) (hrl : r ≤ 1000000) {I : Bool → Nat → List Nat → AHeap → Prop} (hI : Fed Try.prog n (partItem r ys) (cntP ys.length r) I) (Q : AVal → AHeap → Prop) {H0 : AHeap} {fp0 : List Nat} {p q : Nat} (hpq : p ≠ q) (hp0 : p < H0.length) (hq0 : q < H0.length)
    (hQ : ∀ b j fp H, H0.length ≤ H.length → (∀ m, m < H0.length → m ∉ fp0 → m ∉ [p, q] → H[m]? = H0[m]?) → (b = true → j = cntP ys.length r) → I b j fp H → Q (.tup []) H) :
    ∀ (m j : Nat) (H : AHeap) (fp : List Nat) (t : Bool), j + m = cntP ys.length r → H0.length ≤ H.length → (∀ m, m < H0.length → m ∉ fp0 → m ∉ [p, q] → H[m]? = H0[m]?) → (∀ m ∈ fp, m ∈ fp0 ∨ H0.length ≤ m) → p ∉ fp → q ∉ fp →
    H[p]? = some (.cells [nums .u8 t (ys.drop (j * r))] T.sl_uint8) → H[q]? = some (.cells [.int .i64 (r : Nat)] T.int) → I true j fp H →
    Rounds Try.prog partsC cut_Parts_1.b0 [.inBlock 0] [] [(0, .yld n), (1, .ptr p 0), (2, .ptr q 0), (4, .int .i64 (j : Nat))] H Q
  | 0, j, H, fp, t, h1, hle, hkp, hfp, hpf, hqf, hp, hq, hi => by
    refine loop_V 100 cut_Parts_1.b0.eq_1 ?_
    have hz : ys.drop (j * r) = [] := List.drop_eq_nil_of_le (by have := cntP_ge (n := ys.length) hr; rw [show j = cntP ys.length r by omega]; exact this)
    rw [hz] at hp
    simp (disch := first | omega | (simp only [lnx]; omega)) only [stdh, stdx, ↓reduceIte, seval, hp, hq]
    refine run_fin rfl rfl trivial ?_
    exact hQ true j fp H hle hkp (fun _ => by omega) hi
  | m + 1, j, H, fp, t, h1, hle, hkp, hfp, hpf, hqf, hp, hq, hi => by
    refine rounds_closed fun hcH hcr => ?_
    have hn : n < H.length := hcr 0
    have hjl : j < cntP ys.length r := by omega
    have hjb := cntP_le (n := ys.length) hr
    have hpos : 0 < (ys.drop (j * r)).length := by
      have := (cntP_lt (n := ys.length) (j := j) hr).1 hjl
      rw [List.length_drop]; omega
    have htp := take_parts (r := r) (ys := ys) (j := j)
    have hdp := drop_parts (r := r) (ys := ys) (j := j)
    have hdl : (ys.drop (j * r)).length ≤ 1000000 := by rw [List.length_drop]; omega
    have hpl := partP_len (r := r) (ys := ys) (j := j)
    have hml : (partP r ys j).length = min r (ys.drop (j * r)).length := by rw [hpl, List.length_drop]
    generalize hds : ys.drop (j * r) = ds at *
    have hplt : p < H.length := by omega
    have hqlt : q < H.length := by omega
    obtain ⟨pp, a1, hpp⟩ := Own.append3 (H := H ++ [.vec [] T.uint8 1]) (w := 1) (el := T.uint8) (B := 0) (a := .slc H.length 0 0 1) (n := 0) (cs := []) ⟨rfl, .inr ⟨H.length, by omega, rfl, at_0⟩⟩ (x := nums .u8 true (partP r ys j)) (k := (partP r ys j).length) (ys := w8s (partP r ys j)) 1 rfl rfl (by simp [w8s]) (by omega) (by omega) (by omega) (w8s_cellish _)
    simp only [killA, set_0, List.nil_append, Nat.zero_add, List.set_cons_zero] at a1
    refine loop_V 34 cut_Parts_1.b0.eq_1 ?_
    simp (disch := first | omega | (simp only [lnx]; omega)) only [stdh, stdx, ↓reduceIte, seval, hp, hq, min_room, htp, at_low, a1, hpp]
    rw [show H ++ [ABlk.dead, ABlk.vec (w8s (partP r ys j)) T.uint8 1] = (H ++ [ABlk.dead]) ++ [ABlk.vec (w8s (partP r ys j)) T.uint8 1] by simp]
    have hcs : closeds (H ++ [ABlk.dead]).length (w8s (partP r ys j)) := closeds_ints _ _
    refine runL_iceLast (ClosedH.push hcH trivial) hcs (by intro x hx; cases hx) ?_
    have hlen1 : (H ++ [ABlk.dead]).length = H.length + 1 := by simp
    rw [hlen1]
    have hmv : mv (iceF (H.length + 1) (w8s (partP r ys j))) (.slc (H.length + 1) 0 (partP r ys j).length 1) = nums .u8 false (partP r ys j) := mv_iceAt (by simp [w8s])
    simp (disch := omega) only [mvRegs_cons, mvRegs_nil, mvI_ptr, mvI_yld, mvI_slc, mvI_int, mv_nums, hmv]
    refine runL_V 60 ?_
    have hi' : I true j fp (H ++ [ABlk.dead, ABlk.dead]) := (hI.foot true j).stable fp H _ hi (by simp) (fun x hx => at_low ((hI.foot true j).lt fp H hi x hx))
    simp (disch := first | omega | (simp only [lnx]; omega)) only [stdh, stdx, ↓reduceIte, seval]
    refine CallV.mono (hI.step j fp _ hjl hi') fun av H1 hh => ?_
    obtain ⟨fp', ht, hh⟩ := hh
    have hle1 := ht.le
    rw [List.length_append] at hle1
    simp only [List.length_cons, List.length_nil] at hle1
    have hp1 : H1[p]? = some (.cells [nums .u8 t ds] T.sl_uint8) := by
      rw [ht.kept p (by simp; omega) hpf, at_low hplt]; exact hp
    have hq1 : H1[q]? = some (.cells [.int .i64 (r : Nat)] T.int) := by
      rw [ht.kept q (by simp; omega) hqf, at_low hqlt]; exact hq
    have hfp1 : ∀ m ∈ fp', m ∈ fp0 ∨ H0.length ≤ m := fun x hx => by
      rcases ht.feet x hx with h | h
      · exact hfp x h
      · right; simp at h; omega
    have hpf1 : p ∉ fp' := fun hx => by
      rcases ht.feet p hx with h | h
      · exact hpf h
      · simp at h; omega
    have hqf1 : q ∉ fp' := fun hx => by
      rcases ht.feet q hx with h | h
      · exact hqf h
      · simp at h; omega
    have hkp1 : ∀ m, m < H0.length → m ∉ fp0 → m ∉ [p, q] → H1[m]? = H0[m]? := fun x h1 h2 h3 => by
      have hxf : x ∉ fp := fun hx => by
        rcases hfp x hx with h | h
        · exact h2 h
        · omega
      rw [ht.kept x (by simp; omega) hxf, at_low (by omega)]
      exact hkp x h1 h2 h3
    refine runL_V 60 ?_
    rcases hh with ⟨rfl, hi1⟩ | ⟨rfl, hi1⟩
    · simp (disch := first | omega | (simp only [lnx]; omega)) only [stdh, stdx, ↓reduceIte, seval, hp1]
      have hst : (ds.drop (min r ds.length)) = ys.drop ((j + 1) * r) := hdp
      rw [hst]
      refine parts_loop hr hlen hrl hI Q hpq hp0 hq0 hQ m (j + 1) (H1.set p (.cells [nums .u8 t (ys.drop ((j + 1) * r))] T.sl_uint8)) fp' t (by omega) (by simp; omega) ?_ hfp1 hpf1 hqf1 ?_ ?_ ?_
      · intro x h1 h2 h3
        rw [List.getElem?_set_ne (fun e => h3 (by simp [e])), hkp1 x h1 h2 h3]
      · rw [List.getElem?_set_self (by omega)]
      · rw [List.getElem?_set_ne hpq]; exact hq1
      · exact (hI.foot true (j + 1)).stable fp' H1 _ hi1 (by simp) fun x hx => List.getElem?_set_ne (fun e => hpf1 (by subst e; exact hx))
    · simp (disch := first | omega | (simp only [lnx]; omega)) only [stdh, stdx, ↓reduceIte, seval]
      exact hQ false (j + 1) fp' H1 (by omega) hkp1 (fun e => by cases e) hi1

theorem parts_iter {H : AHeap} {n r p q : Nat} (hr : 0 < r) (hrl : r ≤ 1000000) {ys : List Nat} (hlen : ys.length ≤ 1000000) {t : Bool} (hpq : p ≠ q) (hp : H[p]? = some (.cells [nums .u8 t ys] T.sl_uint8)) (hq : H[q]? = some (.cells [.int .i64 (r : Nat)] T.int)) :
    IterO Try.prog F.cut_Parts_1 [.yld n, .ptr p 0, .ptr q 0] n (partItem r ys) (cntP ys.length r) [p, q] H := by
  intro I hI fp hi hown
  refine fun_V 100 cut_Parts_1_code rfl ?_
  simp (disch := first | omega | (simp only [lnx]; omega)) only [stdh, stdx, ↓reduceIte, seval, cut_Parts_1, cut_Parts_1.body]
  have hpl : p < H.length := (List.getElem?_eq_some_iff.1 hp).1
  have hql : q < H.length := (List.getElem?_eq_some_iff.1 hq).1
  refine parts_loop hr hlen hrl hI _ hpq hpl hql ?_ (cntP ys.length r) 0 H fp t (by omega) (Nat.le_refl _) (fun _ _ _ _ => rfl) (fun x hx => .inl hx) (hown p (by simp)) (hown q (by simp)) (by simpa using hp) hq hi
  intro b j fp' H' h1 h2 h3 h4
  exact ⟨b, j, fp', h1, h2, h3, h4⟩

theorem parts_ok (H : AHeap) {t : Bool} {ys : List Nat} {z : Int} (Q : AVal → AHeap → Prop) (h : Q (.fn F.cut_Parts_1 [] [.ptr H.length 0, .ptr (H.length + 1) 0]) (H ++ [.cells [nums .u8 t ys] T.sl_uint8, .cells [.int .i64 z] T.int])) :
    FunOK Try.prog F.cut_Parts [nums .u8 t ys, .int .i64 z] H Q := by
  refine fun_V 60 cut_Parts_code rfl ?_
  simp (disch := first | omega | (simp only [lnx]; omega)) only [stdh, stdx, ↓reduceIte, seval, cut_Parts, cut_Parts.body]
  exact h

theorem count_ok (H : AHeap) {n r : Nat} (hn : 0 < n) (hr : 0 < r) (hnl : n ≤ 1000000) (hrl : r ≤ 1000000) (Q : AVal → AHeap → Prop) (h : Q (.int .i64 (cntP n r : Nat)) H) : FunOK Try.prog F.cut_Count [.int .i64 (n : Nat), .int .i64 (r : Nat)] H Q := by
  refine fun_V 60 cut_Count_code rfl ?_
  have e : ((n : Int) - 1).tdiv (r : Int) = (((n - 1) / r : Nat) : Int) := by
    rw [show (n : Int) - 1 = ((n - 1 : Nat) : Int) by omega, Int.tdiv_eq_ediv_of_nonneg (by omega)]; rfl
  have hle : (n - 1) / r ≤ n - 1 := Nat.div_le_self _ _
  have hc : cntP n r = (n - 1) / r + 1 := by unfold cntP; rw [if_neg (by omega)]
  rw [hc] at h
  generalize (n - 1) / r = x at *
  simp (disch := first | omega | (simp only [lnx]; omega)) only [stdh, stdx, ↓reduceIte, seval, cut_Count, cut_Count.body, e]
  exact h
set_option linter.unusedSimpArgs false
set_option linter.unusedVariables false

def hdAt (h : Hd) (i c : Int) : Hd := { h with i := i, c := c }
def frAt (h : Hd) (ys : List Nat) (r j : Nat) : Fr := ⟨hdAt h (j : Nat) (cntP ys.length r : Nat), partP r ys j⟩
def framesN (h : Hd) (ys : List Nat) (r k : Nat) : List Fr := (List.range k).map (frAt h ys r)
def frameErr (h : Hd) (ys : List Nat) (room : Int) : Nat :=
  if ys.length = 0 then 13 else if 192 < ys.length then 2 else if room < 1 ∨ 242 < room then 5 else checkOf (hdAt h 0 (cntP ys.length room.toNat : Nat))
def framesOf (h : Hd) (ys : List Nat) (room : Int) : List Fr := if frameErr h ys room = 0 then framesN h ys room.toNat (cntP ys.length room.toNat) else []

theorem framesN_len {h : Hd} {ys : List Nat} {r k : Nat} : (framesN h ys r k).length = k := by simp [framesN]
theorem framesN_succ {h : Hd} {ys : List Nat} {r k : Nat} : framesN h ys r (k + 1) = framesN h ys r k ++ [frAt h ys r k] := by simp [framesN, List.range_succ]
theorem enc_flat_append (xs : List Fr) (f : Fr) : (xs ++ [f]).flatMap encFr = xs.flatMap encFr ++ encFr f := by simp [List.flatMap_append]
theorem encFr_cellish (f : Fr) : (encFr f).all AVal.cellish = true := rfl
theorem encFr_closed {L : Nat} (f : Fr) : closeds L (encFr f) := by simp [encFr, closeds, closed, closed_nums]
theorem flat_closed {L : Nat} : ∀ (fs : List Fr), closeds L (fs.flatMap encFr)
  | [] => trivial
  | f :: fs => by rw [List.flatMap_cons]; exact closeds_append (encFr_closed f) (flat_closed fs)

abbrev frC : Ctx := ⟨F.cut_Frames, 52, [.tmp 6, .tmp 7], none⟩

def frHead (h : Hd) (c : Nat) (j : Nat) : List AVal := [.int .i64 h.v, .int .i64 h.k, .int .u32 h.s, .int .i64 ((j - 1 : Nat) : Int), .int .i64 (c : Nat)]

theorem frames_ok (H : AHeap) (h : Hd) {ys : List Nat} (hlen : ys.length ≤ 1000) {room : Int} (hroom : -9223372036854775808 ≤ room ∧ room < 9223372036854775808) (Q : AVal → AHeap → Prop)
    (hq : Q (.tup [recs encFr false (framesOf h ys room), .int .i64 (frameErr h ys room : Nat)]) H) :
    FunOK Try.prog F.cut_Frames [.agg (encHd h), nums .u8 false ys, .int .i64 room] H Q := by
  refine fun_iced cut_Frames_code fun _ => ?_
  refine fun_V 100 cut_Frames_code rfl ?_
  have hnil : ∀ (H' : AHeap) (e : Nat), Keeps H H' → frameErr h ys room = e → e ≠ 0 → IceQ H Q (.tup [.nils, .int .i64 (e : Nat)]) H' := fun H' e hk he h0 => by
    rw [framesOf, if_neg (by omega), he] at hq
    exact ice_tup [(.nils, .imm [] 0 false), (.int .i64 e, .int .i64 e)] hk (by
      intro p hp
      simp only [List.mem_cons, List.not_mem_nil, or_false] at hp
      rcases hp with rfl | rfl
      · exact Fin.own (w := 1) (el := 0) Own.nil trivial
      · exact Fin.same trivial) hq
  by_cases c0 : ys.length = 0
  · have he : frameErr h ys room = 13 := by unfold frameErr; rw [if_pos c0]
    simp (disch := first | omega | (simp only [lnx]; omega)) only [stdh, stdx, ↓reduceIte, seval, cut_Frames, cut_Frames.body, encHd, c0]
    exact hnil _ 13 (keeps_append _ _) he (by omega)
  by_cases c1 : 192 < ys.length
  · have he : frameErr h ys room = 2 := by unfold frameErr; rw [if_neg c0, if_pos c1]
    simp (disch := first | omega | (simp only [lnx]; omega)) only [stdh, stdx, ↓reduceIte, seval, cut_Frames, cut_Frames.body, encHd]
    exact hnil _ 2 (keeps_append _ _) he (by omega)
  by_cases c2 : room < 1
  · have he : frameErr h ys room = 5 := by unfold frameErr; rw [if_neg c0, if_neg c1, if_pos (.inl c2)]
    simp (disch := first | omega | (simp only [lnx]; omega)) only [stdh, stdx, ↓reduceIte, seval, cut_Frames, cut_Frames.body, encHd]
    exact hnil _ 5 (keeps_append _ _) he (by omega)
  by_cases c3 : 242 < room
  · have he : frameErr h ys room = 5 := by unfold frameErr; rw [if_neg c0, if_neg c1, if_pos (.inr c3)]
    simp (disch := first | omega | (simp only [lnx]; omega)) only [stdh, stdx, ↓reduceIte, seval, cut_Frames, cut_Frames.body, encHd]
    exact hnil _ 5 (keeps_append _ _) he (by omega)
  obtain ⟨r, rfl⟩ : ∃ r : Nat, room = r := ⟨room.toNat, by omega⟩
  have he : frameErr h ys (r : Int) = checkOf (hdAt h 0 (cntP ys.length r : Nat)) := by unfold frameErr; rw [if_neg c0, if_neg c1, if_neg (by omega), Int.toNat_natCast]
  simp (disch := first | omega | (simp only [lnx]; omega)) only [stdh, stdx, ↓reduceIte, seval, cut_Frames, cut_Frames.body, encHd]
  refine callK_fn (count_ok _ (by omega) (by omega) (by omega) (by omega) _ ?_)
  refine runL_V 60 ?_
  have hcl := cntP_le (n := ys.length) (show 0 < r by omega)
  have hiter : ∀ (H1 : AHeap) (n p q : Nat), p ≠ q → H1[p]? = some (.cells [nums .u8 false ys] T.sl_uint8) → H1[q]? = some (.cells [.int .i64 (r : Nat)] T.int) → IterO Try.prog F.cut_Parts_1 [.yld n, .ptr p 0, .ptr q 0] n (partItem r ys) (cntP ys.length r) [p, q] H1 := fun H1 n p q a b c => parts_iter (by omega) (by omega) (by omega) a b c
  have hfo : frameErr h ys (r : Int) = 0 → framesOf h ys (r : Int) = framesN h ys r (cntP ys.length r) := fun e => by unfold framesOf; rw [if_pos e, Int.toNat_natCast]
  have hfs : ∀ k, framesN h ys r (k + 1) = framesN h ys r k ++ [⟨hdAt h (k : Nat) (cntP ys.length r : Nat), partP r ys k⟩] := fun k => framesN_succ
  generalize hc : cntP ys.length r = c at *
  simp (disch := first | omega | (simp only [lnx]; omega)) only [stdh, stdx, ↓reduceIte, seval]
  refine callK_fn (check_ok _ (hdAt h 0 (c : Nat)) _ ?_)
  refine runL_V 60 ?_
  rw [← he]
  by_cases hz : frameErr h ys (r : Int) = 0
  · rw [hfo hz] at hq
    rw [hz] at hq ⊢
    simp (disch := first | omega | (simp only [lnx]; omega)) only [stdh, stdx, ↓reduceIte, seval]
    refine callK_fn (parts_ok _ _ ?_)
    refine runL_V 60 ?_
    simp (disch := first | omega | (simp only [lnx]; omega)) only [stdh, stdx, ↓reduceIte, seval]
    rw [show H.length + 2 + 1 = H.length + 3 by omega]
    generalize hH2 : H ++ [ABlk.cells [.int .i64 h.v, .int .i64 h.k, .int .u32 h.s, .int .i64 0, .int .i64 (c : Nat)] T.head_Head, .cells [.nils] T.sl_frame_Frame, .cells [nums .u8 false ys] T.sl_uint8, .cells [.int .i64 (r : Nat)] T.int] = H2
    have g0 : H2[H.length]? = some (.cells (frHead h c 0) T.head_Head) := by rw [← hH2]; exact at_0
    have g1 : H2[H.length + 1]? = some (.cells [.nils] T.sl_frame_Frame) := by rw [← hH2]; exact at_k
    have g2 : H2[H.length + 2]? = some (.cells [nums .u8 false ys] T.sl_uint8) := by rw [← hH2]; exact at_k
    have g3 : H2[H.length + 3]? = some (.cells [.int .i64 (r : Nat)] T.int) := by rw [← hH2]; exact at_k
    have hk2 : Keeps H H2 := by rw [← hH2]; exact keeps_append _ _
    have hl2 : H2.length = H.length + 4 := by rw [← hH2]; simp
    clear hH2
    have hlen : ∀ j, (framesN h ys r j).length = j := fun j => framesN_len
    have hcl2 : c ≤ 1000 := by omega
    refine range_accO (g := F.cut_Parts_1) (first := []) (captured := [.ptr (H.length + 2) 0, .ptr (H.length + 3) 0]) rfl (by intro n hn; cases hn) (item := partItem r ys) (len := c) (fun j => rfl) [(H.length, T.head_Head, frHead h c)] ⟨H.length + 1, T.sl_frame_Frame, 6, T.frame_Frame, H.length, fun j => j, fun j => (framesN h ys r j).flatMap encFr⟩ (fun _ => none) (a0 := .nils) (varsN_cons g0 varsN_nil) ⟨g1, Own.nil⟩ [H.length + 2, H.length + 3] ?_ ?_ ?_ ?_ (fun _ _ _ _ _ _ _ hh => by cases hh)
    · intro m hm
      simp only [List.mem_cons, List.not_mem_nil, or_false] at hm
      refine ⟨by omega, ?_, ?_, by simp [AVal.names]⟩
      · simp only [List.map_cons, List.map_nil, List.mem_cons, List.not_mem_nil, or_false]; omega
      · show m ≠ H.length + 1; omega
    · intro a' b' j H1 a hj _ hl hkp hrec hv ha
      have q0 : H1[H.length]? = some (.cells (frHead h c j) T.head_Head) := hv.get (by simp)
      have q1 : H1[H.length + 1]? = some (.cells [a] T.sl_frame_Frame) := ha.1
      have o1 : Own 6 T.frame_Frame H.length H1 a j ((framesN h ys r j).flatMap encFr) := ha.2
      refine run_V0 100 ?_
      have hrn := o1.ne_loop hrec
      have hne0 := o1.ne q0
      have hne1 := o1.ne q1
      simp (disch := first | omega | (simp only [lnx]; omega)) only [stdh, stdx, ↓reduceIte, seval, cut_Frames.a0, cut_Frames.b0, hrec, q0, q1, frHead, partItem, List.zip_cons_cons, List.zip_nil_left, List.reverse_cons, List.reverse_nil, List.getElem?_set_self, List.getElem?_set_ne, at_low]
      have hl1 : H.length < H1.length := by omega
      have hnm : ∀ m ∈ a.names, m < H1.length ∧ m ≠ H2.length ∧ m ≠ H.length ∧ m ≠ H.length + 1 := fun m hm => ⟨(o1.lt m hm).2, fun e => hrn (e ▸ hm), fun e => hne0 (e ▸ hm), fun e => hne1 (e ▸ hm)⟩
      refine resK_append (k := 1) (ys := encFr (⟨hdAt h (j : Nat) (c : Nat), partP r ys j⟩ : Fr)) (o1.moved fun m hm => ?_) (by simp; omega) rfl ?_ rfl (by omega) (by omega) (by omega) (encFr_cellish _) fun v H3 ov ht hn => ?_
      · obtain ⟨m1, m2, m3, m4⟩ := hnm m hm
        rw [at_low (by simp; omega), List.getElem?_set_ne (fun e => m3 e.symm), List.getElem?_set_ne (fun e => m2 e.symm)]
      · simp only [srcCells, view]
        rw [List.getElem?_append_right (by simp)]
        simp [content, encFr, hdAt]
      have hle3 := ht.le
      simp only [List.length_append, List.length_set, List.length_cons, List.length_nil] at hle3
      have hkept : ∀ m, m < H1.length → m ∉ a.names → m ≠ H2.length → m ≠ H.length → H3[m]? = H1[m]? := fun m a1 a2 a3 a4 => by
        rw [ht.kept m (by simp; omega) a2, at_low (by simp; omega), List.getElem?_set_ne (fun e => a4 e.symm), List.getElem?_set_ne (fun e => a3 e.symm)]
      have hc1 : H3[H.length + 1]? = some (.cells [a] T.sl_frame_Frame) := by
        rw [hkept _ (by omega) hne1 (by omega) (by omega)]; exact q1
      have hc0 : H3[H.length]? = some (.cells (frHead h c (j + 1)) T.head_Head) := by
        rw [ht.kept _ (by simp; omega) hne0, at_low (by simp; omega), List.getElem?_set_self (by simp; omega)]
        simp [frHead]
      have hr3 : H3[H2.length]? = some (.loop (lrec ⟨F.cut_Frames, 52, [.tmp 6, .tmp 7], none⟩ [(3, .ptr H.length 0), (6, .nils), (7, .int .i64 0), (9, .ptr (H.length + 1) 0), (40, .fn F.cut_Parts_1 [] [.ptr (H.length + 2) 0, .ptr (H.length + 3) 0])] [41, 42] a' b' .busy none)) := by
        rw [ht.kept _ (by simp; omega) hrn, at_low (by simp; omega), List.getElem?_set_ne (by omega), List.getElem?_set_self (by omega)]
        rfl
      have hcl := ov.cell
      simp (disch := first | omega | (simp only [lnx]; omega)) only [stdh, stdx, ↓reduceIte, seval, hc1, hcl.1, hcl.2]
      refine round_fin (n := H2.length) rfl (by rw [List.getElem?_set_ne (by omega)]; exact hr3) ?_
      refine ⟨by simp; omega, fun m m1 m2 m3 m4 m5 => ?_, varsN_cons ?_ varsN_nil, ⟨v, ⟨?_, ?_⟩, fun m hm => .inr ?_⟩, rfl, ?_⟩
      · have m4' : m ≠ H.length + 1 := m4
        simp only [List.map_cons, List.map_nil, List.mem_cons, List.not_mem_nil, or_false] at m3
        rw [List.getElem?_set_ne (fun e => m2 e.symm), List.getElem?_set_ne (fun e => m4' e.symm), hkept m m1 m5 m2 m3]
      · rw [List.getElem?_set_ne (by omega), List.getElem?_set_ne (by omega)]; exact hc0
      · show (List.set (List.set H3 (H.length + 1) _) H2.length _)[H.length + 1]? = _
        rw [List.getElem?_set_ne (by omega), List.getElem?_set_self (by omega)]
      · show Own 6 T.frame_Frame H.length _ v (j + 1) ((framesN h ys r (j + 1)).flatMap encFr)
        rw [hfs, enc_flat_append]
        refine ov.moved fun m hm => ?_
        have := hn m hm
        simp only [List.length_append, List.length_set, List.length_cons, List.length_nil] at this
        rw [List.getElem?_set_ne (by omega), List.getElem?_set_ne (by omega)]
      · have := hn m hm
        simp only [List.length_append, List.length_set, List.length_cons, List.length_nil] at this; omega
      · rw [List.getElem?_set_self (by simp; omega)]; rfl
    · intro H1 h1 h2
      exact hiter H1 _ _ _ (by omega) ((h2 _ (by omega)).trans g2) ((h2 _ (by omega)).trans g3)
    · intro H' a hl hkp hst hv ha
      have q1 : H'[H.length + 1]? = some (.cells [a] T.sl_frame_Frame) := ha.1
      have o1 : Own 6 T.frame_Frame H.length H' a c ((framesN h ys r c).flatMap encFr) := ha.2
      refine run_V0 60 ?_
      simp (disch := first | omega | (simp only [lnx]; omega)) only [stdh, stdx, ↓reduceIte, seval, q1]
      have hkH : Keeps H H' := ⟨by omega, fun m hm => by
        rw [hkp m (by omega) (by simp; omega) (by show m ≠ H.length + 1; omega) (by simp [AVal.names]) (by simp; omega), hk2.at_ m hm]⟩
      exact ice_tup [(a, recs encFr false (framesN h ys r c)), (.int .i64 0, .int .i64 0)] hkH (by
        intro p hp
        simp only [List.mem_cons, List.not_mem_nil, or_false] at hp
        rcases hp with rfl | rfl
        · have := Fin.own o1 (flat_closed _)
          rw [recs, hlen]; exact this
        · exact Fin.same trivial) hq
  · simp (disch := first | omega | (simp only [lnx]; omega)) only [stdh, stdx, ↓reduceIte, seval]
    exact hnil _ _ (keeps_append _ _) rfl hz
end Go.Proofs.Ytamcfgdnhgmkpaa
