/-
  Lemmas on the way to the statements of this seat. By an AI agent. No person has read it.
-/
import Derived.Test.YtamcfgdnhgmkpaaCode
import Derived.Test.YtamcfgdnhgmkpaaAm6
set_option linter.unusedSimpArgs false
set_option linter.unusedVariables false

namespace Go.Proofs.Ytamcfgdnhgmkpaa
open Go Go.Am
set_option linter.unusedSimpArgs false
set_option linter.unusedVariables false

def sizeOf (n : Nat) : Nat := if h : n < 128 then 1 else 1 + sizeOf (n / 128)
  termination_by n

theorem sizeOf_lt {n : Nat} (h : n < 128) : sizeOf n = 1 := by rw [sizeOf, dif_pos h]
theorem sizeOf_ge {n : Nat} (h : ¬ n < 128) : sizeOf n = 1 + sizeOf (n / 128) := by rw [sizeOf, dif_neg h]

theorem sizeOf_le : ∀ (k n : Nat), n < 128 ^ (k + 1) → sizeOf n ≤ k + 1
  | 0, n, h => by rw [sizeOf_lt (by simpa using h)]; omega
  | k + 1, n, h => by
    by_cases hn : n < 128
    · rw [sizeOf_lt hn]; omega
    · rw [sizeOf_ge hn]
      have := sizeOf_le k (n / 128) (by rw [Nat.pow_succ] at h; exact Nat.div_lt_of_lt_mul (by rw [Nat.mul_comm]; exact h))
      omega
theorem sizeOf_le10 {n : Nat} (h : n < 18446744073709551616) : sizeOf n ≤ 10 := sizeOf_le 9 n (by omega)
theorem sizeOf_pos (n : Nat) : 1 ≤ sizeOf n := by
  by_cases hn : n < 128
  · rw [sizeOf_lt hn]; omega
  · rw [sizeOf_ge hn]; omega
set_option linter.unusedSimpArgs false
set_option linter.unusedVariables false

abbrev sameC : Ctx := ⟨F.cuneiformref01_Same, 26, [.tmp 4], none⟩

theorem same_loop (T : List AItem) (H : AHeap) (Q : AVal → AHeap → Prop) {a b : AVal} {xs ys : List Nat} (ha : Nats .u8 H a xs) (hb : Nats .u8 H b ys) (hl : xs.length = ys.length) (hm : xs.length < 9223372036854775808) :
    ∀ (m i : Nat), xs.length - i = m → i ≤ xs.length → (xs.drop i = ys.drop i → ∀ r', Run Try.prog sameC T r' H Q) → (xs.drop i ≠ ys.drop i → Q (.bool false) H) →
    Rounds Try.prog sameC cuneiformref01_Same.b1 [.inBlock 0] T [(0, a), (1, b), (5, .int .i64 i)] H Q
  | m, i, h1, h2, h3, h4 => by
    refine loop_V 200 cuneiformref01_Same.b1.eq_1 ?_
    by_cases hi : i < xs.length
    · have hxi : xs.drop i = xs.getD i 0 :: xs.drop (i + 1) := by
        rw [List.drop_eq_getElem_cons hi]; simp [hi]
      have hyi : ys.drop i = ys.getD i 0 :: ys.drop (i + 1) := by
        rw [List.drop_eq_getElem_cons (by omega : i < ys.length)]; simp [show i < ys.length by omega]
      by_cases he : xs.getD i 0 = ys.getD i 0
      · have he' : ((xs.getD i 0 : Nat) : Int) = ((ys.getD i 0 : Nat) : Int) := by rw [he]
        simp (disch := omega) only [std, stdx, ↓reduceIte, seval, ha.len, hb.len, ha.isSome, hb.isSome, cuneiformref01_Same.d0, ha.load, hb.load, he']
        refine same_loop T H Q ha hb hl hm (xs.length - (i + 1)) (i + 1) rfl (by omega) (fun h => h3 (by rw [hxi, hyi, he, h])) (fun h => h4 (by rw [hxi, hyi, he]; simpa using h))
      · have he' : ((xs.getD i 0 : Nat) : Int) ≠ ((ys.getD i 0 : Nat) : Int) := by omega
        simp (disch := omega) only [std, stdx, ↓reduceIte, seval, ha.len, hb.len, ha.isSome, hb.isSome, cuneiformref01_Same.d0, ha.load, hb.load, he']
        exact h4 (by rw [hxi, hyi]; intro h; exact he (List.cons.inj h).1)
    · simp (disch := omega) only [std, stdx, ↓reduceIte, seval, ha.len, hb.len]
      exact h3 (by rw [List.drop_eq_nil_of_le (by omega), List.drop_eq_nil_of_le (by omega)]) _
  termination_by m => m

theorem same_ok (H : AHeap) {a b : AVal} {xs ys : List Nat} (ha : Nats .u8 H a xs) (hb : Nats .u8 H b ys) (hm : xs.length < 9223372036854775808) (Q : AVal → AHeap → Prop) (h : Q (.bool (decide (xs = ys))) H) : FunOK Try.prog F.cuneiformref01_Same [a, b] H Q := by
  refine fun_V 100 cuneiformref01_Same_code rfl ?_
  by_cases hl : xs.length = ys.length
  · simp (disch := omega) only [std, stdx, ↓reduceIte, seval, cuneiformref01_Same, cuneiformref01_Same.body, ha.len, hb.len, hl]
    refine same_loop _ H Q ha hb hl hm _ 0 rfl (by omega) ?_ ?_
    · intro he r'
      refine run_V 100 ?_
      simp (disch := omega) only [std, stdx, ↓reduceIte, seval]
      simpa [show xs = ys by simpa using he] using h
    · intro he
      simpa [show xs ≠ ys by simpa using he] using h
  · simp (disch := omega) only [std, stdx, ↓reduceIte, seval, cuneiformref01_Same, cuneiformref01_Same.body, ha.len, hb.len]
    simpa [show xs ≠ ys by intro he; exact hl (by rw [he])] using h
set_option linter.unusedSimpArgs false
set_option linter.unusedVariables false

/-- A head. -/
structure Hd where
  v : Int
  k : Int
  s : Int
  i : Int
  c : Int

def encHd (h : Hd) : List AVal := [.int .i64 h.v, .int .i64 h.k, .int .u32 h.s, .int .i64 h.i, .int .i64 h.c]

/-- A frame. -/
structure Fr where
  h : Hd
  b : List Nat

def encFr (f : Fr) : List AVal := [.int .i64 f.h.v, .int .i64 f.h.k, .int .u32 f.h.s, .int .i64 f.h.i, .int .i64 f.h.c, nums .u8 false f.b]
theorem encFr_len (f : Fr) : (encFr f).length = 6 := rfl

instance : Inhabited Hd := ⟨⟨0, 0, 0, 0, 0⟩⟩
instance : Inhabited Fr := ⟨⟨default, []⟩⟩

def mates (a b : Hd) : Bool := decide (a.v = b.v) && (decide (a.k = b.k) && (decide (a.s = b.s) && decide (a.c = b.c)))

theorem mates_ok (H : AHeap) (a b : Hd) (Q : AVal → AHeap → Prop) (h : Q (.bool (mates a b)) H) : FunOK Try.prog F.head_Mates [.agg (encHd a), .agg (encHd b)] H Q := by
  refine fun_iced head_Mates_code fun _ => ?_
  refine fun_V 100 head_Mates_code rfl ?_
  simp (disch := first | omega | (simp only [lnx]; omega)) only [stdh, stdx, ↓reduceIte, seval, head_Mates, head_Mates.body, encHd, eqA, eqCells, eqCell]
  refine ice_none trivial ?_
  have : (decide (a.v = b.v) && (decide (a.k = b.k) && (decide (a.s = b.s) && (decide (b.i = b.i) && (decide (a.c = b.c) && true))))) = mates a b := by simp [mates]
  first | exact h | (rw [← this] at h; exact h) | (simpa [mates] using h)

theorem rmates_ok (H : AHeap) (a b : Hd) (Q : AVal → AHeap → Prop) (h : Q (.bool (mates a b)) H) : FunOK Try.prog F.cuneiformref12_Mates [.agg (encHd a), .agg (encHd b)] H Q := by
  refine fun_iced cuneiformref12_Mates_code fun _ => ?_
  refine fun_V 100 cuneiformref12_Mates_code rfl ?_
  unfold mates at h
  by_cases h1 : a.v = b.v
  · by_cases h2 : a.k = b.k
    · by_cases h3 : a.s = b.s
      · simp (disch := first | omega | (simp only [lnx]; omega)) only [stdh, stdx, ↓reduceIte, seval, cuneiformref12_Mates, cuneiformref12_Mates.body, encHd, h1, h2, h3]
        exact ice_none trivial (by simpa [h1, h2, h3] using h)
      · simp (disch := first | omega | (simp only [lnx]; omega)) only [stdh, stdx, ↓reduceIte, seval, cuneiformref12_Mates, cuneiformref12_Mates.body, encHd, h1, h2, h3]
        exact ice_none trivial (by simpa [h1, h2, h3] using h)
    · simp (disch := first | omega | (simp only [lnx]; omega)) only [stdh, stdx, ↓reduceIte, seval, cuneiformref12_Mates, cuneiformref12_Mates.body, encHd, h1, h2]
      exact ice_none trivial (by simpa [h1, h2] using h)
  · simp (disch := first | omega | (simp only [lnx]; omega)) only [stdh, stdx, ↓reduceIte, seval, cuneiformref12_Mates, cuneiformref12_Mates.body, encHd, h1]
    exact ice_none trivial (by simpa [h1] using h)

theorem of_ok (H : AHeap) (f : Fr) (Q : AVal → AHeap → Prop) (h : Q (.agg (encFr f)) H) : FunOK Try.prog F.cuneiformlaw08_Of [.agg (encFr f)] H Q := by
  refine fun_iced cuneiformlaw08_Of_code fun _ => ?_
  refine fun_V 100 cuneiformlaw08_Of_code rfl ?_
  simp (disch := first | omega | (simp only [lnx]; omega)) only [stdh, stdx, ↓reduceIte, seval, cuneiformlaw08_Of, cuneiformlaw08_Of.body, encFr]
  exact ice_none (by simp [closed, closeds, closed_nums]) h

def cutFr (f : Fr) : Fr := { f with b := f.b.take (min f.b.length 250) }

theorem cut250 (n : Nat) : (if 250 < (n : Int) then 250 else (n : Int)) = ((min n 250 : Nat) : Int) := by split <;> omega

theorem cut_ok (H : AHeap) (f : Fr) (Q : AVal → AHeap → Prop) (h : Q (.agg (encFr (cutFr f))) H) : FunOK Try.prog F.cuneiformlaw08_Cut [.agg (encFr f)] H Q := by
  refine fun_iced cuneiformlaw08_Cut_code fun _ => ?_
  refine fun_V 100 cuneiformlaw08_Cut_code rfl ?_
  simp (disch := first | omega | (simp only [lnx]; omega)) only [stdh, stdx, ↓reduceIte, seval, cuneiformlaw08_Cut, cuneiformlaw08_Cut.body, encFr, cut250]
  exact ice_none (by simp [closed, closeds, closed_nums]) h

/-- Frames in a list. -/
structure Frs (H : AHeap) (l : AVal) (fs : List Fr) : Prop where
  len : slen l = some fs.length
  view : view H l = some (fs.flatMap encFr)

theorem Frs.keep {H H' : AHeap} {l : AVal} {fs : List Fr} (h : Frs H l fs) (hk : Keeps H H') : Frs H' l fs := ⟨h.len, hk.view h.view⟩
theorem Frs.isSome {H : AHeap} {l : AVal} {fs : List Fr} (h : Frs H l fs) : (Am.view H l).isSome = true := by rw [h.view]; rfl
theorem Frs.load1 {H : AHeap} {l : AVal} {fs : List Fr} (h : Frs H l fs) {j o : Nat} (hj : j < fs.length) (ho : o < 6) : loadA H none (.sptr l (j * 6 + o)) = some (True, (encFr (fs.getD j default)).getD o .junk) := by
  have := load_rec1 (H := H) (t := false) (zs := fs) (j := j) (o := o) encFr_len hj ho
  simp only [loadA, cellsAt, view_recs, h.view] at this ⊢
  exact this
theorem Frs.loadN {H : AHeap} {l : AVal} {fs : List Fr} (h : Frs H l fs) {j o n : Nat} (hj : j < fs.length) (ho : o + n ≤ 6) : loadA H (some n) (.sptr l (j * 6 + o)) = some (True, .agg (((encFr (fs.getD j default)).drop o).take n)) := by
  have := load_recN (H := H) (t := false) (zs := fs) (j := j) (o := o) (n := n) encFr_len hj ho
  simp only [loadA, cellsAt, view_recs, h.view] at this ⊢
  exact this
theorem frs_recs {H : AHeap} {t : Bool} {fs : List Fr} : Frs H (recs encFr t fs) fs := ⟨rfl, rfl⟩

/-! ### The body of frames -/

/-- The first thing that is wrong. -/
def wrongOf (h0 : Hd) : Nat → List Fr → Nat
  | _, [] => 0
  | i, f :: fs => if mates f.h h0 = false then 17 else if f.h.i ≠ (i : Int) then 3 else wrongOf h0 (i + 1) fs

def wholeOf (fs : List Fr) : List Nat × Nat :=
  if wrongOf (fs.getD 0 default).h 0 fs ≠ 0 then ([], wrongOf (fs.getD 0 default).h 0 fs)
  else if fs = [] ∨ (fs.length : Int) < (fs.getD 0 default).h.c then ([], 13)
  else if (fs.getD 0 default).h.c < (fs.length : Int) then ([], 6) else (fs.flatMap Fr.b, 0)

theorem wrongOf_drop {h0 : Hd} {fs : List Fr} {j : Nat} (hj : j < fs.length) : wrongOf h0 j (fs.drop j) = if mates (fs.getD j default).h h0 = false then 17 else if (fs.getD j default).h.i ≠ (j : Int) then 3 else wrongOf h0 (j + 1) (fs.drop (j + 1)) := by
  rw [List.drop_eq_getElem_cons hj, wrongOf]
  have : fs.getD j default = fs[j] := by simp [hj]
  rw [this]
set_option linter.unusedSimpArgs false
set_option linter.unusedVariables false

def w8s (xs : List Nat) : List AVal := xs.map fun n : Nat => AVal.int .u8 (n : Int)
theorem w8s_len (xs : List Nat) : (w8s xs).length = xs.length := by simp [w8s]
theorem w8s_append (xs ys : List Nat) : w8s (xs ++ ys) = w8s xs ++ w8s ys := by simp [w8s]
theorem w8s_cellish (xs : List Nat) : (w8s xs).all AVal.cellish = true := by simp [w8s, AVal.cellish]

theorem flat_take {fs : List Fr} {j : Nat} (hj : j < fs.length) : (fs.take (j + 1)).flatMap Fr.b = (fs.take j).flatMap Fr.b ++ (fs.getD j default).b := by
  rw [List.take_succ_eq_append_getElem hj, List.flatMap_append]
  simp [hj]

theorem flat_le {fs : List Fr} {j : Nat} (hj : j < fs.length) : ((fs.take j).flatMap Fr.b).length + (fs.getD j default).b.length ≤ (fs.flatMap Fr.b).length := by
  have h1 := congrArg List.length (flat_take hj)
  rw [List.length_append] at h1
  rw [← h1]
  conv => rhs; rw [← List.take_append_drop (j + 1) fs]
  rw [List.flatMap_append, List.length_append]; omega

set_option linter.unusedSimpArgs false
set_option linter.unusedVariables false

def errs (j : Nat) : Nat := if j = 0 then 10 else if j = 1 then 9 else 3
def bads (h : Hd) (j : Nat) : Bool :=
  if j = 0 then decide (h.v < 1 ∨ 2 < h.v) else if j = 1 then decide (h.k < 1 ∨ 5 < h.k) else decide (h.c < 1 ∨ 255 < h.c ∨ h.i < 0 ∨ h.c ≤ h.i)
def wrongItem (h : Hd) (j : Nat) : List AVal := [.int .i64 (errs j : Nat), .bool (bads h j)]

/-- What is wrong with a head. -/
def checkOf (h : Hd) : Nat := if bads h 0 then 10 else if bads h 1 then 9 else if bads h 2 then 3 else 0

set_option maxHeartbeats 4000000 in
theorem wrong_iter {H : AHeap} {n : Nat} (h : Hd) : Iter Try.prog F.head_wrong_1 [.yld n, cellN (encHd h)] n (wrongItem h) 3 [] H := by
  intro I hI fp hi hown
  refine fun_V 200 head_wrong_1_code rfl ?_
  by_cases h0 : h.v < 1
  · by_cases h1 : h.k < 1
    · skip
      by_cases h2 : h.c < 1
      · skip
        have i0 : wrongItem h 0 = [.int .i64 10, .bool true] := by simp [wrongItem, bads, errs, h0]
        have i1 : wrongItem h 1 = [.int .i64 9, .bool true] := by simp [wrongItem, bads, errs, h1]
        have i2 : wrongItem h 2 = [.int .i64 3, .bool true] := by simp [wrongItem, bads, errs, h2]
        simp (disch := first | omega | (simp only [lnx]; omega)) only [stdh, stdx, ↓reduceIte, seval, head_wrong_1, head_wrong_1.body, cellN, load_imm, encHd]
        have s0 := hI.step 0 fp H (by omega) hi
        rw [i0] at s0
        refine CallV.mono s0 fun av H1 hh => ?_
        obtain ⟨fp1, t1, hh⟩ := hh
        refine runL_V 200 ?_
        rcases hh with ⟨rfl, hi1⟩ | ⟨rfl, hi1⟩
        rotate_left
        · simp (disch := first | omega | (simp only [lnx]; omega)) only [stdh, stdx, ↓reduceIte, seval]
          refine run_fin rfl rfl trivial ?_
          exact ⟨false, 1, fp1, t1.le, t1.kept, (fun e => by cases e), hi1⟩
        simp (disch := first | omega | (simp only [lnx]; omega)) only [stdh, stdx, ↓reduceIte, seval, load_imm]
        have s1 := hI.step 1 fp1 H1 (by omega) hi1
        rw [i1] at s1
        refine CallV.mono s1 fun av H2 hh => ?_
        obtain ⟨fp2, t2, hh⟩ := hh
        replace t2 := t1.trans t2
        refine runL_V 200 ?_
        rcases hh with ⟨rfl, hi2⟩ | ⟨rfl, hi2⟩
        rotate_left
        · simp (disch := first | omega | (simp only [lnx]; omega)) only [stdh, stdx, ↓reduceIte, seval]
          refine run_fin rfl rfl trivial ?_
          exact ⟨false, 2, fp2, t2.le, t2.kept, (fun e => by cases e), hi2⟩
        simp (disch := first | omega | (simp only [lnx]; omega)) only [stdh, stdx, ↓reduceIte, seval, load_imm]
        have s2 := hI.step 2 fp2 H2 (by omega) hi2
        rw [i2] at s2
        refine CallV.mono s2 fun av H3 hh => ?_
        obtain ⟨fp3, t3, hh⟩ := hh
        replace t3 := t2.trans t3
        refine runL_V 200 ?_
        rcases hh with ⟨rfl, hi3⟩ | ⟨rfl, hi3⟩
        rotate_left
        · simp (disch := first | omega | (simp only [lnx]; omega)) only [stdh, stdx, ↓reduceIte, seval]
          refine run_fin rfl rfl trivial ?_
          exact ⟨false, 3, fp3, t3.le, t3.kept, (fun e => by cases e), hi3⟩
        simp (disch := first | omega | (simp only [lnx]; omega)) only [stdh, stdx, ↓reduceIte, seval]
        refine run_fin rfl rfl trivial ?_
        exact ⟨true, 3, fp3, t3.le, t3.kept, fun _ => rfl, hi3⟩
      · by_cases h3 : 255 < h.c
        · skip
          have i0 : wrongItem h 0 = [.int .i64 10, .bool true] := by simp [wrongItem, bads, errs, h0]
          have i1 : wrongItem h 1 = [.int .i64 9, .bool true] := by simp [wrongItem, bads, errs, h1]
          have i2 : wrongItem h 2 = [.int .i64 3, .bool true] := by simp [wrongItem, bads, errs, h2, h3]
          simp (disch := first | omega | (simp only [lnx]; omega)) only [stdh, stdx, ↓reduceIte, seval, head_wrong_1, head_wrong_1.body, cellN, load_imm, encHd]
          have s0 := hI.step 0 fp H (by omega) hi
          rw [i0] at s0
          refine CallV.mono s0 fun av H1 hh => ?_
          obtain ⟨fp1, t1, hh⟩ := hh
          refine runL_V 200 ?_
          rcases hh with ⟨rfl, hi1⟩ | ⟨rfl, hi1⟩
          rotate_left
          · simp (disch := first | omega | (simp only [lnx]; omega)) only [stdh, stdx, ↓reduceIte, seval]
            refine run_fin rfl rfl trivial ?_
            exact ⟨false, 1, fp1, t1.le, t1.kept, (fun e => by cases e), hi1⟩
          simp (disch := first | omega | (simp only [lnx]; omega)) only [stdh, stdx, ↓reduceIte, seval, load_imm]
          have s1 := hI.step 1 fp1 H1 (by omega) hi1
          rw [i1] at s1
          refine CallV.mono s1 fun av H2 hh => ?_
          obtain ⟨fp2, t2, hh⟩ := hh
          replace t2 := t1.trans t2
          refine runL_V 200 ?_
          rcases hh with ⟨rfl, hi2⟩ | ⟨rfl, hi2⟩
          rotate_left
          · simp (disch := first | omega | (simp only [lnx]; omega)) only [stdh, stdx, ↓reduceIte, seval]
            refine run_fin rfl rfl trivial ?_
            exact ⟨false, 2, fp2, t2.le, t2.kept, (fun e => by cases e), hi2⟩
          simp (disch := first | omega | (simp only [lnx]; omega)) only [stdh, stdx, ↓reduceIte, seval, load_imm]
          have s2 := hI.step 2 fp2 H2 (by omega) hi2
          rw [i2] at s2
          refine CallV.mono s2 fun av H3 hh => ?_
          obtain ⟨fp3, t3, hh⟩ := hh
          replace t3 := t2.trans t3
          refine runL_V 200 ?_
          rcases hh with ⟨rfl, hi3⟩ | ⟨rfl, hi3⟩
          rotate_left
          · simp (disch := first | omega | (simp only [lnx]; omega)) only [stdh, stdx, ↓reduceIte, seval]
            refine run_fin rfl rfl trivial ?_
            exact ⟨false, 3, fp3, t3.le, t3.kept, (fun e => by cases e), hi3⟩
          simp (disch := first | omega | (simp only [lnx]; omega)) only [stdh, stdx, ↓reduceIte, seval]
          refine run_fin rfl rfl trivial ?_
          exact ⟨true, 3, fp3, t3.le, t3.kept, fun _ => rfl, hi3⟩
        · by_cases h4 : h.i < 0
          · skip
            have i0 : wrongItem h 0 = [.int .i64 10, .bool true] := by simp [wrongItem, bads, errs, h0]
            have i1 : wrongItem h 1 = [.int .i64 9, .bool true] := by simp [wrongItem, bads, errs, h1]
            have i2 : wrongItem h 2 = [.int .i64 3, .bool true] := by simp [wrongItem, bads, errs, h2, h3, h4]
            simp (disch := first | omega | (simp only [lnx]; omega)) only [stdh, stdx, ↓reduceIte, seval, head_wrong_1, head_wrong_1.body, cellN, load_imm, encHd]
            have s0 := hI.step 0 fp H (by omega) hi
            rw [i0] at s0
            refine CallV.mono s0 fun av H1 hh => ?_
            obtain ⟨fp1, t1, hh⟩ := hh
            refine runL_V 200 ?_
            rcases hh with ⟨rfl, hi1⟩ | ⟨rfl, hi1⟩
            rotate_left
            · simp (disch := first | omega | (simp only [lnx]; omega)) only [stdh, stdx, ↓reduceIte, seval]
              refine run_fin rfl rfl trivial ?_
              exact ⟨false, 1, fp1, t1.le, t1.kept, (fun e => by cases e), hi1⟩
            simp (disch := first | omega | (simp only [lnx]; omega)) only [stdh, stdx, ↓reduceIte, seval, load_imm]
            have s1 := hI.step 1 fp1 H1 (by omega) hi1
            rw [i1] at s1
            refine CallV.mono s1 fun av H2 hh => ?_
            obtain ⟨fp2, t2, hh⟩ := hh
            replace t2 := t1.trans t2
            refine runL_V 200 ?_
            rcases hh with ⟨rfl, hi2⟩ | ⟨rfl, hi2⟩
            rotate_left
            · simp (disch := first | omega | (simp only [lnx]; omega)) only [stdh, stdx, ↓reduceIte, seval]
              refine run_fin rfl rfl trivial ?_
              exact ⟨false, 2, fp2, t2.le, t2.kept, (fun e => by cases e), hi2⟩
            simp (disch := first | omega | (simp only [lnx]; omega)) only [stdh, stdx, ↓reduceIte, seval, load_imm]
            have s2 := hI.step 2 fp2 H2 (by omega) hi2
            rw [i2] at s2
            refine CallV.mono s2 fun av H3 hh => ?_
            obtain ⟨fp3, t3, hh⟩ := hh
            replace t3 := t2.trans t3
            refine runL_V 200 ?_
            rcases hh with ⟨rfl, hi3⟩ | ⟨rfl, hi3⟩
            rotate_left
            · simp (disch := first | omega | (simp only [lnx]; omega)) only [stdh, stdx, ↓reduceIte, seval]
              refine run_fin rfl rfl trivial ?_
              exact ⟨false, 3, fp3, t3.le, t3.kept, (fun e => by cases e), hi3⟩
            simp (disch := first | omega | (simp only [lnx]; omega)) only [stdh, stdx, ↓reduceIte, seval]
            refine run_fin rfl rfl trivial ?_
            exact ⟨true, 3, fp3, t3.le, t3.kept, fun _ => rfl, hi3⟩
          · skip
            have i0 : wrongItem h 0 = [.int .i64 10, .bool true] := by simp [wrongItem, bads, errs, h0]
            have i1 : wrongItem h 1 = [.int .i64 9, .bool true] := by simp [wrongItem, bads, errs, h1]
            have i2 : wrongItem h 2 = [.int .i64 3, .bool (decide (h.c ≤ h.i))] := by simp [wrongItem, bads, errs, h2, h3, h4]
            simp (disch := first | omega | (simp only [lnx]; omega)) only [stdh, stdx, ↓reduceIte, seval, head_wrong_1, head_wrong_1.body, cellN, load_imm, encHd]
            have s0 := hI.step 0 fp H (by omega) hi
            rw [i0] at s0
            refine CallV.mono s0 fun av H1 hh => ?_
            obtain ⟨fp1, t1, hh⟩ := hh
            refine runL_V 200 ?_
            rcases hh with ⟨rfl, hi1⟩ | ⟨rfl, hi1⟩
            rotate_left
            · simp (disch := first | omega | (simp only [lnx]; omega)) only [stdh, stdx, ↓reduceIte, seval]
              refine run_fin rfl rfl trivial ?_
              exact ⟨false, 1, fp1, t1.le, t1.kept, (fun e => by cases e), hi1⟩
            simp (disch := first | omega | (simp only [lnx]; omega)) only [stdh, stdx, ↓reduceIte, seval, load_imm]
            have s1 := hI.step 1 fp1 H1 (by omega) hi1
            rw [i1] at s1
            refine CallV.mono s1 fun av H2 hh => ?_
            obtain ⟨fp2, t2, hh⟩ := hh
            replace t2 := t1.trans t2
            refine runL_V 200 ?_
            rcases hh with ⟨rfl, hi2⟩ | ⟨rfl, hi2⟩
            rotate_left
            · simp (disch := first | omega | (simp only [lnx]; omega)) only [stdh, stdx, ↓reduceIte, seval]
              refine run_fin rfl rfl trivial ?_
              exact ⟨false, 2, fp2, t2.le, t2.kept, (fun e => by cases e), hi2⟩
            simp (disch := first | omega | (simp only [lnx]; omega)) only [stdh, stdx, ↓reduceIte, seval, load_imm]
            have s2 := hI.step 2 fp2 H2 (by omega) hi2
            rw [i2] at s2
            refine CallV.mono s2 fun av H3 hh => ?_
            obtain ⟨fp3, t3, hh⟩ := hh
            replace t3 := t2.trans t3
            refine runL_V 200 ?_
            rcases hh with ⟨rfl, hi3⟩ | ⟨rfl, hi3⟩
            rotate_left
            · simp (disch := first | omega | (simp only [lnx]; omega)) only [stdh, stdx, ↓reduceIte, seval]
              refine run_fin rfl rfl trivial ?_
              exact ⟨false, 3, fp3, t3.le, t3.kept, (fun e => by cases e), hi3⟩
            simp (disch := first | omega | (simp only [lnx]; omega)) only [stdh, stdx, ↓reduceIte, seval]
            refine run_fin rfl rfl trivial ?_
            exact ⟨true, 3, fp3, t3.le, t3.kept, fun _ => rfl, hi3⟩
    · skip
      by_cases h2 : h.c < 1
      · skip
        have i0 : wrongItem h 0 = [.int .i64 10, .bool true] := by simp [wrongItem, bads, errs, h0]
        have i1 : wrongItem h 1 = [.int .i64 9, .bool (decide (5 < h.k))] := by simp [wrongItem, bads, errs, h1]
        have i2 : wrongItem h 2 = [.int .i64 3, .bool true] := by simp [wrongItem, bads, errs, h2]
        simp (disch := first | omega | (simp only [lnx]; omega)) only [stdh, stdx, ↓reduceIte, seval, head_wrong_1, head_wrong_1.body, cellN, load_imm, encHd]
        have s0 := hI.step 0 fp H (by omega) hi
        rw [i0] at s0
        refine CallV.mono s0 fun av H1 hh => ?_
        obtain ⟨fp1, t1, hh⟩ := hh
        refine runL_V 200 ?_
        rcases hh with ⟨rfl, hi1⟩ | ⟨rfl, hi1⟩
        rotate_left
        · simp (disch := first | omega | (simp only [lnx]; omega)) only [stdh, stdx, ↓reduceIte, seval]
          refine run_fin rfl rfl trivial ?_
          exact ⟨false, 1, fp1, t1.le, t1.kept, (fun e => by cases e), hi1⟩
        simp (disch := first | omega | (simp only [lnx]; omega)) only [stdh, stdx, ↓reduceIte, seval, load_imm]
        have s1 := hI.step 1 fp1 H1 (by omega) hi1
        rw [i1] at s1
        refine CallV.mono s1 fun av H2 hh => ?_
        obtain ⟨fp2, t2, hh⟩ := hh
        replace t2 := t1.trans t2
        refine runL_V 200 ?_
        rcases hh with ⟨rfl, hi2⟩ | ⟨rfl, hi2⟩
        rotate_left
        · simp (disch := first | omega | (simp only [lnx]; omega)) only [stdh, stdx, ↓reduceIte, seval]
          refine run_fin rfl rfl trivial ?_
          exact ⟨false, 2, fp2, t2.le, t2.kept, (fun e => by cases e), hi2⟩
        simp (disch := first | omega | (simp only [lnx]; omega)) only [stdh, stdx, ↓reduceIte, seval, load_imm]
        have s2 := hI.step 2 fp2 H2 (by omega) hi2
        rw [i2] at s2
        refine CallV.mono s2 fun av H3 hh => ?_
        obtain ⟨fp3, t3, hh⟩ := hh
        replace t3 := t2.trans t3
        refine runL_V 200 ?_
        rcases hh with ⟨rfl, hi3⟩ | ⟨rfl, hi3⟩
        rotate_left
        · simp (disch := first | omega | (simp only [lnx]; omega)) only [stdh, stdx, ↓reduceIte, seval]
          refine run_fin rfl rfl trivial ?_
          exact ⟨false, 3, fp3, t3.le, t3.kept, (fun e => by cases e), hi3⟩
        simp (disch := first | omega | (simp only [lnx]; omega)) only [stdh, stdx, ↓reduceIte, seval]
        refine run_fin rfl rfl trivial ?_
        exact ⟨true, 3, fp3, t3.le, t3.kept, fun _ => rfl, hi3⟩
      · by_cases h3 : 255 < h.c
        · skip
          have i0 : wrongItem h 0 = [.int .i64 10, .bool true] := by simp [wrongItem, bads, errs, h0]
          have i1 : wrongItem h 1 = [.int .i64 9, .bool (decide (5 < h.k))] := by simp [wrongItem, bads, errs, h1]
          have i2 : wrongItem h 2 = [.int .i64 3, .bool true] := by simp [wrongItem, bads, errs, h2, h3]
          simp (disch := first | omega | (simp only [lnx]; omega)) only [stdh, stdx, ↓reduceIte, seval, head_wrong_1, head_wrong_1.body, cellN, load_imm, encHd]
          have s0 := hI.step 0 fp H (by omega) hi
          rw [i0] at s0
          refine CallV.mono s0 fun av H1 hh => ?_
          obtain ⟨fp1, t1, hh⟩ := hh
          refine runL_V 200 ?_
          rcases hh with ⟨rfl, hi1⟩ | ⟨rfl, hi1⟩
          rotate_left
          · simp (disch := first | omega | (simp only [lnx]; omega)) only [stdh, stdx, ↓reduceIte, seval]
            refine run_fin rfl rfl trivial ?_
            exact ⟨false, 1, fp1, t1.le, t1.kept, (fun e => by cases e), hi1⟩
          simp (disch := first | omega | (simp only [lnx]; omega)) only [stdh, stdx, ↓reduceIte, seval, load_imm]
          have s1 := hI.step 1 fp1 H1 (by omega) hi1
          rw [i1] at s1
          refine CallV.mono s1 fun av H2 hh => ?_
          obtain ⟨fp2, t2, hh⟩ := hh
          replace t2 := t1.trans t2
          refine runL_V 200 ?_
          rcases hh with ⟨rfl, hi2⟩ | ⟨rfl, hi2⟩
          rotate_left
          · simp (disch := first | omega | (simp only [lnx]; omega)) only [stdh, stdx, ↓reduceIte, seval]
            refine run_fin rfl rfl trivial ?_
            exact ⟨false, 2, fp2, t2.le, t2.kept, (fun e => by cases e), hi2⟩
          simp (disch := first | omega | (simp only [lnx]; omega)) only [stdh, stdx, ↓reduceIte, seval, load_imm]
          have s2 := hI.step 2 fp2 H2 (by omega) hi2
          rw [i2] at s2
          refine CallV.mono s2 fun av H3 hh => ?_
          obtain ⟨fp3, t3, hh⟩ := hh
          replace t3 := t2.trans t3
          refine runL_V 200 ?_
          rcases hh with ⟨rfl, hi3⟩ | ⟨rfl, hi3⟩
          rotate_left
          · simp (disch := first | omega | (simp only [lnx]; omega)) only [stdh, stdx, ↓reduceIte, seval]
            refine run_fin rfl rfl trivial ?_
            exact ⟨false, 3, fp3, t3.le, t3.kept, (fun e => by cases e), hi3⟩
          simp (disch := first | omega | (simp only [lnx]; omega)) only [stdh, stdx, ↓reduceIte, seval]
          refine run_fin rfl rfl trivial ?_
          exact ⟨true, 3, fp3, t3.le, t3.kept, fun _ => rfl, hi3⟩
        · by_cases h4 : h.i < 0
          · skip
            have i0 : wrongItem h 0 = [.int .i64 10, .bool true] := by simp [wrongItem, bads, errs, h0]
            have i1 : wrongItem h 1 = [.int .i64 9, .bool (decide (5 < h.k))] := by simp [wrongItem, bads, errs, h1]
            have i2 : wrongItem h 2 = [.int .i64 3, .bool true] := by simp [wrongItem, bads, errs, h2, h3, h4]
            simp (disch := first | omega | (simp only [lnx]; omega)) only [stdh, stdx, ↓reduceIte, seval, head_wrong_1, head_wrong_1.body, cellN, load_imm, encHd]
            have s0 := hI.step 0 fp H (by omega) hi
            rw [i0] at s0
            refine CallV.mono s0 fun av H1 hh => ?_
            obtain ⟨fp1, t1, hh⟩ := hh
            refine runL_V 200 ?_
            rcases hh with ⟨rfl, hi1⟩ | ⟨rfl, hi1⟩
            rotate_left
            · simp (disch := first | omega | (simp only [lnx]; omega)) only [stdh, stdx, ↓reduceIte, seval]
              refine run_fin rfl rfl trivial ?_
              exact ⟨false, 1, fp1, t1.le, t1.kept, (fun e => by cases e), hi1⟩
            simp (disch := first | omega | (simp only [lnx]; omega)) only [stdh, stdx, ↓reduceIte, seval, load_imm]
            have s1 := hI.step 1 fp1 H1 (by omega) hi1
            rw [i1] at s1
            refine CallV.mono s1 fun av H2 hh => ?_
            obtain ⟨fp2, t2, hh⟩ := hh
            replace t2 := t1.trans t2
            refine runL_V 200 ?_
            rcases hh with ⟨rfl, hi2⟩ | ⟨rfl, hi2⟩
            rotate_left
            · simp (disch := first | omega | (simp only [lnx]; omega)) only [stdh, stdx, ↓reduceIte, seval]
              refine run_fin rfl rfl trivial ?_
              exact ⟨false, 2, fp2, t2.le, t2.kept, (fun e => by cases e), hi2⟩
            simp (disch := first | omega | (simp only [lnx]; omega)) only [stdh, stdx, ↓reduceIte, seval, load_imm]
            have s2 := hI.step 2 fp2 H2 (by omega) hi2
            rw [i2] at s2
            refine CallV.mono s2 fun av H3 hh => ?_
            obtain ⟨fp3, t3, hh⟩ := hh
            replace t3 := t2.trans t3
            refine runL_V 200 ?_
            rcases hh with ⟨rfl, hi3⟩ | ⟨rfl, hi3⟩
            rotate_left
            · simp (disch := first | omega | (simp only [lnx]; omega)) only [stdh, stdx, ↓reduceIte, seval]
              refine run_fin rfl rfl trivial ?_
              exact ⟨false, 3, fp3, t3.le, t3.kept, (fun e => by cases e), hi3⟩
            simp (disch := first | omega | (simp only [lnx]; omega)) only [stdh, stdx, ↓reduceIte, seval]
            refine run_fin rfl rfl trivial ?_
            exact ⟨true, 3, fp3, t3.le, t3.kept, fun _ => rfl, hi3⟩
          · skip
            have i0 : wrongItem h 0 = [.int .i64 10, .bool true] := by simp [wrongItem, bads, errs, h0]
            have i1 : wrongItem h 1 = [.int .i64 9, .bool (decide (5 < h.k))] := by simp [wrongItem, bads, errs, h1]
            have i2 : wrongItem h 2 = [.int .i64 3, .bool (decide (h.c ≤ h.i))] := by simp [wrongItem, bads, errs, h2, h3, h4]
            simp (disch := first | omega | (simp only [lnx]; omega)) only [stdh, stdx, ↓reduceIte, seval, head_wrong_1, head_wrong_1.body, cellN, load_imm, encHd]
            have s0 := hI.step 0 fp H (by omega) hi
            rw [i0] at s0
            refine CallV.mono s0 fun av H1 hh => ?_
            obtain ⟨fp1, t1, hh⟩ := hh
            refine runL_V 200 ?_
            rcases hh with ⟨rfl, hi1⟩ | ⟨rfl, hi1⟩
            rotate_left
            · simp (disch := first | omega | (simp only [lnx]; omega)) only [stdh, stdx, ↓reduceIte, seval]
              refine run_fin rfl rfl trivial ?_
              exact ⟨false, 1, fp1, t1.le, t1.kept, (fun e => by cases e), hi1⟩
            simp (disch := first | omega | (simp only [lnx]; omega)) only [stdh, stdx, ↓reduceIte, seval, load_imm]
            have s1 := hI.step 1 fp1 H1 (by omega) hi1
            rw [i1] at s1
            refine CallV.mono s1 fun av H2 hh => ?_
            obtain ⟨fp2, t2, hh⟩ := hh
            replace t2 := t1.trans t2
            refine runL_V 200 ?_
            rcases hh with ⟨rfl, hi2⟩ | ⟨rfl, hi2⟩
            rotate_left
            · simp (disch := first | omega | (simp only [lnx]; omega)) only [stdh, stdx, ↓reduceIte, seval]
              refine run_fin rfl rfl trivial ?_
              exact ⟨false, 2, fp2, t2.le, t2.kept, (fun e => by cases e), hi2⟩
            simp (disch := first | omega | (simp only [lnx]; omega)) only [stdh, stdx, ↓reduceIte, seval, load_imm]
            have s2 := hI.step 2 fp2 H2 (by omega) hi2
            rw [i2] at s2
            refine CallV.mono s2 fun av H3 hh => ?_
            obtain ⟨fp3, t3, hh⟩ := hh
            replace t3 := t2.trans t3
            refine runL_V 200 ?_
            rcases hh with ⟨rfl, hi3⟩ | ⟨rfl, hi3⟩
            rotate_left
            · simp (disch := first | omega | (simp only [lnx]; omega)) only [stdh, stdx, ↓reduceIte, seval]
              refine run_fin rfl rfl trivial ?_
              exact ⟨false, 3, fp3, t3.le, t3.kept, (fun e => by cases e), hi3⟩
            simp (disch := first | omega | (simp only [lnx]; omega)) only [stdh, stdx, ↓reduceIte, seval]
            refine run_fin rfl rfl trivial ?_
            exact ⟨true, 3, fp3, t3.le, t3.kept, fun _ => rfl, hi3⟩
  · by_cases h1 : h.k < 1
    · skip
      by_cases h2 : h.c < 1
      · skip
        have i0 : wrongItem h 0 = [.int .i64 10, .bool (decide (2 < h.v))] := by simp [wrongItem, bads, errs, h0]
        have i1 : wrongItem h 1 = [.int .i64 9, .bool true] := by simp [wrongItem, bads, errs, h1]
        have i2 : wrongItem h 2 = [.int .i64 3, .bool true] := by simp [wrongItem, bads, errs, h2]
        simp (disch := first | omega | (simp only [lnx]; omega)) only [stdh, stdx, ↓reduceIte, seval, head_wrong_1, head_wrong_1.body, cellN, load_imm, encHd]
        have s0 := hI.step 0 fp H (by omega) hi
        rw [i0] at s0
        refine CallV.mono s0 fun av H1 hh => ?_
        obtain ⟨fp1, t1, hh⟩ := hh
        refine runL_V 200 ?_
        rcases hh with ⟨rfl, hi1⟩ | ⟨rfl, hi1⟩
        rotate_left
        · simp (disch := first | omega | (simp only [lnx]; omega)) only [stdh, stdx, ↓reduceIte, seval]
          refine run_fin rfl rfl trivial ?_
          exact ⟨false, 1, fp1, t1.le, t1.kept, (fun e => by cases e), hi1⟩
        simp (disch := first | omega | (simp only [lnx]; omega)) only [stdh, stdx, ↓reduceIte, seval, load_imm]
        have s1 := hI.step 1 fp1 H1 (by omega) hi1
        rw [i1] at s1
        refine CallV.mono s1 fun av H2 hh => ?_
        obtain ⟨fp2, t2, hh⟩ := hh
        replace t2 := t1.trans t2
        refine runL_V 200 ?_
        rcases hh with ⟨rfl, hi2⟩ | ⟨rfl, hi2⟩
        rotate_left
        · simp (disch := first | omega | (simp only [lnx]; omega)) only [stdh, stdx, ↓reduceIte, seval]
          refine run_fin rfl rfl trivial ?_
          exact ⟨false, 2, fp2, t2.le, t2.kept, (fun e => by cases e), hi2⟩
        simp (disch := first | omega | (simp only [lnx]; omega)) only [stdh, stdx, ↓reduceIte, seval, load_imm]
        have s2 := hI.step 2 fp2 H2 (by omega) hi2
        rw [i2] at s2
        refine CallV.mono s2 fun av H3 hh => ?_
        obtain ⟨fp3, t3, hh⟩ := hh
        replace t3 := t2.trans t3
        refine runL_V 200 ?_
        rcases hh with ⟨rfl, hi3⟩ | ⟨rfl, hi3⟩
        rotate_left
        · simp (disch := first | omega | (simp only [lnx]; omega)) only [stdh, stdx, ↓reduceIte, seval]
          refine run_fin rfl rfl trivial ?_
          exact ⟨false, 3, fp3, t3.le, t3.kept, (fun e => by cases e), hi3⟩
        simp (disch := first | omega | (simp only [lnx]; omega)) only [stdh, stdx, ↓reduceIte, seval]
        refine run_fin rfl rfl trivial ?_
        exact ⟨true, 3, fp3, t3.le, t3.kept, fun _ => rfl, hi3⟩
      · by_cases h3 : 255 < h.c
        · skip
          have i0 : wrongItem h 0 = [.int .i64 10, .bool (decide (2 < h.v))] := by simp [wrongItem, bads, errs, h0]
          have i1 : wrongItem h 1 = [.int .i64 9, .bool true] := by simp [wrongItem, bads, errs, h1]
          have i2 : wrongItem h 2 = [.int .i64 3, .bool true] := by simp [wrongItem, bads, errs, h2, h3]
          simp (disch := first | omega | (simp only [lnx]; omega)) only [stdh, stdx, ↓reduceIte, seval, head_wrong_1, head_wrong_1.body, cellN, load_imm, encHd]
          have s0 := hI.step 0 fp H (by omega) hi
          rw [i0] at s0
          refine CallV.mono s0 fun av H1 hh => ?_
          obtain ⟨fp1, t1, hh⟩ := hh
          refine runL_V 200 ?_
          rcases hh with ⟨rfl, hi1⟩ | ⟨rfl, hi1⟩
          rotate_left
          · simp (disch := first | omega | (simp only [lnx]; omega)) only [stdh, stdx, ↓reduceIte, seval]
            refine run_fin rfl rfl trivial ?_
            exact ⟨false, 1, fp1, t1.le, t1.kept, (fun e => by cases e), hi1⟩
          simp (disch := first | omega | (simp only [lnx]; omega)) only [stdh, stdx, ↓reduceIte, seval, load_imm]
          have s1 := hI.step 1 fp1 H1 (by omega) hi1
          rw [i1] at s1
          refine CallV.mono s1 fun av H2 hh => ?_
          obtain ⟨fp2, t2, hh⟩ := hh
          replace t2 := t1.trans t2
          refine runL_V 200 ?_
          rcases hh with ⟨rfl, hi2⟩ | ⟨rfl, hi2⟩
          rotate_left
          · simp (disch := first | omega | (simp only [lnx]; omega)) only [stdh, stdx, ↓reduceIte, seval]
            refine run_fin rfl rfl trivial ?_
            exact ⟨false, 2, fp2, t2.le, t2.kept, (fun e => by cases e), hi2⟩
          simp (disch := first | omega | (simp only [lnx]; omega)) only [stdh, stdx, ↓reduceIte, seval, load_imm]
          have s2 := hI.step 2 fp2 H2 (by omega) hi2
          rw [i2] at s2
          refine CallV.mono s2 fun av H3 hh => ?_
          obtain ⟨fp3, t3, hh⟩ := hh
          replace t3 := t2.trans t3
          refine runL_V 200 ?_
          rcases hh with ⟨rfl, hi3⟩ | ⟨rfl, hi3⟩
          rotate_left
          · simp (disch := first | omega | (simp only [lnx]; omega)) only [stdh, stdx, ↓reduceIte, seval]
            refine run_fin rfl rfl trivial ?_
            exact ⟨false, 3, fp3, t3.le, t3.kept, (fun e => by cases e), hi3⟩
          simp (disch := first | omega | (simp only [lnx]; omega)) only [stdh, stdx, ↓reduceIte, seval]
          refine run_fin rfl rfl trivial ?_
          exact ⟨true, 3, fp3, t3.le, t3.kept, fun _ => rfl, hi3⟩
        · by_cases h4 : h.i < 0
          · skip
            have i0 : wrongItem h 0 = [.int .i64 10, .bool (decide (2 < h.v))] := by simp [wrongItem, bads, errs, h0]
            have i1 : wrongItem h 1 = [.int .i64 9, .bool true] := by simp [wrongItem, bads, errs, h1]
            have i2 : wrongItem h 2 = [.int .i64 3, .bool true] := by simp [wrongItem, bads, errs, h2, h3, h4]
            simp (disch := first | omega | (simp only [lnx]; omega)) only [stdh, stdx, ↓reduceIte, seval, head_wrong_1, head_wrong_1.body, cellN, load_imm, encHd]
            have s0 := hI.step 0 fp H (by omega) hi
            rw [i0] at s0
            refine CallV.mono s0 fun av H1 hh => ?_
            obtain ⟨fp1, t1, hh⟩ := hh
            refine runL_V 200 ?_
            rcases hh with ⟨rfl, hi1⟩ | ⟨rfl, hi1⟩
            rotate_left
            · simp (disch := first | omega | (simp only [lnx]; omega)) only [stdh, stdx, ↓reduceIte, seval]
              refine run_fin rfl rfl trivial ?_
              exact ⟨false, 1, fp1, t1.le, t1.kept, (fun e => by cases e), hi1⟩
            simp (disch := first | omega | (simp only [lnx]; omega)) only [stdh, stdx, ↓reduceIte, seval, load_imm]
            have s1 := hI.step 1 fp1 H1 (by omega) hi1
            rw [i1] at s1
            refine CallV.mono s1 fun av H2 hh => ?_
            obtain ⟨fp2, t2, hh⟩ := hh
            replace t2 := t1.trans t2
            refine runL_V 200 ?_
            rcases hh with ⟨rfl, hi2⟩ | ⟨rfl, hi2⟩
            rotate_left
            · simp (disch := first | omega | (simp only [lnx]; omega)) only [stdh, stdx, ↓reduceIte, seval]
              refine run_fin rfl rfl trivial ?_
              exact ⟨false, 2, fp2, t2.le, t2.kept, (fun e => by cases e), hi2⟩
            simp (disch := first | omega | (simp only [lnx]; omega)) only [stdh, stdx, ↓reduceIte, seval, load_imm]
            have s2 := hI.step 2 fp2 H2 (by omega) hi2
            rw [i2] at s2
            refine CallV.mono s2 fun av H3 hh => ?_
            obtain ⟨fp3, t3, hh⟩ := hh
            replace t3 := t2.trans t3
            refine runL_V 200 ?_
            rcases hh with ⟨rfl, hi3⟩ | ⟨rfl, hi3⟩
            rotate_left
            · simp (disch := first | omega | (simp only [lnx]; omega)) only [stdh, stdx, ↓reduceIte, seval]
              refine run_fin rfl rfl trivial ?_
              exact ⟨false, 3, fp3, t3.le, t3.kept, (fun e => by cases e), hi3⟩
            simp (disch := first | omega | (simp only [lnx]; omega)) only [stdh, stdx, ↓reduceIte, seval]
            refine run_fin rfl rfl trivial ?_
            exact ⟨true, 3, fp3, t3.le, t3.kept, fun _ => rfl, hi3⟩
          · skip
            have i0 : wrongItem h 0 = [.int .i64 10, .bool (decide (2 < h.v))] := by simp [wrongItem, bads, errs, h0]
            have i1 : wrongItem h 1 = [.int .i64 9, .bool true] := by simp [wrongItem, bads, errs, h1]
            have i2 : wrongItem h 2 = [.int .i64 3, .bool (decide (h.c ≤ h.i))] := by simp [wrongItem, bads, errs, h2, h3, h4]
            simp (disch := first | omega | (simp only [lnx]; omega)) only [stdh, stdx, ↓reduceIte, seval, head_wrong_1, head_wrong_1.body, cellN, load_imm, encHd]
            have s0 := hI.step 0 fp H (by omega) hi
            rw [i0] at s0
            refine CallV.mono s0 fun av H1 hh => ?_
            obtain ⟨fp1, t1, hh⟩ := hh
            refine runL_V 200 ?_
            rcases hh with ⟨rfl, hi1⟩ | ⟨rfl, hi1⟩
            rotate_left
            · simp (disch := first | omega | (simp only [lnx]; omega)) only [stdh, stdx, ↓reduceIte, seval]
              refine run_fin rfl rfl trivial ?_
              exact ⟨false, 1, fp1, t1.le, t1.kept, (fun e => by cases e), hi1⟩
            simp (disch := first | omega | (simp only [lnx]; omega)) only [stdh, stdx, ↓reduceIte, seval, load_imm]
            have s1 := hI.step 1 fp1 H1 (by omega) hi1
            rw [i1] at s1
            refine CallV.mono s1 fun av H2 hh => ?_
            obtain ⟨fp2, t2, hh⟩ := hh
            replace t2 := t1.trans t2
            refine runL_V 200 ?_
            rcases hh with ⟨rfl, hi2⟩ | ⟨rfl, hi2⟩
            rotate_left
            · simp (disch := first | omega | (simp only [lnx]; omega)) only [stdh, stdx, ↓reduceIte, seval]
              refine run_fin rfl rfl trivial ?_
              exact ⟨false, 2, fp2, t2.le, t2.kept, (fun e => by cases e), hi2⟩
            simp (disch := first | omega | (simp only [lnx]; omega)) only [stdh, stdx, ↓reduceIte, seval, load_imm]
            have s2 := hI.step 2 fp2 H2 (by omega) hi2
            rw [i2] at s2
            refine CallV.mono s2 fun av H3 hh => ?_
            obtain ⟨fp3, t3, hh⟩ := hh
            replace t3 := t2.trans t3
            refine runL_V 200 ?_
            rcases hh with ⟨rfl, hi3⟩ | ⟨rfl, hi3⟩
            rotate_left
            · simp (disch := first | omega | (simp only [lnx]; omega)) only [stdh, stdx, ↓reduceIte, seval]
              refine run_fin rfl rfl trivial ?_
              exact ⟨false, 3, fp3, t3.le, t3.kept, (fun e => by cases e), hi3⟩
            simp (disch := first | omega | (simp only [lnx]; omega)) only [stdh, stdx, ↓reduceIte, seval]
            refine run_fin rfl rfl trivial ?_
            exact ⟨true, 3, fp3, t3.le, t3.kept, fun _ => rfl, hi3⟩
    · skip
      by_cases h2 : h.c < 1
      · skip
        have i0 : wrongItem h 0 = [.int .i64 10, .bool (decide (2 < h.v))] := by simp [wrongItem, bads, errs, h0]
        have i1 : wrongItem h 1 = [.int .i64 9, .bool (decide (5 < h.k))] := by simp [wrongItem, bads, errs, h1]
        have i2 : wrongItem h 2 = [.int .i64 3, .bool true] := by simp [wrongItem, bads, errs, h2]
        simp (disch := first | omega | (simp only [lnx]; omega)) only [stdh, stdx, ↓reduceIte, seval, head_wrong_1, head_wrong_1.body, cellN, load_imm, encHd]
        have s0 := hI.step 0 fp H (by omega) hi
        rw [i0] at s0
        refine CallV.mono s0 fun av H1 hh => ?_
        obtain ⟨fp1, t1, hh⟩ := hh
        refine runL_V 200 ?_
        rcases hh with ⟨rfl, hi1⟩ | ⟨rfl, hi1⟩
        rotate_left
        · simp (disch := first | omega | (simp only [lnx]; omega)) only [stdh, stdx, ↓reduceIte, seval]
          refine run_fin rfl rfl trivial ?_
          exact ⟨false, 1, fp1, t1.le, t1.kept, (fun e => by cases e), hi1⟩
        simp (disch := first | omega | (simp only [lnx]; omega)) only [stdh, stdx, ↓reduceIte, seval, load_imm]
        have s1 := hI.step 1 fp1 H1 (by omega) hi1
        rw [i1] at s1
        refine CallV.mono s1 fun av H2 hh => ?_
        obtain ⟨fp2, t2, hh⟩ := hh
        replace t2 := t1.trans t2
        refine runL_V 200 ?_
        rcases hh with ⟨rfl, hi2⟩ | ⟨rfl, hi2⟩
        rotate_left
        · simp (disch := first | omega | (simp only [lnx]; omega)) only [stdh, stdx, ↓reduceIte, seval]
          refine run_fin rfl rfl trivial ?_
          exact ⟨false, 2, fp2, t2.le, t2.kept, (fun e => by cases e), hi2⟩
        simp (disch := first | omega | (simp only [lnx]; omega)) only [stdh, stdx, ↓reduceIte, seval, load_imm]
        have s2 := hI.step 2 fp2 H2 (by omega) hi2
        rw [i2] at s2
        refine CallV.mono s2 fun av H3 hh => ?_
        obtain ⟨fp3, t3, hh⟩ := hh
        replace t3 := t2.trans t3
        refine runL_V 200 ?_
        rcases hh with ⟨rfl, hi3⟩ | ⟨rfl, hi3⟩
        rotate_left
        · simp (disch := first | omega | (simp only [lnx]; omega)) only [stdh, stdx, ↓reduceIte, seval]
          refine run_fin rfl rfl trivial ?_
          exact ⟨false, 3, fp3, t3.le, t3.kept, (fun e => by cases e), hi3⟩
        simp (disch := first | omega | (simp only [lnx]; omega)) only [stdh, stdx, ↓reduceIte, seval]
        refine run_fin rfl rfl trivial ?_
        exact ⟨true, 3, fp3, t3.le, t3.kept, fun _ => rfl, hi3⟩
      · by_cases h3 : 255 < h.c
        · skip
          have i0 : wrongItem h 0 = [.int .i64 10, .bool (decide (2 < h.v))] := by simp [wrongItem, bads, errs, h0]
          have i1 : wrongItem h 1 = [.int .i64 9, .bool (decide (5 < h.k))] := by simp [wrongItem, bads, errs, h1]
          have i2 : wrongItem h 2 = [.int .i64 3, .bool true] := by simp [wrongItem, bads, errs, h2, h3]
          simp (disch := first | omega | (simp only [lnx]; omega)) only [stdh, stdx, ↓reduceIte, seval, head_wrong_1, head_wrong_1.body, cellN, load_imm, encHd]
          have s0 := hI.step 0 fp H (by omega) hi
          rw [i0] at s0
          refine CallV.mono s0 fun av H1 hh => ?_
          obtain ⟨fp1, t1, hh⟩ := hh
          refine runL_V 200 ?_
          rcases hh with ⟨rfl, hi1⟩ | ⟨rfl, hi1⟩
          rotate_left
          · simp (disch := first | omega | (simp only [lnx]; omega)) only [stdh, stdx, ↓reduceIte, seval]
            refine run_fin rfl rfl trivial ?_
            exact ⟨false, 1, fp1, t1.le, t1.kept, (fun e => by cases e), hi1⟩
          simp (disch := first | omega | (simp only [lnx]; omega)) only [stdh, stdx, ↓reduceIte, seval, load_imm]
          have s1 := hI.step 1 fp1 H1 (by omega) hi1
          rw [i1] at s1
          refine CallV.mono s1 fun av H2 hh => ?_
          obtain ⟨fp2, t2, hh⟩ := hh
          replace t2 := t1.trans t2
          refine runL_V 200 ?_
          rcases hh with ⟨rfl, hi2⟩ | ⟨rfl, hi2⟩
          rotate_left
          · simp (disch := first | omega | (simp only [lnx]; omega)) only [stdh, stdx, ↓reduceIte, seval]
            refine run_fin rfl rfl trivial ?_
            exact ⟨false, 2, fp2, t2.le, t2.kept, (fun e => by cases e), hi2⟩
          simp (disch := first | omega | (simp only [lnx]; omega)) only [stdh, stdx, ↓reduceIte, seval, load_imm]
          have s2 := hI.step 2 fp2 H2 (by omega) hi2
          rw [i2] at s2
          refine CallV.mono s2 fun av H3 hh => ?_
          obtain ⟨fp3, t3, hh⟩ := hh
          replace t3 := t2.trans t3
          refine runL_V 200 ?_
          rcases hh with ⟨rfl, hi3⟩ | ⟨rfl, hi3⟩
          rotate_left
          · simp (disch := first | omega | (simp only [lnx]; omega)) only [stdh, stdx, ↓reduceIte, seval]
            refine run_fin rfl rfl trivial ?_
            exact ⟨false, 3, fp3, t3.le, t3.kept, (fun e => by cases e), hi3⟩
          simp (disch := first | omega | (simp only [lnx]; omega)) only [stdh, stdx, ↓reduceIte, seval]
          refine run_fin rfl rfl trivial ?_
          exact ⟨true, 3, fp3, t3.le, t3.kept, fun _ => rfl, hi3⟩
        · by_cases h4 : h.i < 0
          · skip
            have i0 : wrongItem h 0 = [.int .i64 10, .bool (decide (2 < h.v))] := by simp [wrongItem, bads, errs, h0]
            have i1 : wrongItem h 1 = [.int .i64 9, .bool (decide (5 < h.k))] := by simp [wrongItem, bads, errs, h1]
            have i2 : wrongItem h 2 = [.int .i64 3, .bool true] := by simp [wrongItem, bads, errs, h2, h3, h4]
            simp (disch := first | omega | (simp only [lnx]; omega)) only [stdh, stdx, ↓reduceIte, seval, head_wrong_1, head_wrong_1.body, cellN, load_imm, encHd]
            have s0 := hI.step 0 fp H (by omega) hi
            rw [i0] at s0
            refine CallV.mono s0 fun av H1 hh => ?_
            obtain ⟨fp1, t1, hh⟩ := hh
            refine runL_V 200 ?_
            rcases hh with ⟨rfl, hi1⟩ | ⟨rfl, hi1⟩
            rotate_left
            · simp (disch := first | omega | (simp only [lnx]; omega)) only [stdh, stdx, ↓reduceIte, seval]
              refine run_fin rfl rfl trivial ?_
              exact ⟨false, 1, fp1, t1.le, t1.kept, (fun e => by cases e), hi1⟩
            simp (disch := first | omega | (simp only [lnx]; omega)) only [stdh, stdx, ↓reduceIte, seval, load_imm]
            have s1 := hI.step 1 fp1 H1 (by omega) hi1
            rw [i1] at s1
            refine CallV.mono s1 fun av H2 hh => ?_
            obtain ⟨fp2, t2, hh⟩ := hh
            replace t2 := t1.trans t2
            refine runL_V 200 ?_
            rcases hh with ⟨rfl, hi2⟩ | ⟨rfl, hi2⟩
            rotate_left
            · simp (disch := first | omega | (simp only [lnx]; omega)) only [stdh, stdx, ↓reduceIte, seval]
              refine run_fin rfl rfl trivial ?_
              exact ⟨false, 2, fp2, t2.le, t2.kept, (fun e => by cases e), hi2⟩
            simp (disch := first | omega | (simp only [lnx]; omega)) only [stdh, stdx, ↓reduceIte, seval, load_imm]
            have s2 := hI.step 2 fp2 H2 (by omega) hi2
            rw [i2] at s2
            refine CallV.mono s2 fun av H3 hh => ?_
            obtain ⟨fp3, t3, hh⟩ := hh
            replace t3 := t2.trans t3
            refine runL_V 200 ?_
            rcases hh with ⟨rfl, hi3⟩ | ⟨rfl, hi3⟩
            rotate_left
            · simp (disch := first | omega | (simp only [lnx]; omega)) only [stdh, stdx, ↓reduceIte, seval]
              refine run_fin rfl rfl trivial ?_
              exact ⟨false, 3, fp3, t3.le, t3.kept, (fun e => by cases e), hi3⟩
            simp (disch := first | omega | (simp only [lnx]; omega)) only [stdh, stdx, ↓reduceIte, seval]
            refine run_fin rfl rfl trivial ?_
            exact ⟨true, 3, fp3, t3.le, t3.kept, fun _ => rfl, hi3⟩
          · skip
            have i0 : wrongItem h 0 = [.int .i64 10, .bool (decide (2 < h.v))] := by simp [wrongItem, bads, errs, h0]
            have i1 : wrongItem h 1 = [.int .i64 9, .bool (decide (5 < h.k))] := by simp [wrongItem, bads, errs, h1]
            have i2 : wrongItem h 2 = [.int .i64 3, .bool (decide (h.c ≤ h.i))] := by simp [wrongItem, bads, errs, h2, h3, h4]
            simp (disch := first | omega | (simp only [lnx]; omega)) only [stdh, stdx, ↓reduceIte, seval, head_wrong_1, head_wrong_1.body, cellN, load_imm, encHd]
            have s0 := hI.step 0 fp H (by omega) hi
            rw [i0] at s0
            refine CallV.mono s0 fun av H1 hh => ?_
            obtain ⟨fp1, t1, hh⟩ := hh
            refine runL_V 200 ?_
            rcases hh with ⟨rfl, hi1⟩ | ⟨rfl, hi1⟩
            rotate_left
            · simp (disch := first | omega | (simp only [lnx]; omega)) only [stdh, stdx, ↓reduceIte, seval]
              refine run_fin rfl rfl trivial ?_
              exact ⟨false, 1, fp1, t1.le, t1.kept, (fun e => by cases e), hi1⟩
            simp (disch := first | omega | (simp only [lnx]; omega)) only [stdh, stdx, ↓reduceIte, seval, load_imm]
            have s1 := hI.step 1 fp1 H1 (by omega) hi1
            rw [i1] at s1
            refine CallV.mono s1 fun av H2 hh => ?_
            obtain ⟨fp2, t2, hh⟩ := hh
            replace t2 := t1.trans t2
            refine runL_V 200 ?_
            rcases hh with ⟨rfl, hi2⟩ | ⟨rfl, hi2⟩
            rotate_left
            · simp (disch := first | omega | (simp only [lnx]; omega)) only [stdh, stdx, ↓reduceIte, seval]
              refine run_fin rfl rfl trivial ?_
              exact ⟨false, 2, fp2, t2.le, t2.kept, (fun e => by cases e), hi2⟩
            simp (disch := first | omega | (simp only [lnx]; omega)) only [stdh, stdx, ↓reduceIte, seval, load_imm]
            have s2 := hI.step 2 fp2 H2 (by omega) hi2
            rw [i2] at s2
            refine CallV.mono s2 fun av H3 hh => ?_
            obtain ⟨fp3, t3, hh⟩ := hh
            replace t3 := t2.trans t3
            refine runL_V 200 ?_
            rcases hh with ⟨rfl, hi3⟩ | ⟨rfl, hi3⟩
            rotate_left
            · simp (disch := first | omega | (simp only [lnx]; omega)) only [stdh, stdx, ↓reduceIte, seval]
              refine run_fin rfl rfl trivial ?_
              exact ⟨false, 3, fp3, t3.le, t3.kept, (fun e => by cases e), hi3⟩
            simp (disch := first | omega | (simp only [lnx]; omega)) only [stdh, stdx, ↓reduceIte, seval]
            refine run_fin rfl rfl trivial ?_
            exact ⟨true, 3, fp3, t3.le, t3.kept, fun _ => rfl, hi3⟩


theorem wrong_ok (H : AHeap) (h : Hd) (Q : AVal → AHeap → Prop) (hq : Q (.fn F.head_wrong_1 [] [cellN (encHd h)]) H) : FunOK Try.prog F.head_wrong [.agg (encHd h)] H Q := by
  refine fun_iced head_wrong_code fun _ => ?_
  refine fun_V 60 head_wrong_code rfl ?_
  have hce : (encHd h).all AVal.cellish = true := rfl
  simp (disch := first | omega | (simp only [lnx]; omega)) only [stdh, stdx, ↓reduceIte, seval, head_wrong, head_wrong.body, hce]
  exact ice_cloN (by simp [encHd, closeds, closed]) hq

def cStop (h : Hd) (j : Nat) : Option AJump := if bads h j then some (.exit 0) else none
def cVal (h : Hd) (j : Nat) : AVal := .int .i64 ((if 0 < j ∧ bads h (j - 1) then errs (j - 1) else 0 : Nat) : Int)

theorem check_ok (H : AHeap) (h : Hd) (Q : AVal → AHeap → Prop) (hq : Q (.int .i64 (checkOf h : Nat)) H) : FunOK Try.prog F.head_Check [.agg (encHd h)] H Q := by
  refine fun_iced head_Check_code fun _ => ?_
  refine fun_V 60 head_Check_code rfl ?_
  have hce : (encHd h).all AVal.cellish = true := rfl
  have hel : (encHd h).length = 5 := rfl
  have het : (encHd h).take 5 = encHd h := rfl
  simp (disch := first | omega | (simp only [lnx]; omega)) only [stdh, stdx, ↓reduceIte, seval, head_Check, head_Check.body, hce, hel, het]
  refine callK_fn (wrong_ok _ h _ ?_)
  refine runL_V 60 ?_
  simp (disch := first | omega | (simp only [lnx]; omega)) only [stdh, stdx, ↓reduceIte, seval]
  have g1 : (H ++ [ABlk.cells (encHd h) T.head_Head, ABlk.cells [AVal.int IntKind.i64 0] T.api_Errno])[H.length + 1]? = some (.cells [cVal h 0] T.api_Errno) := at_k
  have hk := keeps_append H [ABlk.cells (encHd h) T.head_Head, ABlk.cells [AVal.int IntKind.i64 0] T.api_Errno]
  have hl2 : (H ++ [ABlk.cells (encHd h) T.head_Head, ABlk.cells [AVal.int IntKind.i64 0] T.api_Errno]).length = H.length + 2 := by simp
  generalize H ++ [ABlk.cells (encHd h) T.head_Head, ABlk.cells [AVal.int IntKind.i64 0] T.api_Errno] = H2 at *
  refine range_vars (g := F.head_wrong_1) (first := []) (captured := [cellN (encHd h)]) rfl (by intro n hn; cases hn) (item := wrongItem h) (len := 3) (fun j => rfl) [(H.length + 1, T.api_Errno, cVal h)] (cStop h) (vars_cons g1 vars_nil) ?_ (fun _ _ _ => wrong_iter h) ?_ ?_
  · intro a' b' j H1 hj hst hl hkp hrec hv
    have q1 := hv.get (c := H.length + 1) (T := T.api_Errno) (f := cVal h) (by simp)
    have hkv : cVal h j = .int .i64 0 := by
      cases j with
      | zero => rfl
      | succ j =>
        have := hst j (by omega)
        unfold cStop at this
        split at this
        · cases this
        · rename_i hne
          simp only [cVal, Nat.add_sub_cancel]
          rw [if_neg (fun hh => hne hh.2)]; rfl
    refine run_V0 60 ?_
    cases hw : bads h j with
    | true =>
      have hs : cStop h j = some (.exit 0) := by simp only [cStop, hw, if_true]
      rw [hs]
      simp (disch := first | omega | (simp only [lnx]; omega)) only [stdh, stdx, ↓reduceIte, seval, head_Check.a0, head_Check.b0, hrec, q1, hkv, wrongItem, List.zip_cons_cons, List.zip_nil_left, List.reverse_cons, List.reverse_nil, List.getElem?_set_self, List.getElem?_set_ne, hw]
      refine .inr ⟨rfl, H2.length, _, rfl, by simp (disch := first | omega | (simp only [lnx]; omega)) only [List.getElem?_set_ne, List.getElem?_set_self, List.length_set, ne_eq, not_false_eq_true]; rfl, ?_⟩
      refine varsQ_mk rfl (by (first | omega | (simp only [lnx]; omega))) (fun m m1 m2 m3 => ?_) (vars_cons ?_ vars_nil) (by simp (disch := first | omega | (simp only [lnx]; omega)) only [List.getElem?_set_ne, List.getElem?_set_self, List.length_set, ne_eq, not_false_eq_true]; rfl)
      · simp only [List.map_cons, List.map_nil, List.mem_cons, List.not_mem_nil, or_false] at m3
        simp (disch := first | omega | (simp only [lnx]; omega)) only [List.getElem?_set_ne, List.getElem?_set_self, List.length_set, ne_eq, not_false_eq_true]
      · show _ = some (ABlk.cells [cVal h (j + 1)] T.api_Errno)
        have : cVal h (j + 1) = .int .i64 (errs j : Nat) := by
          simp only [cVal, Nat.add_sub_cancel]; rw [if_pos ⟨by omega, hw⟩]
        rw [this]; simp (disch := first | omega | (simp only [lnx]; omega)) only [List.getElem?_set_ne, List.getElem?_set_self, List.length_set, ne_eq, not_false_eq_true]
    | false =>
      have hs : cStop h j = none := by simp [cStop, hw]
      rw [hs]
      simp (disch := first | omega | (simp only [lnx]; omega)) only [stdh, stdx, ↓reduceIte, seval, head_Check.a0, head_Check.b0, hrec, q1, hkv, wrongItem, List.zip_cons_cons, List.zip_nil_left, List.reverse_cons, List.reverse_nil, List.getElem?_set_self, List.getElem?_set_ne, hw]
      refine round_fin (n := H2.length) (L := lrec _ _ _ a' b' .busy none) rfl (by simp (disch := first | omega | (simp only [lnx]; omega)) only [List.getElem?_set_ne, List.getElem?_set_self, List.length_set, ne_eq, not_false_eq_true]; rfl) ?_
      refine varsQ_mk rfl (by (first | omega | (simp only [lnx]; omega))) (fun m m1 m2 m3 => ?_) (vars_cons ?_ vars_nil) (by simp (disch := first | omega | (simp only [lnx]; omega)) only [List.getElem?_set_ne, List.getElem?_set_self, List.length_set, ne_eq, not_false_eq_true]; rfl)
      · simp only [List.map_cons, List.map_nil, List.mem_cons, List.not_mem_nil, or_false] at m3
        simp (disch := first | omega | (simp only [lnx]; omega)) only [List.getElem?_set_ne, List.getElem?_set_self, List.length_set, ne_eq, not_false_eq_true]
      · show _ = some (ABlk.cells [cVal h (j + 1)] T.api_Errno)
        have : cVal h (j + 1) = .int .i64 0 := by
          simp [cVal, hw]
        rw [this, ← hkv]; simp (disch := first | omega | (simp only [lnx]; omega)) only [List.getElem?_set_ne, List.getElem?_set_self, List.length_set, ne_eq, not_false_eq_true]; exact q1
  · intro H' hl hkp hst hv
    have q1 := hv.get (c := H.length + 1) (T := T.api_Errno) (f := cVal h) (by simp)
    have hb : ∀ j, j < 3 → bads h j = false := fun j hj => by
      have := hst j hj
      unfold cStop at this
      split at this
      · cases this
      · rename_i hne; simpa using hne
    have h0 : checkOf h = 0 := by simp [checkOf, hb 0 (by omega), hb 1 (by omega), hb 2 (by omega)]
    have hc : cVal h 3 = .int .i64 0 := by simp [cVal, hb 2 (by omega)]
    rw [h0] at hq
    rw [hc] at q1
    refine run_V0 60 ?_
    simp (disch := first | omega | (simp only [lnx]; omega)) only [stdh, stdx, ↓reduceIte, seval, q1]
    have hkH : Keeps H H' := ⟨by omega, fun m hm => by rw [hkp m (by omega) (by simp; omega), hk.at_ m hm]⟩
    exact ice_keeps hkH trivial hq
  · intro ap j H' hl hkp hj hs hst hv
    have q1 := hv.get (c := H.length + 1) (T := T.api_Errno) (f := cVal h) (by simp)
    have hw : bads h j = true := by
      refine Classical.byContradiction fun hn => ?_
      simp only [cStop, if_neg hn] at hs
      cases hs
    simp only [cStop, hw, if_true] at hs
    cases hs
    have e1 : cVal h (j + 1) = .int .i64 (errs j : Nat) := by
      simp only [cVal, Nat.add_sub_cancel]; rw [if_pos ⟨by omega, hw⟩]
    have hb : ∀ i, i < j → bads h i = false := fun i hi => by
      have := hst i hi
      unfold cStop at this
      split at this
      · cases this
      · rename_i hne; simpa using hne
    have hc : checkOf h = errs j := by
      have h3 : j = 0 ∨ j = 1 ∨ j = 2 := by omega
      rcases h3 with rfl | rfl | rfl
      · simp [checkOf, hw, errs]
      · simp [checkOf, hb 0 (by omega), hw, errs]
      · simp [checkOf, hb 0 (by omega), hb 1 (by omega), hw, errs]
    rw [e1, ← hc] at q1
    refine run_V0 60 ?_
    simp (disch := first | omega | (simp only [lnx]; omega)) only [stdh, stdx, ↓reduceIte, seval, jumpItems, q1]
    have hkH : Keeps H H' := ⟨by omega, fun m hm => by rw [hkp m (by omega) (by simp; omega), hk.at_ m hm]⟩
    exact ice_keeps hkH trivial hq
end Go.Proofs.Ytamcfgdnhgmkpaa
