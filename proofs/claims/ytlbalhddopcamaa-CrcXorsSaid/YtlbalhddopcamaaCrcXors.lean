/-
  whatever three lists of bytes, the law CrcXors returns true. No condition. By an AI agent. No person has read it.
-/
import Derived.Test.YtlbalhddopcamaaSUM
import Derived.Test.YtlbalhddopcamaaAm6
import Derived.OpenShut
import Derived.Test.YtlbalhddopcamaaRows

namespace Go.Proofs.Ytlbalhddopcamaa
open Go Go.Am
set_option linter.unusedSimpArgs false
set_option linter.unusedVariables false

def u8v (xs : List Nat) : List AVal := xs.map fun n : Nat => AVal.int .u8 (n : Int)
theorem u8v_len (xs : List Nat) : (u8v xs).length = xs.length := by simp [u8v]

def xorL (a b c : List Nat) (n : Nat) : List Nat := (List.range n).map fun j => a.getD j 0 ^^^ b.getD j 0 ^^^ c.getD j 0
theorem xorL_len (a b c : List Nat) (n : Nat) : (xorL a b c n).length = n := by simp [xorL]
theorem xorL_succ (a b c : List Nat) (n : Nat) : xorL a b c (n + 1) = xorL a b c n ++ [a.getD n 0 ^^^ b.getD n 0 ^^^ c.getD n 0] := by simp [xorL, List.range_succ]

theorem getD_lt {a : List Nat} (h : ∀ x ∈ a, x < 256) (j : Nat) : a.getD j 0 < 256 := by
  rw [List.getD_eq_getElem?_getD]
  by_cases hj : j < a.length
  · simp [hj]; exact h _ (List.getElem_mem hj)
  · simp [hj]

theorem closed_dead {H : AHeap} (h : ClosedH H) (m : Nat) : ClosedH (H.set m .dead) := by
  intro n c hc
  rw [List.length_set]
  by_cases hm : m = n
  · subst hm
    rw [List.getElem?_set] at hc
    split at hc <;> first | (split at hc) | skip
    all_goals first | (cases hc; trivial) | (cases hc) | skip
    all_goals simp_all
  · rw [List.getElem?_set_ne hm] at hc
    exact h n c hc

abbrev xoC : Ctx := ⟨F.cuneiformlaw04_CrcXors, 69, [.tmp 6], none⟩

/-- The list that is being made. -/
def XAt (H : AHeap) (x : AVal) (xs : List Nat) : Prop := (xs = [] ∧ x = .nils ∧ ClosedH H) ∨ ∃ HB, ClosedH HB ∧ H = HB ++ [.vec (u8v xs) T.uint8 1] ∧ x = .slc HB.length 0 xs.length 1

theorem xors_loop (K : List AItem) (Q : AVal → AHeap → Prop) {a b c : List Nat} (ha : ∀ x ∈ a, x < 256) (hb : ∀ x ∈ b, x < 256) (hc : ∀ x ∈ c, x < 256) {t1 t2 t3 : Bool} {n : Nat} (hna : n ≤ a.length) (hnb : n ≤ b.length) (hnc : n ≤ c.length) (hn : n ≤ 100)
    (hK : ∀ r' H' x, XAt H' x (xorL a b c n) → rget r' 0 = nums .u8 t1 a → rget r' 1 = nums .u8 t2 b → rget r' 2 = nums .u8 t3 c → rget r' 7 = .int .i64 (n : Nat) → rget r' 8 = tabV → rget r' 9 = x → Run Try.prog xoC K r' H' Q) :
    ∀ (m i : Nat) (H : AHeap) (x : AVal), n - i = m → i ≤ n → XAt H x (xorL a b c i) →
    Rounds Try.prog xoC cuneiformlaw04_CrcXors.b1 [.inBlock 0] K [(0, nums .u8 t1 a), (1, nums .u8 t2 b), (2, nums .u8 t3 c), (7, .int .i64 (n : Nat)), (8, tabV), (9, x), (10, .int .i64 (i : Nat))] H Q
  | m, i, H, x, h1, h2, hx => by
    refine loop_V 100 cuneiformlaw04_CrcXors.b1.eq_1 ?_
    by_cases hi : i < n
    · have l1 := getD_lt ha i
      have l2 := getD_lt hb i
      have l3 := getD_lt hc i
      have hs := xorL_succ a b c i
      have hxl := xorL_len a b c i
      have g1 : loadA H none (.sptr (nums .u8 t1 a) i) = some (True, .int .u8 ((a.getD i 0 : Nat) : Int)) := load_nums (by omega)
      have g2 : loadA H none (.sptr (nums .u8 t2 b) i) = some (True, .int .u8 ((b.getD i 0 : Nat) : Int)) := load_nums (by omega)
      have g3 : loadA H none (.sptr (nums .u8 t3 c) i) = some (True, .int .u8 ((c.getD i 0 : Nat) : Int)) := load_nums (by omega)
      generalize a.getD i 0 = u at *
      generalize b.getD i 0 = v at *
      generalize c.getD i 0 = w at *
      have huv : u ^^^ v < 256 := Nat.xor_lt_two_pow (n := 8) l1 l2
      have huw : u ^^^ v ^^^ w < 256 := Nat.xor_lt_two_pow (n := 8) huv l3
      have e1 := bits_xor (k := .u8) rfl (a := u) (b := v) l1 l2
      have e2 := bits_xor (k := .u8) rfl (a := u ^^^ v) (b := w) huv l3
      generalize u ^^^ v ^^^ w = z at *
      have hown : Own 1 T.uint8 0 (H ++ [ABlk.vec [.int .u8 (z : Nat)] T.uint8 1]) x i (u8v (xorL a b c i)) ∧ ClosedH (killA (H ++ [ABlk.vec [.int .u8 (z : Nat)] T.uint8 1]) x) := by
        rcases hx with ⟨h0, rfl, hcl⟩ | ⟨HB, hcl, rfl, rfl⟩
        · have : i = 0 := by rw [h0] at hxl; simpa using hxl.symm
          subst this
          exact ⟨Own.nil, hcl.push ⟨trivial, trivial⟩⟩
        · refine ⟨⟨by rw [u8v_len, hxl, Nat.mul_one], .inr ⟨HB.length, Nat.zero_le _, by rw [hxl], by simp⟩⟩, ?_⟩
          exact closed_dead ((hcl.push (b := .vec (u8v (xorL a b c i)) T.uint8 1) (closeds_ints _ _)).push (b := .vec [.int .u8 (z : Nat)] T.uint8 1) ⟨trivial, trivial⟩) _
      obtain ⟨p, a1, hp⟩ := Own.append3 hown.1 (x := .slc H.length 0 1 1) (k := 1) (ys := [.int .u8 (z : Nat)]) 1 rfl (by simp [srcCells, view, content, at_0]) rfl (by omega) (by omega) (by omega) rfl
      simp (disch := first | omega | (simp only [lnx]; omega)) only [stdh, stdx, ↓reduceIte, Nat.reduceEqDiff, Int.reduceToNat, Int.reducePow, Nat.reduceAdd, Nat.reduceLeDiff, Nat.reduceMul, Nat.reduceBEq, reduceCtorEq, cuneiformlaw04_CrcXors.d0, g1, g2, g3, e1, e2, a1, hp]
      rw [show (i : Int) + 1 = ((i + 1 : Nat) : Int) by omega]
      refine xors_loop K Q ha hb hc hna hnb hnc hn hK _ (i + 1) _ _ rfl (by omega) (.inr ⟨_, hown.2, ?_, ?_⟩)
      · rw [hs]; simp [u8v]
      · rw [killA_len, hs, List.length_append, List.length_append, hxl]; simp
    · have : i = n := by omega
      subst this
      simp (disch := first | omega | (simp only [lnx]; omega)) only [stdh, stdx, ↓reduceIte, Nat.reduceEqDiff, Int.reduceToNat, Int.reducePow, Nat.reduceAdd, Nat.reduceLeDiff, Nat.reduceMul, Nat.reduceBEq, reduceCtorEq]
      exact hK _ H x hx rfl rfl rfl rfl rfl rfl
  termination_by m => m

theorem xor4 (x y u v : Nat) : (x ^^^ y) ^^^ (u ^^^ v) = (x ^^^ u) ^^^ (y ^^^ v) := by
  refine Nat.eq_of_testBit_eq fun i => ?_
  simp only [Nat.testBit_xor]
  cases x.testBit i <;> cases y.testBit i <;> cases u.testBit i <;> cases v.testBit i <;> rfl

theorem valL_zip : ∀ (xs ys : List Nat), xs.length = ys.length → valL (List.zipWith (· ^^^ ·) xs ys) = valL xs ^^^ valL ys
  | [], [], _ => by simp [valL]
  | x :: xs, y :: ys, h => by
    rw [List.zipWith_cons_cons, valL, valL, valL, valL_zip xs ys (by simpa using h), xor_mul]
    exact xor4 _ _ _ _
  | [], _ :: _, h => by simp at h
  | _ :: _, [], h => by simp at h

theorem xorL_zip {a b c : List Nat} {n : Nat} (hna : n ≤ a.length) (hnb : n ≤ b.length) (hnc : n ≤ c.length) : xorL a b c n = List.zipWith (· ^^^ ·) (List.zipWith (· ^^^ ·) (a.take n) (b.take n)) (c.take n) := by
  apply List.ext_getElem?
  intro i
  by_cases hi : i < n
  · simp [xorL, List.getElem?_zipWith, hi, List.getElem?_take, List.getElem?_eq_getElem (show i < a.length by omega), List.getElem?_eq_getElem (show i < b.length by omega), List.getElem?_eq_getElem (show i < c.length by omega)]
  · rw [List.getElem?_eq_none (by rw [xorL_len]; omega), List.getElem?_eq_none (by simp; omega)]

theorem sum_xor {bs : List Nat} (hb : ∀ x ∈ bs, x < 256) : sumOf bs = 4294967295 ^^^ shN (8 * bs.length) (4294967295 ^^^ valL bs) := by
  rw [← addAll_val]
  have h := xor_not (addAll_lt bs (show 4294967295 < 4294967296 by omega) hb)
  unfold sumOf
  generalize addAll 4294967295 bs = s at *
  generalize 4294967295 - s = d at *
  rw [← h, Nat.xor_comm s d, Nat.xor_assoc, Nat.xor_self, Nat.xor_zero]

theorem xor_alg (o s a b c : Nat) : o ^^^ (s ^^^ (a ^^^ b ^^^ c)) = (o ^^^ (s ^^^ a)) ^^^ (o ^^^ (s ^^^ b)) ^^^ (o ^^^ (s ^^^ c)) := by
  refine Nat.eq_of_testBit_eq fun i => ?_
  simp only [Nat.testBit_xor]
  cases o.testBit i <;> cases s.testBit i <;> cases a.testBit i <;> cases b.testBit i <;> cases c.testBit i <;> rfl

theorem sums_xor {a b c : List Nat} {n : Nat} (ha : ∀ x ∈ a, x < 256) (hb : ∀ x ∈ b, x < 256) (hc : ∀ x ∈ c, x < 256) (hna : n ≤ a.length) (hnb : n ≤ b.length) (hnc : n ≤ c.length) (hx : ∀ x ∈ xorL a b c n, x < 256) :
    sumOf (xorL a b c n) = sumOf (a.take n) ^^^ sumOf (b.take n) ^^^ sumOf (c.take n) := by
  rw [sum_xor hx, sum_xor fun x h => ha x (List.mem_of_mem_take h), sum_xor fun x h => hb x (List.mem_of_mem_take h), sum_xor fun x h => hc x (List.mem_of_mem_take h)]
  have l1 : (a.take n).length = n := by rw [List.length_take]; omega
  have l2 : (b.take n).length = n := by rw [List.length_take]; omega
  have l3 : (c.take n).length = n := by rw [List.length_take]; omega
  rw [xorL_len, xorL_zip hna hnb hnc, valL_zip _ _ (by rw [List.length_zipWith, l1, l2, l3]; omega), valL_zip _ _ (by rw [l1, l2]), l1, l2, l3]
  rw [shN_xor _ 4294967295 (valL (a.take n) ^^^ valL (b.take n) ^^^ valL (c.take n)), shN_xor _ _ (valL (c.take n)), shN_xor _ (valL (a.take n)), shN_xor _ 4294967295 (valL (a.take n)), shN_xor _ 4294967295 (valL (b.take n)), shN_xor _ 4294967295 (valL (c.take n))]
  exact xor_alg _ _ _ _ _

set_option maxHeartbeats 8000000 in
theorem xors_ok {a b c : List Nat} (ha : ∀ x ∈ a, x < 256) (hb : ∀ x ∈ b, x < 256) (hc : ∀ x ∈ c, x < 256) (hla : a.length ≤ 9223372036854775807) (hlb : b.length ≤ 9223372036854775807) (hlc : c.length ≤ 9223372036854775807) :
    FunOK Try.prog F.cuneiformlaw04_CrcXors [nums .u8 false a, nums .u8 false b, nums .u8 false c] [] fun av _ => av = .bool true := by
  obtain ⟨n, hn⟩ : ∃ n : Nat, n = min (min (min a.length b.length) c.length) 100 := ⟨_, rfl⟩
  have hmin : (if (100 : Int) < (if (c.length : Int) < (if (b.length : Int) < (a.length : Int) then (b.length : Int) else (a.length : Int)) then (c.length : Int) else (if (b.length : Int) < (a.length : Int) then (b.length : Int) else (a.length : Int))) then 100 else (if (c.length : Int) < (if (b.length : Int) < (a.length : Int) then (b.length : Int) else (a.length : Int)) then (c.length : Int) else (if (b.length : Int) < (a.length : Int) then (b.length : Int) else (a.length : Int)))) = (n : Int) := by
    repeat' split
    all_goals omega
  have hna : n ≤ a.length := by omega
  have hnb : n ≤ b.length := by omega
  have hnc : n ≤ c.length := by omega
  refine fun_V 100 cuneiformlaw04_CrcXors_code rfl ?_
  simp (disch := first | omega | (simp only [lnx]; omega)) only [stdh, stdx, ↓reduceIte, Nat.reduceEqDiff, Int.reduceToNat, Int.reducePow, Nat.reduceAdd, Nat.reduceLeDiff, Nat.reduceMul, Nat.reduceBEq, reduceCtorEq, cuneiformlaw04_CrcXors, cuneiformlaw04_CrcXors.body, hmin]
  refine callK_fn (new_ok _ _ ?_)
  refine runL_V 60 ?_
  simp (disch := first | omega | (simp only [lnx]; omega)) only [stdh, stdx, ↓reduceIte, Nat.reduceEqDiff, Int.reduceToNat, Int.reducePow, Nat.reduceAdd, Nat.reduceLeDiff, Nat.reduceMul, Nat.reduceBEq, reduceCtorEq]
  refine xors_loop _ _ ha hb hc hna hnb hnc (by omega) ?_ _ 0 _ _ rfl (by omega) (.inl ⟨rfl, rfl, fun n b h => by simp at h⟩)
  intro r H x hx f0 f1 f2 f7 f8 f9
  have hxb : ∀ y ∈ xorL a b c n, y < 256 := fun y hy => by
    obtain ⟨j, _, rfl⟩ := List.mem_map.1 hy
    exact Nat.xor_lt_two_pow (n := 8) (Nat.xor_lt_two_pow (n := 8) (getD_lt ha j) (getD_lt hb j)) (getD_lt hc j)
  have hsx := sums_xor ha hb hc hna hnb hnc hxb
  have hta : ∀ x ∈ a.take n, x < 256 := fun x h => ha x (List.mem_of_mem_take h)
  have htb : ∀ x ∈ b.take n, x < 256 := fun x h => hb x (List.mem_of_mem_take h)
  have htc : ∀ x ∈ c.take n, x < 256 := fun x h => hc x (List.mem_of_mem_take h)
  have hla' : (a.take n).length ≤ 9223372036854775807 := by rw [List.length_take]; omega
  have hlb' : (b.take n).length ≤ 9223372036854775807 := by rw [List.length_take]; omega
  have hlc' : (c.take n).length ≤ 9223372036854775807 := by rw [List.length_take]; omega
  have hlx' : (xorL a b c n).length ≤ 9223372036854775807 := by rw [xorL_len]; omega
  have e1 := bits_xor (k := .u32) rfl (a := sumOf (a.take n)) (b := sumOf (b.take n)) (sumOf_lt _) (sumOf_lt _)
  have e2 := bits_xor (k := .u32) rfl (a := sumOf (a.take n) ^^^ sumOf (b.take n)) (b := sumOf (c.take n)) (xor_lt (sumOf_lt _) (sumOf_lt _)) (sumOf_lt _)
  rw [← hsx] at e2
  -- the list is iced
  obtain ⟨G, hG⟩ : ∃ G : AHeap, ∀ (Q : AVal → AHeap → Prop) K, (∀ r2 x2, Sees x2 (nums .u8 false (xorL a b c n)) → (x2.cells = [x2] ∧ x2.cellish = true) → rget r2 0 = nums .u8 false a → rget r2 1 = nums .u8 false b → rget r2 2 = nums .u8 false c → rget r2 7 = .int .i64 (n : Nat) → rget r2 8 = tabV → rget r2 9 = x2 → Run Try.prog xoC K r2 G Q) → Run Try.prog xoC K r H Q := by
    rcases hx with ⟨h0, rfl, hcl⟩ | ⟨HB, hcl, rfl, rfl⟩
    · exact ⟨H, fun Q K hh => hh r .nils (by rw [h0]; exact Sees.nils false) ⟨rfl, rfl⟩ f0 f1 f2 f7 f8 f9⟩
    · refine ⟨HB ++ [.dead], fun Q K hh => ?_⟩
      refine run_iceLast hcl (closeds_ints _ _) (by intro n hn; cases hn) ?_
      refine hh _ (nums .u8 false (xorL a b c n)) (Sees.refl _) ⟨rfl, rfl⟩ ?_ ?_ ?_ ?_ ?_ ?_
      · rw [rget_mv, f0, mv_nums]
      · rw [rget_mv, f1, mv_nums]
      · rw [rget_mv, f2, mv_nums]
      · rw [rget_mv, f7]; rfl
      · rw [rget_mv, f8]; unfold tabV; rw [mv, mv_nums]
      · rw [rget_mv, f9, mv_iceAt (by rw [u8v_len]; omega)]; rfl
  refine hG _ _ fun r2 x2 hx2 hxcell k0 k1 k2 k7 k8 k9 => ?_
  generalize hS1 : sumOf (a.take n) = S1 at *
  generalize hS2 : sumOf (b.take n) = S2 at *
  generalize hS3 : sumOf (c.take n) = S3 at *
  generalize hS0 : sumOf (xorL a b c n) = S0 at *
  obtain ⟨hxc1, hxc2⟩ := hxcell
  refine run_V0 300 ?_
  simp (disch := first | omega | (simp only [lnx]; omega)) only [stdh, stdx, ↓reduceIte, Nat.reduceEqDiff, Int.reduceToNat, Int.reducePow, Nat.reduceAdd, Nat.reduceLeDiff, Nat.reduceMul, Nat.reduceBEq, reduceCtorEq, k0, k1, k2, k7, k8, k9, cuneiformlaw04_CrcXors.d2]
  refine ⟨?_, ?_, ?_, ?_, ?_, ?_, ?_, ?_, ?_, ?_, ?_, ?_, ?_, ?_, ?_, ?_, ?_, ?_, ?_, ?_, ?_, ?_, ?_, ?_, ?_, ?_, ?_, ?_, ?_, ?_, ?_, ?_, ?_, ?_, ?_, ?_, ?_, ?_, ?_, ?_, ?_, ?_, ?_, ?_, ?_, ?_, ?_, ?_, ?_, ?_, ?_, ?_, ?_, ?_, ?_, ?_, ?_, ?_, ?_, ?_, ?_, ?_, ?_, ?_, ?_, ?_, ?_, ?_, ?_, ?_, ?_, ?_, ?_, ?_, ?_, ?_, ?_, ?_, ?_, ?_, ?_, ?_, ?_, ?_, ?_, ?_, ?_, ?_, ?_, ?_, ?_, ?_, ?_, ?_, ?_, ?_, ?_, ?_, ?_, ?_, ?_, ?_, ?_, ?_, ?_⟩
  all_goals
    refine callD_fn (known04_ok _ _ ?_)
    refine ⟨by simp (disch := first | omega | (simp only [lnx]; omega)) only [stdh, stdx, ↓reduceIte, Nat.reduceEqDiff, Int.reduceToNat, Int.reducePow, Nat.reduceAdd, Nat.reduceLeDiff, Nat.reduceMul, Nat.reduceBEq, reduceCtorEq], ?_⟩
    refine runD_V 60 ?_
    simp (disch := first | omega | (simp only [lnx]; omega)) only [stdh, stdx, ↓reduceIte, Nat.reduceEqDiff, Int.reduceToNat, Int.reducePow, Nat.reduceAdd, Nat.reduceLeDiff, Nat.reduceMul, Nat.reduceBEq, reduceCtorEq, k0, k1, k2, k7, k8, k9, hxc1, hxc2]
    refine callD_fn (sum_ok _ (lists_one (el := T.sl_uint8) (bs := xorL a b c n) (t := false) ?hblk hx2 hxb hlx') _ ?_)
    case hblk => first | exact at_0 | (rw [at_k]; rfl)
    rw [show [xorL a b c n].flatten = xorL a b c n by simp, hS0]
    refine ⟨by simp (disch := first | omega | (simp only [lnx]; omega)) only [stdh, stdx, ↓reduceIte, Nat.reduceEqDiff, Int.reduceToNat, Int.reducePow, Nat.reduceAdd, Nat.reduceLeDiff, Nat.reduceMul, Nat.reduceBEq, reduceCtorEq], ?_⟩
    refine runD_V 60 ?_
    simp (disch := first | omega | (simp only [lnx]; omega)) only [stdh, stdx, ↓reduceIte, Nat.reduceEqDiff, Int.reduceToNat, Int.reducePow, Nat.reduceAdd, Nat.reduceLeDiff, Nat.reduceMul, Nat.reduceBEq, reduceCtorEq, k0, k1, k2, k7, k8, k9, hxc1, hxc2, e1, e2]
    refine callD_fn (sum_ok _ (lists_one (el := T.sl_uint8) (bs := a.take n) (t := (false && decide (n = a.length))) ?hblk (Sees.refl _) hta hla') _ ?_)
    case hblk => first | exact at_0 | (rw [at_k]; rfl)
    rw [show [a.take n].flatten = a.take n by simp, hS1]
    refine ⟨by simp (disch := first | omega | (simp only [lnx]; omega)) only [stdh, stdx, ↓reduceIte, Nat.reduceEqDiff, Int.reduceToNat, Int.reducePow, Nat.reduceAdd, Nat.reduceLeDiff, Nat.reduceMul, Nat.reduceBEq, reduceCtorEq], ?_⟩
    refine runD_V 60 ?_
    simp (disch := first | omega | (simp only [lnx]; omega)) only [stdh, stdx, ↓reduceIte, Nat.reduceEqDiff, Int.reduceToNat, Int.reducePow, Nat.reduceAdd, Nat.reduceLeDiff, Nat.reduceMul, Nat.reduceBEq, reduceCtorEq, k0, k1, k2, k7, k8, k9, hxc1, hxc2, e1, e2]
    refine callD_fn (sum_ok _ (lists_one (el := T.sl_uint8) (bs := b.take n) (t := (false && decide (n = b.length))) ?hblk (Sees.refl _) htb hlb') _ ?_)
    case hblk => first | exact at_0 | (rw [at_k]; rfl)
    rw [show [b.take n].flatten = b.take n by simp, hS2]
    refine ⟨by simp (disch := first | omega | (simp only [lnx]; omega)) only [stdh, stdx, ↓reduceIte, Nat.reduceEqDiff, Int.reduceToNat, Int.reducePow, Nat.reduceAdd, Nat.reduceLeDiff, Nat.reduceMul, Nat.reduceBEq, reduceCtorEq], ?_⟩
    refine runD_V 60 ?_
    simp (disch := first | omega | (simp only [lnx]; omega)) only [stdh, stdx, ↓reduceIte, Nat.reduceEqDiff, Int.reduceToNat, Int.reducePow, Nat.reduceAdd, Nat.reduceLeDiff, Nat.reduceMul, Nat.reduceBEq, reduceCtorEq, k0, k1, k2, k7, k8, k9, hxc1, hxc2, e1, e2]
    refine callD_fn (sum_ok _ (lists_one (el := T.sl_uint8) (bs := c.take n) (t := (false && decide (n = c.length))) ?hblk (Sees.refl _) htc hlc') _ ?_)
    case hblk => first | exact at_0 | (rw [at_k]; rfl)
    rw [show [c.take n].flatten = c.take n by simp, hS3]
    refine ⟨by simp (disch := first | omega | (simp only [lnx]; omega)) only [stdh, stdx, ↓reduceIte, Nat.reduceEqDiff, Int.reduceToNat, Int.reducePow, Nat.reduceAdd, Nat.reduceLeDiff, Nat.reduceMul, Nat.reduceBEq, reduceCtorEq], ?_⟩
    refine runD_V 60 ?_
    simp (disch := first | omega | (simp only [lnx]; omega)) only [stdh, stdx, ↓reduceIte, Nat.reduceEqDiff, Int.reduceToNat, Int.reducePow, Nat.reduceAdd, Nat.reduceLeDiff, Nat.reduceMul, Nat.reduceBEq, reduceCtorEq, k0, k1, k2, k7, k8, k9, hxc1, hxc2, e1, e2]
end Go.Proofs.Ytlbalhddopcamaa

namespace Go.Proofs.Ytlbalhddopcamaa.crcXors
open Go Go.Am Go.ChangeShapes Go.WideShapes Go.ChangeAt Go.RowKit
set_option linter.unusedVariables false

theorem own : ownKnob Try.prog.godebug = none := by kernel_rfl
theorem laidOut : laidOutB Try.prog = true := by kernel_rfl

set_option maxRecDepth 100000 in
theorem lifted (os : Os) (started : os.Started) (H : Type) (enc : TypeId × Value → H) :
    ReturnsInHanded {} Try.checked os F.cuneiformlaw04_CrcXors .any (Rows.crcXorsSpec.pre6 enc Try.prog Try.f4 Rows.crcXorsRow.domain false) (Rows.crcXorsSpec.post enc Try.prog Try.f4 false true false false) := by
  refine returnsInHanded_of_change (C := Try.checked) own started (by kernel_rfl) Try.func4
    (ChangeSpec.witness6 (enc := enc) (C := Try.checked) false ⟨#[], #[.slice none 0 0, .slice none 0 0, .slice none 0 0], []⟩ 8 (by kernel_rfl) (by kernel_rfl) (by kernel_rfl) (by kernel_rfl)) ?_
  intro W base args ds gs before hval hW hcnd _
  refine law_calls (shs := [.slice (.int .u8), .slice (.int .u8), .slice (.int .u8)]) (tb := 4) laidOut (by kernel_rfl) ?_ (by kernel_rfl) Try.underlying4 rfl ?_ ?_ hval hW
  · intro t ht
    have : ∀ t ∈ Try.f4.params.toList, (Try.prog.readableRec t && decide (t < Try.prog.types.size)) = true := List.all_eq_true.1 (by kernel_rfl)
    simpa using this t ht
  · intro H ds hd
    match ds, hd with
    | [d0, d1, d2], _ => exact ⟨rfl, rfl, rfl⟩
  · rintro xs ⟨a, r, rfl, ha, b, r', rfl, hb, c, r'', rfl, hc, rfl⟩
    obtain ⟨as_, p1, p2, p3⟩ := nums_fits (k := .u8) rfl ha
    obtain ⟨bs_, q1, q2, q3⟩ := nums_fits (k := .u8) rfl hb
    obtain ⟨cs_, s1, s2, s3⟩ := nums_fits (k := .u8) rfl hc
    have by_ : ∀ l : List Nat, (∀ b ∈ l, (Lit.int .u8 (b : Int)).wf = true) → ∀ b ∈ l, b < 256 := fun l hl b hb => by
      have := hl b hb
      simp only [Lit.wf, Bool.and_eq_true, decide_eq_true_eq, IntKind.min, IntKind.max, IntKind.signed, IntKind.bits] at this
      simp at this
      omega
    exact fun_sees (.cons p1 (.cons q1 (.cons s1 .nil))) (xors_ok (by_ _ p2) (by_ _ q2) (by_ _ s2) p3 q3 s3)

theorem proved : Rows.CrcXorsSaid :=
  OpenClaim.holds_of_wide F.cuneiformlaw04_CrcXors Try.f4 rfl rfl rfl rfl rfl rfl rfl ⟨rfl, rfl, rfl, rfl, rfl⟩ rfl rfl rfl rfl rfl (by kernel_rfl) Try.func4 (by kernel_rfl)
    (of_decide_eq_true (by kernel_rfl)) (by unfold Func.isWrapper; first | (rw [if_pos (by decide +kernel)]; kernel_rfl) | (rw [if_neg (by decide +kernel)]; exact ⟨rfl, rfl⟩))
    (fun os started H enc _ => lifted os started H enc)
end Go.Proofs.Ytlbalhddopcamaa.crcXors
