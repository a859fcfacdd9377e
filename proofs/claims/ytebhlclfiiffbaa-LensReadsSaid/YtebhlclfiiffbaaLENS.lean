/-
  Lemmas on the way to the statements of this seat. By an AI agent. No person has read it.
-/
import Derived.Test.YtebhlclfiiffbaaLIB

namespace Go.Proofs.Ytebhlclfiiffbaa
open Go Go.Am
set_option linter.unusedSimpArgs false
set_option linter.unusedVariables false

def u8s (xs : List Nat) : List AVal := xs.map fun n : Nat => AVal.int .u8 (n : Int)
theorem u8s_len (xs : List Nat) : (u8s xs).length = xs.length := by simp [u8s]
theorem u8s_cellish (xs : List Nat) : (u8s xs).all AVal.cellish = true := by simp [u8s, AVal.cellish]

theorem known03_ok (H : AHeap) (Q : AVal → AHeap → Prop) (h : Q (.bool true) H) : FunOK Try.prog F.cuneiformlaw03_known [] H Q := fun_reck codes_ok 10000 (.bool true) (by kernel_rfl) rfl rfl H Q h

/-- A lens. -/
def lensB (ys : List Nat) (at_ err : Nat) : ABlk := .cells [nums .u8 false ys, .int .i64 (at_ : Nat), .int .i64 (err : Nat)] T.lens_Lens

theorem lensB_closed {L : Nat} (ys : List Nat) (a e : Nat) : closedB L (lensB ys a e) := by simp [lensB, closedB, closeds, closed, closed_nums]

theorem lnew_ok (H : AHeap) {t : Bool} {ys : List Nat} (hlen : ys.length ≤ 1000000) (Q : AVal → AHeap → Prop) (h : Q (.ptr H.length 0) (H ++ [lensB ys 0 0])) : FunOK Try.prog F.lens_New [nums .u8 t ys] H Q := by
  refine fun_gh (Q' := fun av H' => av = .ptr (H.length + 1) 0 ∧ H' = H ++ [.vec (u8s ys) T.uint8 1, .cells [.slc H.length 0 ys.length 1, .int .i64 0, .int .i64 0] T.lens_Lens]) (fun _ _ => ?_) (fun av H' hc _ hq => ?_) (callable_of lens_New_code)
  · refine fun_V 60 lens_New_code rfl ?_
    obtain ⟨p, a1, hp⟩ := Own.append3 (H := H) (w := 1) (el := T.uint8) (B := 0) Own.nil (x := nums .u8 t ys) (k := ys.length) (ys := u8s ys) 1 rfl rfl (by simp [u8s]) (by omega) (by omega) (by omega) (u8s_cellish _)
    simp only [killA, List.nil_append, Nat.zero_add] at a1
    simp (disch := first | omega | (simp only [List.length_append, List.length_cons, List.length_nil, List.length_set, List.length_map, List.length_take, List.length_drop]; omega)) only [stdh, goK_s2b, dgoK_s2b, isEff_s2b, isPure_s2b, goK_b2s, dgoK_b2s, isEff_b2s, isPure_b2s, evalOp_s2b, s2bR, goK_mark, dgoK_mark, isEff_mark, isPure_mark, evalOp_mark, markA_slc, markB, ↓reduceIte, Nat.reduceEqDiff, Int.reduceToNat, Int.reducePow, Nat.reduceAdd, Nat.reduceLeDiff, Nat.reduceMul, Nat.reduceBEq, reduceCtorEq, lens_New, lens_New.body, a1, hp]
  · obtain ⟨rfl, rfl⟩ := hq
    have hcl : closeds H.length (u8s ys) := closeds_ints _ _
    have hleft := left_keeps (H' := H ++ [ABlk.vec (u8s ys) T.uint8 1, .cells [.slc H.length 0 ys.length 1, .int .i64 0, .int .i64 0] T.lens_Lens]) hc (keeps_append _ _) [H.length + 1] [(H.length, u8s ys)] (by simp) (by
      intro p hp
      simp only [List.mem_singleton] at hp
      subst hp
      exact ⟨u8s ys, by simp [content], (mvs_id (L := H.length) (fun _ h => toF_low h) _ hcl).symm, colds_of (L := H.length) (fun _ h => toF_low h) _ hcl⟩) (by simp)
    have h1 : toF H.length [H.length + 1] [(H.length, u8s ys)] H.length = .ice (u8s ys) := by simp [toF, findN, findI]
    have h2 : toF H.length [H.length + 1] [(H.length, u8s ys)] (H.length + 1) = .keep H.length := by simp [toF, findN]
    refine ⟨_, _, hleft, ?_⟩
    have hg : (H ++ [ABlk.vec (u8s ys) T.uint8 1, .cells [.slc H.length 0 ys.length 1, .int .i64 0, .int .i64 0] T.lens_Lens]).getD (H.length + 1) .dead = .cells [.slc H.length 0 ys.length 1, .int .i64 0, .int .i64 0] T.lens_Lens := by
      rw [List.getD_eq_getElem?_getD, at_k]; rfl
    have ht : (u8s ys).take (ys.length * 1) = u8s ys := List.take_of_length_le (by simp [u8s])
    simp only [List.map_cons, List.map_nil, hg, mvBlk, mvs, mv, h1, h2, mvPtr, mvSlc, List.drop_zero, ht]
    exact h

theorem left_ok (H : AHeap) {p : Nat} {ys : List Nat} {a e : Nat} (hp : H[p]? = some (lensB ys a e)) (ha : a ≤ ys.length) (hlen : ys.length ≤ 1000000) (Q : AVal → AHeap → Prop) (h : Q (nums .u8 true (ys.drop a)) H) : FunOK Try.prog F.lens_Lens_left [.ptr p 0] H Q := by
  refine fun_V 60 lens_Lens_left_code rfl ?_
  have hx : (ys.drop a).take (ys.length - a) = ys.drop a := List.take_of_length_le (by simp)
  rw [lensB] at hp
  simp (disch := first | omega | (simp only [List.length_append, List.length_cons, List.length_nil, List.length_set, List.length_map, List.length_take, List.length_drop]; omega)) only [stdh, goK_s2b, dgoK_s2b, isEff_s2b, isPure_s2b, goK_b2s, dgoK_b2s, isEff_b2s, isPure_b2s, evalOp_s2b, s2bR, goK_mark, dgoK_mark, isEff_mark, isPure_mark, evalOp_mark, markA_slc, markB, ↓reduceIte, Nat.reduceEqDiff, Int.reduceToNat, Int.reducePow, Nat.reduceAdd, Nat.reduceLeDiff, Nat.reduceMul, Nat.reduceBEq, reduceCtorEq, lens_Lens_left, lens_Lens_left.body, lens_Lens_left.d0, hp, hx, h]

theorem read_ok (H : AHeap) {p : Nat} {ys : List Nat} {a e : Nat} (hp : H[p]? = some (lensB ys a e)) (ha : a ≤ ys.length) (hlen : ys.length ≤ 1000000) {g : FuncId} {cap : List AVal} (Q : AVal → AHeap → Prop)
    (h0 : e ≠ 0 → Q (.bool false) H)
    (h1 : e = 0 → FunOK Try.prog g (nums .u8 true (ys.drop a) :: cap) H fun av H' => ∃ n e' : Nat, av = .tup [.int .i64 (n : Nat), .int .i64 (e' : Nat)] ∧ H'[p]? = H[p]? ∧ n ≤ 1000000 ∧
      (e' ≠ 0 → Q (.bool false) (H'.set p (lensB ys a e'))) ∧ (e' = 0 → Q (.bool true) (H'.set p (lensB ys (a + n) 0)))) :
    FunOK Try.prog F.lens_Lens_read [.ptr p 0, .fn g [] cap] H Q := by
  refine fun_V 100 lens_Lens_read_code rfl ?_
  have hpl : p < H.length := (List.getElem?_eq_some_iff.1 hp).1
  have hp' := hp
  rw [lensB] at hp'
  by_cases he : e = 0
  · subst he
    simp (disch := first | omega | (simp only [List.length_append, List.length_cons, List.length_nil, List.length_set, List.length_map, List.length_take, List.length_drop]; omega)) only [stdh, goK_s2b, dgoK_s2b, isEff_s2b, isPure_s2b, goK_b2s, dgoK_b2s, isEff_b2s, isPure_b2s, evalOp_s2b, s2bR, goK_mark, dgoK_mark, isEff_mark, isPure_mark, evalOp_mark, markA_slc, markB, ↓reduceIte, Nat.reduceEqDiff, Int.reduceToNat, Int.reducePow, Nat.reduceAdd, Nat.reduceLeDiff, Nat.reduceMul, Nat.reduceBEq, reduceCtorEq, lens_Lens_read, lens_Lens_read.body, hp', eqA]
    refine callK_fn (left_ok _ hp ha hlen _ ?_)
    refine runL_V 60 ?_
    simp (disch := first | omega | (simp only [List.length_append, List.length_cons, List.length_nil, List.length_set, List.length_map, List.length_take, List.length_drop]; omega)) only [stdh, goK_s2b, dgoK_s2b, isEff_s2b, isPure_s2b, goK_b2s, dgoK_b2s, isEff_b2s, isPure_b2s, evalOp_s2b, s2bR, goK_mark, dgoK_mark, isEff_mark, isPure_mark, evalOp_mark, markA_slc, markB, ↓reduceIte, Nat.reduceEqDiff, Int.reduceToNat, Int.reducePow, Nat.reduceAdd, Nat.reduceLeDiff, Nat.reduceMul, Nat.reduceBEq, reduceCtorEq]
    refine callK_clo ((h1 rfl).mono fun av H' hh => ?_)
    obtain ⟨n, e', rfl, hk, hn, q1, q2⟩ := hh
    rw [hp'] at hk
    have hl' : p < H'.length := (List.getElem?_eq_some_iff.1 hk).1
    refine runL_V 60 ?_
    by_cases he' : e' = 0
    · subst he'
      have := q2 rfl
      have e1 : ((a : Int) + (n : Int)) = ((a + n : Nat) : Int) := by omega
      simp (disch := first | omega | (simp only [List.length_append, List.length_cons, List.length_nil, List.length_set, List.length_map, List.length_take, List.length_drop]; omega)) only [stdh, goK_s2b, dgoK_s2b, isEff_s2b, isPure_s2b, goK_b2s, dgoK_b2s, isEff_b2s, isPure_b2s, evalOp_s2b, s2bR, goK_mark, dgoK_mark, isEff_mark, isPure_mark, evalOp_mark, markA_slc, markB, ↓reduceIte, Nat.reduceEqDiff, Int.reduceToNat, Int.reducePow, Nat.reduceAdd, Nat.reduceLeDiff, Nat.reduceMul, Nat.reduceBEq, reduceCtorEq, hk, e1]
      exact this
    · have := q1 he'
      simp (disch := first | omega | (simp only [List.length_append, List.length_cons, List.length_nil, List.length_set, List.length_map, List.length_take, List.length_drop]; omega)) only [stdh, goK_s2b, dgoK_s2b, isEff_s2b, isPure_s2b, goK_b2s, dgoK_b2s, isEff_b2s, isPure_b2s, evalOp_s2b, s2bR, goK_mark, dgoK_mark, isEff_mark, isPure_mark, evalOp_mark, markA_slc, markB, ↓reduceIte, Nat.reduceEqDiff, Int.reduceToNat, Int.reducePow, Nat.reduceAdd, Nat.reduceLeDiff, Nat.reduceMul, Nat.reduceBEq, reduceCtorEq, hk]
      exact this
  · have := h0 he
    simp (disch := first | omega | (simp only [List.length_append, List.length_cons, List.length_nil, List.length_set, List.length_map, List.length_take, List.length_drop]; omega)) only [stdh, goK_s2b, dgoK_s2b, isEff_s2b, isPure_s2b, goK_b2s, dgoK_b2s, isEff_b2s, isPure_b2s, evalOp_s2b, s2bR, goK_mark, dgoK_mark, isEff_mark, isPure_mark, evalOp_mark, markA_slc, markB, ↓reduceIte, Nat.reduceEqDiff, Int.reduceToNat, Int.reducePow, Nat.reduceAdd, Nat.reduceLeDiff, Nat.reduceMul, Nat.reduceBEq, reduceCtorEq, lens_Lens_read, lens_Lens_read.body, hp', eqA]
    exact this

theorem err_ok (H : AHeap) {p : Nat} {ys : List Nat} {a e : Nat} (hp : H[p]? = some (lensB ys a e)) (Q : AVal → AHeap → Prop) (h : Q (.int .i64 (e : Nat)) H) : FunOK Try.prog F.lens_Lens_Err [.ptr p 0] H Q := by
  refine fun_V 60 lens_Lens_Err_code rfl ?_
  rw [lensB] at hp
  simp (disch := first | omega | (simp only [List.length_append, List.length_cons, List.length_nil, List.length_set, List.length_map, List.length_take, List.length_drop]; omega)) only [stdh, goK_s2b, dgoK_s2b, isEff_s2b, isPure_s2b, goK_b2s, dgoK_b2s, isEff_b2s, isPure_b2s, evalOp_s2b, s2bR, goK_mark, dgoK_mark, isEff_mark, isPure_mark, evalOp_mark, markA_slc, markB, ↓reduceIte, Nat.reduceEqDiff, Int.reduceToNat, Int.reducePow, Nat.reduceAdd, Nat.reduceLeDiff, Nat.reduceMul, Nat.reduceBEq, reduceCtorEq, lens_Lens_Err, lens_Lens_Err.body, hp, eqA]
  exact h

theorem place_ok (H : AHeap) {p : Nat} {ys : List Nat} {a e : Nat} (hp : H[p]? = some (lensB ys a e)) (Q : AVal → AHeap → Prop) (h : Q (.int .i64 (a : Nat)) H) : FunOK Try.prog F.lens_Lens_Place [.ptr p 0] H Q := by
  refine fun_V 60 lens_Lens_Place_code rfl ?_
  rw [lensB] at hp
  simp (disch := first | omega | (simp only [List.length_append, List.length_cons, List.length_nil, List.length_set, List.length_map, List.length_take, List.length_drop]; omega)) only [stdh, goK_s2b, dgoK_s2b, isEff_s2b, isPure_s2b, goK_b2s, dgoK_b2s, isEff_b2s, isPure_b2s, evalOp_s2b, s2bR, goK_mark, dgoK_mark, isEff_mark, isPure_mark, evalOp_mark, markA_slc, markB, ↓reduceIte, Nat.reduceEqDiff, Int.reduceToNat, Int.reducePow, Nat.reduceAdd, Nat.reduceLeDiff, Nat.reduceMul, Nat.reduceBEq, reduceCtorEq, lens_Lens_Place, lens_Lens_Place.body, hp, eqA]
  exact h

theorem leftn_ok (H : AHeap) {p : Nat} {ys : List Nat} {a e : Nat} (hp : H[p]? = some (lensB ys a e)) (ha : a ≤ ys.length) (hlen : ys.length ≤ 1000000) (Q : AVal → AHeap → Prop) (h : Q (.int .i64 (ys.length - a : Nat)) H) : FunOK Try.prog F.lens_Lens_Left [.ptr p 0] H Q := by
  refine fun_V 60 lens_Lens_Left_code rfl ?_
  simp (disch := first | omega | (simp only [List.length_append, List.length_cons, List.length_nil, List.length_set, List.length_map, List.length_take, List.length_drop]; omega)) only [stdh, goK_s2b, dgoK_s2b, isEff_s2b, isPure_s2b, goK_b2s, dgoK_b2s, isEff_b2s, isPure_b2s, evalOp_s2b, s2bR, goK_mark, dgoK_mark, isEff_mark, isPure_mark, evalOp_mark, markA_slc, markB, ↓reduceIte, Nat.reduceEqDiff, Int.reduceToNat, Int.reducePow, Nat.reduceAdd, Nat.reduceLeDiff, Nat.reduceMul, Nat.reduceBEq, reduceCtorEq, lens_Lens_Left, lens_Lens_Left.body, eqA]
  refine callK_fn (left_ok _ hp ha hlen _ ?_)
  refine runL_V 60 ?_
  simp (disch := first | omega | (simp only [List.length_append, List.length_cons, List.length_nil, List.length_set, List.length_map, List.length_take, List.length_drop]; omega)) only [stdh, goK_s2b, dgoK_s2b, isEff_s2b, isPure_s2b, goK_b2s, dgoK_b2s, isEff_b2s, isPure_b2s, evalOp_s2b, s2bR, goK_mark, dgoK_mark, isEff_mark, isPure_mark, evalOp_mark, markA_slc, markB, ↓reduceIte, Nat.reduceEqDiff, Int.reduceToNat, Int.reducePow, Nat.reduceAdd, Nat.reduceLeDiff, Nat.reduceMul, Nat.reduceBEq, reduceCtorEq]
  rw [List.length_drop]
  exact h

theorem end_ok (H : AHeap) {p : Nat} {ys : List Nat} {a e : Nat} (hp : H[p]? = some (lensB ys a e)) (ha : a ≤ ys.length) (hlen : ys.length ≤ 1000000) (Q : AVal → AHeap → Prop) (h : Q (.int .i64 ((if e = 0 ∧ a < ys.length then 3 else e : Nat) : Int)) H) : FunOK Try.prog F.lens_Lens_End [.ptr p 0] H Q := by
  refine fun_V 60 lens_Lens_End_code rfl ?_
  simp (disch := first | omega | (simp only [List.length_append, List.length_cons, List.length_nil, List.length_set, List.length_map, List.length_take, List.length_drop]; omega)) only [stdh, goK_s2b, dgoK_s2b, isEff_s2b, isPure_s2b, goK_b2s, dgoK_b2s, isEff_b2s, isPure_b2s, evalOp_s2b, s2bR, goK_mark, dgoK_mark, isEff_mark, isPure_mark, evalOp_mark, markA_slc, markB, ↓reduceIte, Nat.reduceEqDiff, Int.reduceToNat, Int.reducePow, Nat.reduceAdd, Nat.reduceLeDiff, Nat.reduceMul, Nat.reduceBEq, reduceCtorEq, lens_Lens_End, lens_Lens_End.body]
  refine callK_fn (err_ok _ hp _ ?_)
  refine runL_V 60 ?_
  by_cases he : e = 0
  · subst he
    simp (disch := first | omega | (simp only [List.length_append, List.length_cons, List.length_nil, List.length_set, List.length_map, List.length_take, List.length_drop]; omega)) only [stdh, goK_s2b, dgoK_s2b, isEff_s2b, isPure_s2b, goK_b2s, dgoK_b2s, isEff_b2s, isPure_b2s, evalOp_s2b, s2bR, goK_mark, dgoK_mark, isEff_mark, isPure_mark, evalOp_mark, markA_slc, markB, ↓reduceIte, Nat.reduceEqDiff, Int.reduceToNat, Int.reducePow, Nat.reduceAdd, Nat.reduceLeDiff, Nat.reduceMul, Nat.reduceBEq, reduceCtorEq]
    refine callK_fn (leftn_ok _ hp ha hlen _ ?_)
    refine runL_V 60 ?_
    by_cases hl : a < ys.length
    · rw [if_pos ⟨rfl, hl⟩] at h
      simp (disch := first | omega | (simp only [List.length_append, List.length_cons, List.length_nil, List.length_set, List.length_map, List.length_take, List.length_drop]; omega)) only [stdh, goK_s2b, dgoK_s2b, isEff_s2b, isPure_s2b, goK_b2s, dgoK_b2s, isEff_b2s, isPure_b2s, evalOp_s2b, s2bR, goK_mark, dgoK_mark, isEff_mark, isPure_mark, evalOp_mark, markA_slc, markB, ↓reduceIte, Nat.reduceEqDiff, Int.reduceToNat, Int.reducePow, Nat.reduceAdd, Nat.reduceLeDiff, Nat.reduceMul, Nat.reduceBEq, reduceCtorEq]
      exact h
    · rw [if_neg (by omega)] at h
      simp (disch := first | omega | (simp only [List.length_append, List.length_cons, List.length_nil, List.length_set, List.length_map, List.length_take, List.length_drop]; omega)) only [stdh, goK_s2b, dgoK_s2b, isEff_s2b, isPure_s2b, goK_b2s, dgoK_b2s, isEff_b2s, isPure_b2s, evalOp_s2b, s2bR, goK_mark, dgoK_mark, isEff_mark, isPure_mark, evalOp_mark, markA_slc, markB, ↓reduceIte, Nat.reduceEqDiff, Int.reduceToNat, Int.reducePow, Nat.reduceAdd, Nat.reduceLeDiff, Nat.reduceMul, Nat.reduceBEq, reduceCtorEq]
      exact h
  · rw [if_neg (by omega)] at h
    simp (disch := first | omega | (simp only [List.length_append, List.length_cons, List.length_nil, List.length_set, List.length_map, List.length_take, List.length_drop]; omega)) only [stdh, goK_s2b, dgoK_s2b, isEff_s2b, isPure_s2b, goK_b2s, dgoK_b2s, isEff_b2s, isPure_b2s, evalOp_s2b, s2bR, goK_mark, dgoK_mark, isEff_mark, isPure_mark, evalOp_mark, markA_slc, markB, ↓reduceIte, Nat.reduceEqDiff, Int.reduceToNat, Int.reducePow, Nat.reduceAdd, Nat.reduceLeDiff, Nat.reduceMul, Nat.reduceBEq, reduceCtorEq]
    exact h
end Go.Proofs.Ytebhlclfiiffbaa

namespace Go.Proofs.Ytebhlclfiiffbaa
open Go Go.Am
set_option linter.unusedSimpArgs false
set_option linter.unusedVariables false

theorem getFrom_app : ∀ (f i n : Nat) (bs cs : List Nat), (getFrom f i n bs).2.2 = 0 → getFrom f i n (bs ++ cs) = getFrom f i n bs
  | 0, i, n, bs, cs, h => by simp [getFrom] at h
  | f + 1, i, n, [], cs, h => by simp [getFrom] at h
  | f + 1, i, n, b :: rest, cs, h => by
    rw [List.cons_append, getFrom, getFrom]
    rw [getFrom] at h
    by_cases h1 : 128 ≤ b
    · rw [if_pos h1, if_pos h1]
      rw [if_pos h1] at h
      exact getFrom_app f _ _ rest cs h
    · rw [if_neg h1, if_neg h1]

theorem getFrom_facts : ∀ (f i n : Nat) (bs : List Nat), i + f = 10 → n < 2 ^ (7 * i) → (getFrom f i n bs).2.2 = 0 → i < (getFrom f i n bs).2.1 ∧ (getFrom f i n bs).2.1 ≤ i + bs.length ∧ (getFrom f i n bs).1 < 18446744073709551616
  | 0, i, n, bs, h1, h2, h => by simp [getFrom] at h
  | f + 1, i, n, [], h1, h2, h => by simp [getFrom] at h
  | f + 1, i, n, b :: rest, h1, h2, h => by
    have hpl := part_lt (b % 128) i (by omega)
    have hq7 : b % 128 % 2 ^ (64 - 7 * i) ≤ 127 := Nat.le_trans (Nat.mod_le _ _) (by omega)
    generalize hq : b % 128 % 2 ^ (64 - 7 * i) = q at *
    rw [getFrom] at h ⊢
    rw [hq] at h ⊢
    by_cases h1' : 128 ≤ b
    · rw [if_pos h1'] at h ⊢
      have := getFrom_facts f (i + 1) (n + q * 2 ^ (7 * i)) rest (by omega) (by
        have := Nat.mul_le_mul_right (2 ^ (7 * i)) hq7
        rw [show 7 * (i + 1) = 7 * i + 7 by omega, Nat.pow_add]
        omega) h
      simp only [List.length_cons]
      omega
    · rw [if_neg h1'] at h ⊢
      by_cases h2' : (0 < i ∧ b % 128 = 0) ∨ q ≠ b % 128
      · rw [if_pos h2'] at h; simp at h
      · rw [if_neg h2']
        simp only [List.length_cons]
        refine ⟨by omega, by omega, ?_⟩
        have : (2 : Nat) ^ 64 = 18446744073709551616 := by decide
        omega

theorem getSpec_facts {bs : List Nat} (h : (getSpec bs).2.2 = 0) : 0 < (getSpec bs).2.1 ∧ (getSpec bs).2.1 ≤ bs.length ∧ (getSpec bs).1 < 18446744073709551616 := by
  have := getFrom_facts 10 0 0 bs rfl (by simp) h
  simpa [getSpec] using this

/-- What a field is: how many bytes, which, the error. -/
def fieldSpec (most : Int) (zs : List Nat) : Nat × List Nat × Nat :=
  if (getSpec zs).2.2 ≠ 0 then (0, [], (getSpec zs).2.2)
  else if most.toNat < (getSpec zs).1 then (0, [], 6)
  else if zs.length - (getSpec zs).2.1 < (getSpec zs).1 then (0, [], 4)
  else ((getSpec zs).2.1 + (getSpec zs).1, (zs.drop (getSpec zs).2.1).take (getSpec zs).1, 0)

theorem field1_ok (H : AHeap) {t : Bool} {zs : List Nat} (hb : ∀ b ∈ zs, b < 256) (hlen : zs.length ≤ 1000000) {q1 q2 : Nat} {most : Int} (hmost : -9223372036854775808 ≤ most ∧ most < 9223372036854775808) (h1 : H[q1]? = some (.cells [.int .i64 most] T.int)) (h2 : H[q2]? = some (.cells [.nils] T.sl_uint8)) (Q : AVal → AHeap → Prop)
    (he : (fieldSpec most zs).2.2 ≠ 0 → Q (.tup [.int .i64 0, .int .i64 ((fieldSpec most zs).2.2 : Nat)]) H)
    (hq : (fieldSpec most zs).2.2 = 0 → Q (.tup [.int .i64 ((fieldSpec most zs).1 : Nat), .int .i64 0]) ((H ++ [ABlk.vec (u8s (fieldSpec most zs).2.1) T.uint8 1]).set q2 (.cells [.slc H.length 0 (fieldSpec most zs).2.1.length 1] T.sl_uint8))) :
    FunOK Try.prog F.lens_Lens_Field_1 [nums .u8 t zs, .ptr q1 0, .ptr q2 0] H Q := by
  refine fun_V 100 lens_Lens_Field_1_code rfl ?_
  simp (disch := first | omega | (simp only [List.length_append, List.length_cons, List.length_nil, List.length_set, List.length_map, List.length_take, List.length_drop]; omega)) only [stdh, goK_s2b, dgoK_s2b, isEff_s2b, isPure_s2b, goK_b2s, dgoK_b2s, isEff_b2s, isPure_b2s, evalOp_s2b, s2bR, goK_mark, dgoK_mark, isEff_mark, isPure_mark, evalOp_mark, markA_slc, markB, ↓reduceIte, Nat.reduceEqDiff, Int.reduceToNat, Int.reducePow, Nat.reduceAdd, Nat.reduceLeDiff, Nat.reduceMul, Nat.reduceBEq, reduceCtorEq, lens_Lens_Field_1, lens_Lens_Field_1.body]
  refine callK_fn (get_ok _ (nums_nats _ _ _ _) hb (by omega) _ ?_)
  refine runL_V 100 ?_
  have hmx : (if most < 0 then 0 else most) = ((most.toNat : Nat) : Int) := by split <;> omega
  have hmx' : (if (0 : Int) > most then 0 else most) = ((most.toNat : Nat) : Int) := hmx
  have hmw : IntKind.u64.wrap ((most.toNat : Nat) : Int) = ((most.toNat : Nat) : Int) := wrap_u64 (by omega)
  have hql : q2 < H.length := (List.getElem?_eq_some_iff.1 h2).1
  unfold fieldSpec at he hq
  have hf := getSpec_facts (bs := zs)
  generalize getSpec zs = G at hf he hq ⊢
  obtain ⟨num, k, e⟩ := G
  dsimp only at hf he hq
  by_cases c0 : e = 0
  · subst c0
    obtain ⟨f1, f2, f3⟩ := hf rfl
    rw [if_neg (by simp)] at he hq
    have hmn : most.toNat < 9223372036854775808 := by omega
    generalize most.toNat = mx at *
    have e1 : ((zs.length : Nat) : Int) - (k : Nat) = ((zs.length - k : Nat) : Int) := by omega
    by_cases c1 : mx < num
    · rw [if_pos c1] at he hq
      have := he (by simp)
      simp (disch := first | omega | (simp only [List.length_append, List.length_cons, List.length_nil, List.length_set, List.length_map, List.length_take, List.length_drop]; omega)) only [stdh, goK_s2b, dgoK_s2b, isEff_s2b, isPure_s2b, goK_b2s, dgoK_b2s, isEff_b2s, isPure_b2s, evalOp_s2b, s2bR, goK_mark, dgoK_mark, isEff_mark, isPure_mark, evalOp_mark, markA_slc, markB, ↓reduceIte, Nat.reduceEqDiff, Int.reduceToNat, Int.reducePow, Nat.reduceAdd, Nat.reduceLeDiff, Nat.reduceMul, Nat.reduceBEq, reduceCtorEq, got, h1, h2, hmx, hmx', hmw]
      exact this
    · rw [if_neg c1] at he hq
      by_cases c2 : zs.length - k < num
      · rw [if_pos c2] at he hq
        have := he (by simp)
        simp (disch := first | omega | (simp only [List.length_append, List.length_cons, List.length_nil, List.length_set, List.length_map, List.length_take, List.length_drop]; omega)) only [stdh, goK_s2b, dgoK_s2b, isEff_s2b, isPure_s2b, goK_b2s, dgoK_b2s, isEff_b2s, isPure_b2s, evalOp_s2b, s2bR, goK_mark, dgoK_mark, isEff_mark, isPure_mark, evalOp_mark, markA_slc, markB, ↓reduceIte, Nat.reduceEqDiff, Int.reduceToNat, Int.reducePow, Nat.reduceAdd, Nat.reduceLeDiff, Nat.reduceMul, Nat.reduceBEq, reduceCtorEq, got, h1, h2, hmx, hmx', hmw, e1]
        exact this
      · rw [if_neg c2] at he hq
        have := hq rfl
        have hol : ((zs.drop k).take num).length = num := by rw [List.length_take, List.length_drop]; omega
        have e2 : IntKind.i64.wrap (num : Int) = (num : Int) := wrap_i64 (by omega)
        have e3 : (k : Int) + (num : Int) = ((k + num : Nat) : Int) := by omega
        have e4 : k + num - k = num := by omega
        obtain ⟨p, a1, hp⟩ := Own.append3 (H := H) (w := 1) (el := T.uint8) (B := 0) Own.nil (x := nums .u8 true ((zs.drop k).take num)) (k := num) (ys := u8s ((zs.drop k).take num)) 1 (by rw [srcLen_nums, hol]) rfl (by simp only [u8s_len, hol]; omega) (by omega) (by omega) (by omega) (u8s_cellish _)
        simp only [killA, List.nil_append, Nat.zero_add] at a1
        rw [hol] at this
        simp (disch := first | omega | (simp only [List.length_append, List.length_cons, List.length_nil, List.length_set, List.length_map, List.length_take, List.length_drop]; omega)) only [stdh, goK_s2b, dgoK_s2b, isEff_s2b, isPure_s2b, goK_b2s, dgoK_b2s, isEff_b2s, isPure_b2s, evalOp_s2b, s2bR, goK_mark, dgoK_mark, isEff_mark, isPure_mark, evalOp_mark, markA_slc, markB, ↓reduceIte, Nat.reduceEqDiff, Int.reduceToNat, Int.reducePow, Nat.reduceAdd, Nat.reduceLeDiff, Nat.reduceMul, Nat.reduceBEq, reduceCtorEq, got, h1, h2, hmx, hmx', hmw, e1, e2, e3, e4, lens_Lens_Field_1.d0, a1, hp, at_low]
  · rw [if_pos c0] at he
    have := he c0
    simp (disch := first | omega | (simp only [List.length_append, List.length_cons, List.length_nil, List.length_set, List.length_map, List.length_take, List.length_drop]; omega)) only [stdh, goK_s2b, dgoK_s2b, isEff_s2b, isPure_s2b, goK_b2s, dgoK_b2s, isEff_b2s, isPure_b2s, evalOp_s2b, s2bR, goK_mark, dgoK_mark, isEff_mark, isPure_mark, evalOp_mark, markA_slc, markB, ↓reduceIte, Nat.reduceEqDiff, Int.reduceToNat, Int.reducePow, Nat.reduceAdd, Nat.reduceLeDiff, Nat.reduceMul, Nat.reduceBEq, reduceCtorEq, got]
    exact this

/-- What a read of a lens comes to: the bytes, the place, the error. -/
def lensField (ys : List Nat) (a e : Nat) (most : Int) : List Nat × Nat × Nat :=
  if e ≠ 0 then ([], a, e) else if (fieldSpec most (ys.drop a)).2.2 ≠ 0 then ([], a, (fieldSpec most (ys.drop a)).2.2)
  else ((fieldSpec most (ys.drop a)).2.1, a + (fieldSpec most (ys.drop a)).1, 0)

theorem fieldSpec_le {most : Int} {zs : List Nat} : (fieldSpec most zs).1 ≤ zs.length ∧ (fieldSpec most zs).2.1.length ≤ zs.length := by
  unfold fieldSpec
  have hf := getSpec_facts (bs := zs)
  by_cases h0 : (getSpec zs).2.2 = 0
  · obtain ⟨f1, f2, f3⟩ := hf h0
    rw [if_neg (by omega)]
    split
    · simp
    · split
      · simp
      · simp only [List.length_take, List.length_drop]; omega
  · rw [if_pos h0]; simp

theorem field_ok (H : AHeap) {p : Nat} {ys : List Nat} {a e : Nat} {most : Int} (hmost : -9223372036854775808 ≤ most ∧ most < 9223372036854775808) (hp : H[p]? = some (lensB ys a e)) (ha : a ≤ ys.length) (hb : ∀ b ∈ ys, b < 256) (hlen : ys.length ≤ 1000000) (Q : AVal → AHeap → Prop)
    (h : Q (nums .u8 false (lensField ys a e most).1) (H.set p (lensB ys (lensField ys a e most).2.1 (lensField ys a e most).2.2))) : FunOK Try.prog F.lens_Lens_Field [.ptr p 0, .int .i64 most] H Q := by
  refine fun_mutice lens_Lens_Field_code p fun _ => ?_
  refine fun_V 60 lens_Lens_Field_code rfl ?_
  have hpl : p < H.length := (List.getElem?_eq_some_iff.1 hp).1
  simp (disch := first | omega | (simp only [List.length_append, List.length_cons, List.length_nil, List.length_set, List.length_map, List.length_take, List.length_drop]; omega)) only [stdh, goK_s2b, dgoK_s2b, isEff_s2b, isPure_s2b, goK_b2s, dgoK_b2s, isEff_b2s, isPure_b2s, evalOp_s2b, s2bR, goK_mark, dgoK_mark, isEff_mark, isPure_mark, evalOp_mark, markA_slc, markB, ↓reduceIte, Nat.reduceEqDiff, Int.reduceToNat, Int.reducePow, Nat.reduceAdd, Nat.reduceLeDiff, Nat.reduceMul, Nat.reduceBEq, reduceCtorEq, lens_Lens_Field, lens_Lens_Field.body]
  have hk : ∀ n, n < H.length → (H ++ [ABlk.cells [.int .i64 most] T.int, ABlk.cells [.nils] T.sl_uint8])[n]? = H[n]? := fun n hn => at_low hn
  have g1 : (H ++ [ABlk.cells [.int .i64 most] T.int, ABlk.cells [.nils] T.sl_uint8])[H.length]? = some (ABlk.cells [.int .i64 most] T.int) := at_0
  have g2 : (H ++ [ABlk.cells [.int .i64 most] T.int, ABlk.cells [.nils] T.sl_uint8])[H.length + 1]? = some (ABlk.cells [.nils] T.sl_uint8) := at_k
  have hl2 : (H ++ [ABlk.cells [.int .i64 most] T.int, ABlk.cells [.nils] T.sl_uint8]).length = H.length + 2 := by simp
  generalize H ++ [ABlk.cells [.int .i64 most] T.int, ABlk.cells [.nils] T.sl_uint8] = H2 at *
  have hp2 : H2[p]? = some (lensB ys a e) := (hk p hpl).trans hp
  have hbd : ∀ b ∈ ys.drop a, b < 256 := fun b hb' => hb b (List.mem_of_mem_drop hb')
  -- nothing was read
  have none : ∀ e', lensField ys a e most = ([], a, e') → RunL Try.prog ⟨F.lens_Lens_Field, 10, [.tmp 4], none⟩ [] [5] [.code (.seq (.region [⟨some 9, .load none (.tmp 5), none⟩, ⟨some 4, .mov (.tmp 9), none⟩] [4]) .ret)] [] [(8, .bool false), (7, .fn F.lens_Lens_Field_1 [] [.ptr H.length 0, .ptr (H.length + 1) 0]), (6, .ptr p 0), (0, .ptr p 0), (3, .ptr H.length 0), (5, .ptr (H.length + 1) 0)] (H2.set p (lensB ys a e')) (MutIceQ H p Q) := by
    intro e' hs
    rw [hs] at h
    have g2' : (H2.set p (lensB ys a e'))[H.length + 1]? = some (ABlk.cells [.nils] T.sl_uint8) := by rw [List.getElem?_set_ne (by omega)]; exact g2
    refine runL_V 60 ?_
    simp (disch := first | omega | (simp only [List.length_append, List.length_cons, List.length_nil, List.length_set, List.length_map, List.length_take, List.length_drop]; omega)) only [stdh, goK_s2b, dgoK_s2b, isEff_s2b, isPure_s2b, goK_b2s, dgoK_b2s, isEff_b2s, isPure_b2s, evalOp_s2b, s2bR, goK_mark, dgoK_mark, isEff_mark, isPure_mark, evalOp_mark, markA_slc, markB, ↓reduceIte, Nat.reduceEqDiff, Int.reduceToNat, Int.reducePow, Nat.reduceAdd, Nat.reduceLeDiff, Nat.reduceMul, Nat.reduceBEq, reduceCtorEq, g2']
    exact mutice_own (w := 1) (el := T.uint8) (by simp; omega) (fun n h1 h2 => by rw [List.getElem?_set_ne (fun e => h2 e.symm)]; exact hk n h1) (by rw [List.getElem?_set_self (by omega)]) (lensB_closed _ _ _) Own.nil trivial h
  refine callK_fn (read_ok _ hp2 ha hlen _ ?_ ?_)
  · intro he
    have := none e (by unfold lensField; rw [if_pos he])
    rw [set_self hp2] at this
    exact this
  · intro he
    subst he
    refine field1_ok _ hbd (by rw [List.length_drop]; omega) hmost g1 g2 _ ?_ ?_
    · intro hs
      refine ⟨0, _, rfl, rfl, by omega, fun _ => ?_, fun hh => absurd hh hs⟩
      exact none _ (by unfold lensField; rw [if_neg (by simp), if_pos hs])
    · intro hs
      have hle := fieldSpec_le (most := most) (zs := ys.drop a)
      rw [List.length_drop] at hle
      refine ⟨(fieldSpec most (ys.drop a)).1, 0, rfl, ?_, by omega, fun hh => absurd rfl hh, fun _ => ?_⟩
      · rw [List.getElem?_set_ne (by omega), at_low (by omega)]
      · have hspec : lensField ys a 0 most = ((fieldSpec most (ys.drop a)).2.1, a + (fieldSpec most (ys.drop a)).1, 0) := by unfold lensField; rw [if_neg (by simp), if_neg (by simp [hs])]
        rw [hspec] at h
        generalize (fieldSpec most (ys.drop a)).2.1 = out at *
        refine runL_V 60 ?_
        have g3 : (((H2 ++ [ABlk.vec (u8s out) T.uint8 1]).set (H.length + 1) (ABlk.cells [.slc H2.length 0 out.length 1] T.sl_uint8)).set p (lensB ys (a + (fieldSpec most (ys.drop a)).1) 0))[H.length + 1]? = some (ABlk.cells [.slc H2.length 0 out.length 1] T.sl_uint8) := by
          rw [List.getElem?_set_ne (by omega), List.getElem?_set_self (by simp; omega)]
        simp (disch := first | omega | (simp only [List.length_append, List.length_cons, List.length_nil, List.length_set, List.length_map, List.length_take, List.length_drop]; omega)) only [stdh, goK_s2b, dgoK_s2b, isEff_s2b, isPure_s2b, goK_b2s, dgoK_b2s, isEff_b2s, isPure_b2s, evalOp_s2b, s2bR, goK_mark, dgoK_mark, isEff_mark, isPure_mark, evalOp_mark, markA_slc, markB, ↓reduceIte, Nat.reduceEqDiff, Int.reduceToNat, Int.reducePow, Nat.reduceAdd, Nat.reduceLeDiff, Nat.reduceMul, Nat.reduceBEq, reduceCtorEq, g3]
        refine mutice_own (w := 1) (el := T.uint8) (by simp; omega) (fun n h1 h2 => ?_) (by rw [List.getElem?_set_self (by simp; omega)]) (lensB_closed _ _ _) (n := out.length) (cs := u8s out) ⟨by simp [u8s], .inr ⟨H2.length, by omega, rfl, ?_⟩⟩ (closeds_ints _ _) h
        · rw [List.getElem?_set_ne (fun e => h2 e.symm), List.getElem?_set_ne (by omega), at_low (by omega)]; exact hk n h1
        · rw [List.getElem?_set_ne (by omega), List.getElem?_set_ne (by omega), at_0]; rfl
end Go.Proofs.Ytebhlclfiiffbaa

namespace Go.Proofs.Ytebhlclfiiffbaa
open Go Go.Am
set_option linter.unusedSimpArgs false
set_option linter.unusedVariables false

theorem word_err (H : AHeap) {p : Nat} {ys : List Nat} {a e : Nat} {z : Int} (hp : H[p]? = some (lensB ys a e)) (he : e ≠ 0) (ha : a ≤ ys.length) (hlen : ys.length ≤ 1000000) (Q : AVal → AHeap → Prop) (h : Q (.int .u32 0) H) : FunOK Try.prog F.lens_Lens_word [.ptr p 0, .int .i64 z] H Q := by
  refine fun_iced lens_Lens_word_code fun _ => ?_
  refine fun_V 60 lens_Lens_word_code rfl ?_
  have hpl : p < H.length := (List.getElem?_eq_some_iff.1 hp).1
  simp (disch := first | omega | (simp only [List.length_append, List.length_cons, List.length_nil, List.length_set, List.length_map, List.length_take, List.length_drop]; omega)) only [stdh, goK_s2b, dgoK_s2b, isEff_s2b, isPure_s2b, goK_b2s, dgoK_b2s, isEff_b2s, isPure_b2s, evalOp_s2b, s2bR, goK_mark, dgoK_mark, isEff_mark, isPure_mark, evalOp_mark, markA_slc, markB, ↓reduceIte, Nat.reduceEqDiff, Int.reduceToNat, Int.reducePow, Nat.reduceAdd, Nat.reduceLeDiff, Nat.reduceMul, Nat.reduceBEq, reduceCtorEq, lens_Lens_word, lens_Lens_word.body]
  refine callK_fn (read_ok _ ((at_low hpl).trans hp) ha hlen _ ?_ (fun hh => absurd hh he))
  intro _
  refine runL_V 60 ?_
  simp (disch := first | omega | (simp only [List.length_append, List.length_cons, List.length_nil, List.length_set, List.length_map, List.length_take, List.length_drop]; omega)) only [stdh, goK_s2b, dgoK_s2b, isEff_s2b, isPure_s2b, goK_b2s, dgoK_b2s, isEff_b2s, isPure_b2s, evalOp_s2b, s2bR, goK_mark, dgoK_mark, isEff_mark, isPure_mark, evalOp_mark, markA_slc, markB, ↓reduceIte, Nat.reduceEqDiff, Int.reduceToNat, Int.reducePow, Nat.reduceAdd, Nat.reduceLeDiff, Nat.reduceMul, Nat.reduceBEq, reduceCtorEq]
  exact ice_none trivial h

theorem raw_err (H : AHeap) {p : Nat} {ys : List Nat} {a e : Nat} {z : Int} (hp : H[p]? = some (lensB ys a e)) (he : e ≠ 0) (ha : a ≤ ys.length) (hlen : ys.length ≤ 1000000) (Q : AVal → AHeap → Prop) (h : Q (nums .u8 false []) H) : FunOK Try.prog F.lens_Lens_Raw [.ptr p 0, .int .i64 z] H Q := by
  refine fun_iced lens_Lens_Raw_code fun _ => ?_
  refine fun_V 60 lens_Lens_Raw_code rfl ?_
  have hpl : p < H.length := (List.getElem?_eq_some_iff.1 hp).1
  simp (disch := first | omega | (simp only [List.length_append, List.length_cons, List.length_nil, List.length_set, List.length_map, List.length_take, List.length_drop]; omega)) only [stdh, goK_s2b, dgoK_s2b, isEff_s2b, isPure_s2b, goK_b2s, dgoK_b2s, isEff_b2s, isPure_b2s, evalOp_s2b, s2bR, goK_mark, dgoK_mark, isEff_mark, isPure_mark, evalOp_mark, markA_slc, markB, ↓reduceIte, Nat.reduceEqDiff, Int.reduceToNat, Int.reducePow, Nat.reduceAdd, Nat.reduceLeDiff, Nat.reduceMul, Nat.reduceBEq, reduceCtorEq, lens_Lens_Raw, lens_Lens_Raw.body]
  refine callK_fn (read_ok _ ((at_low hpl).trans hp) ha hlen _ ?_ (fun hh => absurd hh he))
  intro _
  refine runL_V 60 ?_
  simp (disch := first | omega | (simp only [List.length_append, List.length_cons, List.length_nil, List.length_set, List.length_map, List.length_take, List.length_drop]; omega)) only [stdh, goK_s2b, dgoK_s2b, isEff_s2b, isPure_s2b, goK_b2s, dgoK_b2s, isEff_b2s, isPure_b2s, evalOp_s2b, s2bR, goK_mark, dgoK_mark, isEff_mark, isPure_mark, evalOp_mark, markA_slc, markB, ↓reduceIte, Nat.reduceEqDiff, Int.reduceToNat, Int.reducePow, Nat.reduceAdd, Nat.reduceLeDiff, Nat.reduceMul, Nat.reduceBEq, reduceCtorEq]
  exact ice_nils (keeps_append _ _) h

theorem u32_err (H : AHeap) {p : Nat} {ys : List Nat} {a e : Nat} (hp : H[p]? = some (lensB ys a e)) (he : e ≠ 0) (ha : a ≤ ys.length) (hlen : ys.length ≤ 1000000) (Q : AVal → AHeap → Prop) (h : Q (.int .u32 0) H) : FunOK Try.prog F.lens_Lens_U32 [.ptr p 0] H Q := by
  refine fun_V 60 lens_Lens_U32_code rfl ?_
  simp (disch := first | omega | (simp only [List.length_append, List.length_cons, List.length_nil, List.length_set, List.length_map, List.length_take, List.length_drop]; omega)) only [stdh, goK_s2b, dgoK_s2b, isEff_s2b, isPure_s2b, goK_b2s, dgoK_b2s, isEff_b2s, isPure_b2s, evalOp_s2b, s2bR, goK_mark, dgoK_mark, isEff_mark, isPure_mark, evalOp_mark, markA_slc, markB, ↓reduceIte, Nat.reduceEqDiff, Int.reduceToNat, Int.reducePow, Nat.reduceAdd, Nat.reduceLeDiff, Nat.reduceMul, Nat.reduceBEq, reduceCtorEq, lens_Lens_U32, lens_Lens_U32.body]
  refine callK_fn (word_err _ hp he ha hlen _ ?_)
  refine runL_V 60 ?_
  simp (disch := first | omega | (simp only [List.length_append, List.length_cons, List.length_nil, List.length_set, List.length_map, List.length_take, List.length_drop]; omega)) only [stdh, goK_s2b, dgoK_s2b, isEff_s2b, isPure_s2b, goK_b2s, dgoK_b2s, isEff_b2s, isPure_b2s, evalOp_s2b, s2bR, goK_mark, dgoK_mark, isEff_mark, isPure_mark, evalOp_mark, markA_slc, markB, ↓reduceIte, Nat.reduceEqDiff, Int.reduceToNat, Int.reducePow, Nat.reduceAdd, Nat.reduceLeDiff, Nat.reduceMul, Nat.reduceBEq, reduceCtorEq]
  exact h

theorem rest_err (H : AHeap) {p : Nat} {ys : List Nat} {a e : Nat} (hp : H[p]? = some (lensB ys a e)) (he : e ≠ 0) (ha : a ≤ ys.length) (hlen : ys.length ≤ 1000000) (Q : AVal → AHeap → Prop) (h : Q (nums .u8 false []) H) : FunOK Try.prog F.lens_Lens_Rest [.ptr p 0] H Q := by
  refine fun_V 60 lens_Lens_Rest_code rfl ?_
  simp (disch := first | omega | (simp only [List.length_append, List.length_cons, List.length_nil, List.length_set, List.length_map, List.length_take, List.length_drop]; omega)) only [stdh, goK_s2b, dgoK_s2b, isEff_s2b, isPure_s2b, goK_b2s, dgoK_b2s, isEff_b2s, isPure_b2s, evalOp_s2b, s2bR, goK_mark, dgoK_mark, isEff_mark, isPure_mark, evalOp_mark, markA_slc, markB, ↓reduceIte, Nat.reduceEqDiff, Int.reduceToNat, Int.reducePow, Nat.reduceAdd, Nat.reduceLeDiff, Nat.reduceMul, Nat.reduceBEq, reduceCtorEq, lens_Lens_Rest, lens_Lens_Rest.body]
  refine callK_fn (leftn_ok _ hp ha hlen _ ?_)
  refine runL_V 60 ?_
  simp (disch := first | omega | (simp only [List.length_append, List.length_cons, List.length_nil, List.length_set, List.length_map, List.length_take, List.length_drop]; omega)) only [stdh, goK_s2b, dgoK_s2b, isEff_s2b, isPure_s2b, goK_b2s, dgoK_b2s, isEff_b2s, isPure_b2s, evalOp_s2b, s2bR, goK_mark, dgoK_mark, isEff_mark, isPure_mark, evalOp_mark, markA_slc, markB, ↓reduceIte, Nat.reduceEqDiff, Int.reduceToNat, Int.reducePow, Nat.reduceAdd, Nat.reduceLeDiff, Nat.reduceMul, Nat.reduceBEq, reduceCtorEq]
  refine callK_fn (raw_err _ hp he ha hlen _ ?_)
  refine runL_V 60 ?_
  simp (disch := first | omega | (simp only [List.length_append, List.length_cons, List.length_nil, List.length_set, List.length_map, List.length_take, List.length_drop]; omega)) only [stdh, goK_s2b, dgoK_s2b, isEff_s2b, isPure_s2b, goK_b2s, dgoK_b2s, isEff_b2s, isPure_b2s, evalOp_s2b, s2bR, goK_mark, dgoK_mark, isEff_mark, isPure_mark, evalOp_mark, markA_slc, markB, ↓reduceIte, Nat.reduceEqDiff, Int.reduceToNat, Int.reducePow, Nat.reduceAdd, Nat.reduceLeDiff, Nat.reduceMul, Nat.reduceBEq, reduceCtorEq]
  exact h

theorem fieldSpec_of {most : Int} {zs : List Nat} (h0 : (getSpec zs).2.2 = 0) (h1 : (getSpec zs).1 ≤ most.toNat) (h2 : (getSpec zs).1 ≤ zs.length - (getSpec zs).2.1) : fieldSpec most zs = ((getSpec zs).2.1 + (getSpec zs).1, (zs.drop (getSpec zs).2.1).take (getSpec zs).1, 0) := by
  have a0 : ¬ (getSpec zs).2.2 ≠ 0 := by omega
  have a1 : ¬ most.toNat < (getSpec zs).1 := by omega
  have a2 : ¬ zs.length - (getSpec zs).2.1 < (getSpec zs).1 := by omega
  unfold fieldSpec
  rw [if_neg a0, if_neg a1, if_neg a2]

theorem fieldSpec_inv {most : Int} {zs : List Nat} (h : (fieldSpec most zs).2.2 = 0) : (getSpec zs).2.2 = 0 ∧ (getSpec zs).1 ≤ most.toNat ∧ (getSpec zs).1 ≤ zs.length - (getSpec zs).2.1 := by
  unfold fieldSpec at h
  by_cases a0 : (getSpec zs).2.2 ≠ 0
  · rw [if_pos a0] at h; exact absurd h a0
  · rw [if_neg a0] at h
    by_cases a1 : most.toNat < (getSpec zs).1
    · rw [if_pos a1] at h; simp at h
    · rw [if_neg a1] at h
      by_cases a2 : zs.length - (getSpec zs).2.1 < (getSpec zs).1
      · rw [if_pos a2] at h; simp at h
      · exact ⟨by omega, by omega, by omega⟩

theorem fieldSpec_app {most : Int} {zs cs : List Nat} (h : (fieldSpec most zs).2.2 = 0) : fieldSpec most (zs ++ cs) = fieldSpec most zs := by
  obtain ⟨h0, h1, h2⟩ := fieldSpec_inv h
  have hg : getSpec (zs ++ cs) = getSpec zs := getFrom_app 10 0 0 zs cs h0
  obtain ⟨f1, f2, f3⟩ := getSpec_facts h0
  rw [fieldSpec_of h0 h1 h2, fieldSpec_of (by rw [hg]; exact h0) (by rw [hg]; exact h1) (by rw [hg, List.length_append]; omega), hg, List.drop_append_of_le_length f2, List.take_append_of_le_length (by rw [List.length_drop]; omega)]

theorem lensField_ok {ys : List Nat} {a : Nat} {most : Int} (h : (fieldSpec most (ys.drop a)).2.2 = 0) : lensField ys a 0 most = ((fieldSpec most (ys.drop a)).2.1, a + (fieldSpec most (ys.drop a)).1, 0) := by
  have a0 : ¬ (0 : Nat) ≠ 0 := by simp
  have a1 : ¬ (fieldSpec most (ys.drop a)).2.2 ≠ 0 := by omega
  unfold lensField
  rw [if_neg a0, if_neg a1]
theorem lensField_bad {ys : List Nat} {a : Nat} {most : Int} (h : (fieldSpec most (ys.drop a)).2.2 ≠ 0) : lensField ys a 0 most = ([], a, (fieldSpec most (ys.drop a)).2.2) := by
  have a0 : ¬ (0 : Nat) ≠ 0 := by simp
  unfold lensField
  rw [if_neg a0, if_pos h]

theorem lensField_err {ys : List Nat} {a : Nat} {most : Int} (h : (lensField ys a 0 most).2.2 ≠ 0) : (lensField ys a 0 most).1 = [] ∧ (lensField ys a 0 most).2.1 = a := by
  by_cases h1 : (fieldSpec most (ys.drop a)).2.2 = 0
  · rw [lensField_ok h1] at h; simp at h
  · rw [lensField_bad h1]; exact ⟨rfl, rfl⟩

theorem lensField_app {xs cs : List Nat} {a : Nat} {most : Int} (ha : a ≤ xs.length) (h : (lensField xs a 0 most).2.2 = 0) : lensField (xs ++ cs) a 0 most = lensField xs a 0 most ∧ (lensField xs a 0 most).2.1 ≤ xs.length ∧ (lensField xs a 0 most).1.length ≤ xs.length := by
  have hle := fieldSpec_le (most := most) (zs := xs.drop a)
  rw [List.length_drop] at hle
  by_cases h1 : (fieldSpec most (xs.drop a)).2.2 = 0
  · have h2 : (fieldSpec most ((xs ++ cs).drop a)).2.2 = 0 := by rw [List.drop_append_of_le_length ha, fieldSpec_app h1]; exact h1
    rw [lensField_ok h1, lensField_ok h2, List.drop_append_of_le_length ha, fieldSpec_app h1]
    exact ⟨rfl, by simp only; omega, by simp only; omega⟩
  · rw [lensField_bad h1] at h; exact absurd h h1

abbrev lcC : Ctx := ⟨F.cuneiformlaw03_LensCuts, 116, [.tmp 6], none⟩

theorem lc_loop (K : List AItem) {n : Int} (hn : -9223372036854775808 ≤ n ∧ n < 9223372036854775808) {xs cs : List Nat} (hb : ∀ b ∈ xs ++ cs, b < 256) (hlen : (xs ++ cs).length ≤ 1000)
    (hK : ∀ r' H, Run Try.prog lcC K r' H fun av _ => av = .bool true) :
    ∀ (m i a : Nat), i + m = 10 → a ≤ xs.length →
    Rounds Try.prog lcC cuneiformlaw03_LensCuts.b0 [.inBlock 0] K [(2, .int .i64 n), (8, .ptr 0 0), (9, .ptr 1 0), (10, .int .i64 (i : Nat))] [lensB xs a 0, lensB (xs ++ cs) a 0] fun av _ => av = .bool true
  | 0, i, a, h1, ha => by
    refine loop_V 100 cuneiformlaw03_LensCuts.b0.eq_1 ?_
    simp (disch := first | omega | (simp only [List.length_append, List.length_cons, List.length_nil, List.length_set, List.length_map, List.length_take, List.length_drop]; omega)) only [stdh, goK_s2b, dgoK_s2b, isEff_s2b, isPure_s2b, goK_b2s, dgoK_b2s, isEff_b2s, isPure_b2s, evalOp_s2b, s2bR, goK_mark, dgoK_mark, isEff_mark, isPure_mark, evalOp_mark, markA_slc, markB, ↓reduceIte, Nat.reduceEqDiff, Int.reduceToNat, Int.reducePow, Nat.reduceAdd, Nat.reduceLeDiff, Nat.reduceMul, Nat.reduceBEq, reduceCtorEq]
    exact hK _ _
  | m + 1, i, a, h1, ha => by
    refine loop_V 100 cuneiformlaw03_LensCuts.b0.eq_1 ?_
    have hbx : ∀ b ∈ xs, b < 256 := fun b h => hb b (List.mem_append_left _ h)
    have hlx : xs.length ≤ 1000 := by rw [List.length_append] at hlen; omega
    simp (disch := first | omega | (simp only [List.length_append, List.length_cons, List.length_nil, List.length_set, List.length_map, List.length_take, List.length_drop]; omega)) only [stdh, goK_s2b, dgoK_s2b, isEff_s2b, isPure_s2b, goK_b2s, dgoK_b2s, isEff_b2s, isPure_b2s, evalOp_s2b, s2bR, goK_mark, dgoK_mark, isEff_mark, isPure_mark, evalOp_mark, markA_slc, markB, ↓reduceIte, Nat.reduceEqDiff, Int.reduceToNat, Int.reducePow, Nat.reduceAdd, Nat.reduceLeDiff, Nat.reduceMul, Nat.reduceBEq, reduceCtorEq]
    refine callK_fn (field_ok _ hn (ys := xs) (a := a) (e := 0) rfl ha hbx (by omega) _ ?_)
    refine runL_V 60 ?_
    simp (disch := first | omega | (simp only [List.length_append, List.length_cons, List.length_nil, List.length_set, List.length_map, List.length_take, List.length_drop]; omega)) only [stdh, goK_s2b, dgoK_s2b, isEff_s2b, isPure_s2b, goK_b2s, dgoK_b2s, isEff_b2s, isPure_b2s, evalOp_s2b, s2bR, goK_mark, dgoK_mark, isEff_mark, isPure_mark, evalOp_mark, markA_slc, markB, ↓reduceIte, Nat.reduceEqDiff, Int.reduceToNat, Int.reducePow, Nat.reduceAdd, Nat.reduceLeDiff, Nat.reduceMul, Nat.reduceBEq, reduceCtorEq]
    refine callK_fn (field_ok _ hn (ys := xs ++ cs) (a := a) (e := 0) rfl (by rw [List.length_append]; omega) hb (by omega) _ ?_)
    refine runL_V 100 ?_
    have hE := lensField_err (ys := xs) (a := a) (most := n)
    have hA := lensField_app (xs := xs) (cs := cs) (a := a) (most := n) ha
    generalize lensField (xs ++ cs) a 0 n = Y at *
    generalize lensField xs a 0 n = X at *
    obtain ⟨f, a1, e1⟩ := X
    obtain ⟨g, a2, e2⟩ := Y
    dsimp only at hE hA ⊢
    by_cases he : e1 = 0
    · subst he
      obtain ⟨hY, h2, h3⟩ := hA rfl
      cases hY
      simp (disch := first | omega | (simp only [List.length_append, List.length_cons, List.length_nil, List.length_set, List.length_map, List.length_take, List.length_drop]; omega)) only [stdh, goK_s2b, dgoK_s2b, isEff_s2b, isPure_s2b, goK_b2s, dgoK_b2s, isEff_b2s, isPure_b2s, evalOp_s2b, s2bR, goK_mark, dgoK_mark, isEff_mark, isPure_mark, evalOp_mark, markA_slc, markB, ↓reduceIte, Nat.reduceEqDiff, Int.reduceToNat, Int.reducePow, Nat.reduceAdd, Nat.reduceLeDiff, Nat.reduceMul, Nat.reduceBEq, reduceCtorEq]
      refine callK_fn (err_ok _ (ys := xs) (a := a1) (e := 0) rfl _ ?_)
      refine runL_V 100 ?_
      simp (disch := first | omega | (simp only [List.length_append, List.length_cons, List.length_nil, List.length_set, List.length_map, List.length_take, List.length_drop]; omega)) only [stdh, goK_s2b, dgoK_s2b, isEff_s2b, isPure_s2b, goK_b2s, dgoK_b2s, isEff_b2s, isPure_b2s, evalOp_s2b, s2bR, goK_mark, dgoK_mark, isEff_mark, isPure_mark, evalOp_mark, markA_slc, markB, ↓reduceIte, Nat.reduceEqDiff, Int.reduceToNat, Int.reducePow, Nat.reduceAdd, Nat.reduceLeDiff, Nat.reduceMul, Nat.reduceBEq, reduceCtorEq]
      refine callK_fn (err_ok _ (ys := xs ++ cs) (a := a1) (e := 0) rfl _ ?_)
      refine runL_V 100 ?_
      simp (disch := first | omega | (simp only [List.length_append, List.length_cons, List.length_nil, List.length_set, List.length_map, List.length_take, List.length_drop]; omega)) only [stdh, goK_s2b, dgoK_s2b, isEff_s2b, isPure_s2b, goK_b2s, dgoK_b2s, isEff_b2s, isPure_b2s, evalOp_s2b, s2bR, goK_mark, dgoK_mark, isEff_mark, isPure_mark, evalOp_mark, markA_slc, markB, ↓reduceIte, Nat.reduceEqDiff, Int.reduceToNat, Int.reducePow, Nat.reduceAdd, Nat.reduceLeDiff, Nat.reduceMul, Nat.reduceBEq, reduceCtorEq]
      refine callK_fn (same_ok _ (nums_nats _ _ _ _) (nums_nats _ _ _ _) (by omega) _ ?_)
      rw [show decide (f = f) = true by simp]
      refine runL_V 100 ?_
      simp (disch := first | omega | (simp only [List.length_append, List.length_cons, List.length_nil, List.length_set, List.length_map, List.length_take, List.length_drop]; omega)) only [stdh, goK_s2b, dgoK_s2b, isEff_s2b, isPure_s2b, goK_b2s, dgoK_b2s, isEff_b2s, isPure_b2s, evalOp_s2b, s2bR, goK_mark, dgoK_mark, isEff_mark, isPure_mark, evalOp_mark, markA_slc, markB, ↓reduceIte, Nat.reduceEqDiff, Int.reduceToNat, Int.reducePow, Nat.reduceAdd, Nat.reduceLeDiff, Nat.reduceMul, Nat.reduceBEq, reduceCtorEq]
      refine callK_fn (place_ok _ (ys := xs) (a := a1) (e := 0) rfl _ ?_)
      refine runL_V 100 ?_
      simp (disch := first | omega | (simp only [List.length_append, List.length_cons, List.length_nil, List.length_set, List.length_map, List.length_take, List.length_drop]; omega)) only [stdh, goK_s2b, dgoK_s2b, isEff_s2b, isPure_s2b, goK_b2s, dgoK_b2s, isEff_b2s, isPure_b2s, evalOp_s2b, s2bR, goK_mark, dgoK_mark, isEff_mark, isPure_mark, evalOp_mark, markA_slc, markB, ↓reduceIte, Nat.reduceEqDiff, Int.reduceToNat, Int.reducePow, Nat.reduceAdd, Nat.reduceLeDiff, Nat.reduceMul, Nat.reduceBEq, reduceCtorEq]
      refine callK_fn (place_ok _ (ys := xs ++ cs) (a := a1) (e := 0) rfl _ ?_)
      refine runL_V 100 ?_
      simp (disch := first | omega | (simp only [List.length_append, List.length_cons, List.length_nil, List.length_set, List.length_map, List.length_take, List.length_drop]; omega)) only [stdh, goK_s2b, dgoK_s2b, isEff_s2b, isPure_s2b, goK_b2s, dgoK_b2s, isEff_b2s, isPure_b2s, evalOp_s2b, s2bR, goK_mark, dgoK_mark, isEff_mark, isPure_mark, evalOp_mark, markA_slc, markB, ↓reduceIte, Nat.reduceEqDiff, Int.reduceToNat, Int.reducePow, Nat.reduceAdd, Nat.reduceLeDiff, Nat.reduceMul, Nat.reduceBEq, reduceCtorEq]
      refine callK_fn (err_ok _ (ys := xs) (a := a1) (e := 0) rfl _ ?_)
      refine runL_V 100 ?_
      simp (disch := first | omega | (simp only [List.length_append, List.length_cons, List.length_nil, List.length_set, List.length_map, List.length_take, List.length_drop]; omega)) only [stdh, goK_s2b, dgoK_s2b, isEff_s2b, isPure_s2b, goK_b2s, dgoK_b2s, isEff_b2s, isPure_b2s, evalOp_s2b, s2bR, goK_mark, dgoK_mark, isEff_mark, isPure_mark, evalOp_mark, markA_slc, markB, ↓reduceIte, Nat.reduceEqDiff, Int.reduceToNat, Int.reducePow, Nat.reduceAdd, Nat.reduceLeDiff, Nat.reduceMul, Nat.reduceBEq, reduceCtorEq]
      refine callK_fn (err_ok _ (ys := xs) (a := a1) (e := 0) rfl _ ?_)
      refine runL_V 100 ?_
      simp (disch := first | omega | (simp only [List.length_append, List.length_cons, List.length_nil, List.length_set, List.length_map, List.length_take, List.length_drop]; omega)) only [stdh, goK_s2b, dgoK_s2b, isEff_s2b, isPure_s2b, goK_b2s, dgoK_b2s, isEff_b2s, isPure_b2s, evalOp_s2b, s2bR, goK_mark, dgoK_mark, isEff_mark, isPure_mark, evalOp_mark, markA_slc, markB, ↓reduceIte, Nat.reduceEqDiff, Int.reduceToNat, Int.reducePow, Nat.reduceAdd, Nat.reduceLeDiff, Nat.reduceMul, Nat.reduceBEq, reduceCtorEq]
      exact lc_loop K hn hb hlen hK m (i + 1) a1 (by omega) h2
    · obtain ⟨rfl, rfl⟩ := hE he
      simp (disch := first | omega | (simp only [List.length_append, List.length_cons, List.length_nil, List.length_set, List.length_map, List.length_take, List.length_drop]; omega)) only [stdh, goK_s2b, dgoK_s2b, isEff_s2b, isPure_s2b, goK_b2s, dgoK_b2s, isEff_b2s, isPure_b2s, evalOp_s2b, s2bR, goK_mark, dgoK_mark, isEff_mark, isPure_mark, evalOp_mark, markA_slc, markB, ↓reduceIte, Nat.reduceEqDiff, Int.reduceToNat, Int.reducePow, Nat.reduceAdd, Nat.reduceLeDiff, Nat.reduceMul, Nat.reduceBEq, reduceCtorEq]
      refine callK_fn (err_ok _ (ys := xs) (a := a1) (e := e1) rfl _ ?_)
      refine runL_V 100 ?_
      simp (disch := first | omega | (simp only [List.length_append, List.length_cons, List.length_nil, List.length_set, List.length_map, List.length_take, List.length_drop]; omega)) only [stdh, goK_s2b, dgoK_s2b, isEff_s2b, isPure_s2b, goK_b2s, dgoK_b2s, isEff_b2s, isPure_b2s, evalOp_s2b, s2bR, goK_mark, dgoK_mark, isEff_mark, isPure_mark, evalOp_mark, markA_slc, markB, ↓reduceIte, Nat.reduceEqDiff, Int.reduceToNat, Int.reducePow, Nat.reduceAdd, Nat.reduceLeDiff, Nat.reduceMul, Nat.reduceBEq, reduceCtorEq]
      refine callK_fn (err_ok _ (ys := xs) (a := a1) (e := e1) rfl _ ?_)
      refine runL_V 100 ?_
      simp (disch := first | omega | (simp only [List.length_append, List.length_cons, List.length_nil, List.length_set, List.length_map, List.length_take, List.length_drop]; omega)) only [stdh, goK_s2b, dgoK_s2b, isEff_s2b, isPure_s2b, goK_b2s, dgoK_b2s, isEff_b2s, isPure_b2s, evalOp_s2b, s2bR, goK_mark, dgoK_mark, isEff_mark, isPure_mark, evalOp_mark, markA_slc, markB, ↓reduceIte, Nat.reduceEqDiff, Int.reduceToNat, Int.reducePow, Nat.reduceAdd, Nat.reduceLeDiff, Nat.reduceMul, Nat.reduceBEq, reduceCtorEq]
      refine callK_fn (err_ok _ (ys := xs) (a := a1) (e := e1) rfl _ ?_)
      refine runL_V 100 ?_
      simp (disch := first | omega | (simp only [List.length_append, List.length_cons, List.length_nil, List.length_set, List.length_map, List.length_take, List.length_drop]; omega)) only [stdh, goK_s2b, dgoK_s2b, isEff_s2b, isPure_s2b, goK_b2s, dgoK_b2s, isEff_b2s, isPure_b2s, evalOp_s2b, s2bR, goK_mark, dgoK_mark, isEff_mark, isPure_mark, evalOp_mark, markA_slc, markB, ↓reduceIte, Nat.reduceEqDiff, Int.reduceToNat, Int.reducePow, Nat.reduceAdd, Nat.reduceLeDiff, Nat.reduceMul, Nat.reduceBEq, reduceCtorEq]
      refine callK_fn (err_ok _ (ys := xs) (a := a1) (e := e1) rfl _ ?_)
      refine runL_V 100 ?_
      simp (disch := first | omega | (simp only [List.length_append, List.length_cons, List.length_nil, List.length_set, List.length_map, List.length_take, List.length_drop]; omega)) only [stdh, goK_s2b, dgoK_s2b, isEff_s2b, isPure_s2b, goK_b2s, dgoK_b2s, isEff_b2s, isPure_b2s, evalOp_s2b, s2bR, goK_mark, dgoK_mark, isEff_mark, isPure_mark, evalOp_mark, markA_slc, markB, ↓reduceIte, Nat.reduceEqDiff, Int.reduceToNat, Int.reducePow, Nat.reduceAdd, Nat.reduceLeDiff, Nat.reduceMul, Nat.reduceBEq, reduceCtorEq]
      refine callK_fn (place_ok _ (ys := xs) (a := a1) (e := e1) rfl _ ?_)
      refine runL_V 100 ?_
      simp (disch := first | omega | (simp only [List.length_append, List.length_cons, List.length_nil, List.length_set, List.length_map, List.length_take, List.length_drop]; omega)) only [stdh, goK_s2b, dgoK_s2b, isEff_s2b, isPure_s2b, goK_b2s, dgoK_b2s, isEff_b2s, isPure_b2s, evalOp_s2b, s2bR, goK_mark, dgoK_mark, isEff_mark, isPure_mark, evalOp_mark, markA_slc, markB, ↓reduceIte, Nat.reduceEqDiff, Int.reduceToNat, Int.reducePow, Nat.reduceAdd, Nat.reduceLeDiff, Nat.reduceMul, Nat.reduceBEq, reduceCtorEq]
      refine callK_fn (u32_err _ (ys := xs) (a := a1) (e := e1) rfl he ha (by omega) _ ?_)
      refine runL_V 100 ?_
      simp (disch := first | omega | (simp only [List.length_append, List.length_cons, List.length_nil, List.length_set, List.length_map, List.length_take, List.length_drop]; omega)) only [stdh, goK_s2b, dgoK_s2b, isEff_s2b, isPure_s2b, goK_b2s, dgoK_b2s, isEff_b2s, isPure_b2s, evalOp_s2b, s2bR, goK_mark, dgoK_mark, isEff_mark, isPure_mark, evalOp_mark, markA_slc, markB, ↓reduceIte, Nat.reduceEqDiff, Int.reduceToNat, Int.reducePow, Nat.reduceAdd, Nat.reduceLeDiff, Nat.reduceMul, Nat.reduceBEq, reduceCtorEq]
      refine callK_fn (rest_err _ (ys := xs) (a := a1) (e := e1) rfl he ha (by omega) _ ?_)
      refine runL_V 100 ?_
      simp (disch := first | omega | (simp only [List.length_append, List.length_cons, List.length_nil, List.length_set, List.length_map, List.length_take, List.length_drop]; omega)) only [stdh, goK_s2b, dgoK_s2b, isEff_s2b, isPure_s2b, goK_b2s, dgoK_b2s, isEff_b2s, isPure_b2s, evalOp_s2b, s2bR, goK_mark, dgoK_mark, isEff_mark, isPure_mark, evalOp_mark, markA_slc, markB, ↓reduceIte, Nat.reduceEqDiff, Int.reduceToNat, Int.reducePow, Nat.reduceAdd, Nat.reduceLeDiff, Nat.reduceMul, Nat.reduceBEq, reduceCtorEq]
      refine callK_fn (known03_ok _ _ ?_)
      refine runL_V 100 ?_
      simp (disch := first | omega | (simp only [List.length_append, List.length_cons, List.length_nil, List.length_set, List.length_map, List.length_take, List.length_drop]; omega)) only [stdh, goK_s2b, dgoK_s2b, isEff_s2b, isPure_s2b, goK_b2s, dgoK_b2s, isEff_b2s, isPure_b2s, evalOp_s2b, s2bR, goK_mark, dgoK_mark, isEff_mark, isPure_mark, evalOp_mark, markA_slc, markB, ↓reduceIte, Nat.reduceEqDiff, Int.reduceToNat, Int.reducePow, Nat.reduceAdd, Nat.reduceLeDiff, Nat.reduceMul, Nat.reduceBEq, reduceCtorEq]
      refine callK_fn (err_ok _ (ys := xs) (a := a1) (e := e1) rfl _ ?_)
      refine runL_V 100 ?_
      simp (disch := first | omega | (simp only [List.length_append, List.length_cons, List.length_nil, List.length_set, List.length_map, List.length_take, List.length_drop]; omega)) only [stdh, goK_s2b, dgoK_s2b, isEff_s2b, isPure_s2b, goK_b2s, dgoK_b2s, isEff_b2s, isPure_b2s, evalOp_s2b, s2bR, goK_mark, dgoK_mark, isEff_mark, isPure_mark, evalOp_mark, markA_slc, markB, ↓reduceIte, Nat.reduceEqDiff, Int.reduceToNat, Int.reducePow, Nat.reduceAdd, Nat.reduceLeDiff, Nat.reduceMul, Nat.reduceBEq, reduceCtorEq]
      refine callK_fn (place_ok _ (ys := xs) (a := a1) (e := e1) rfl _ ?_)
      refine runL_V 100 ?_
      simp (disch := first | omega | (simp only [List.length_append, List.length_cons, List.length_nil, List.length_set, List.length_map, List.length_take, List.length_drop]; omega)) only [stdh, goK_s2b, dgoK_s2b, isEff_s2b, isPure_s2b, goK_b2s, dgoK_b2s, isEff_b2s, isPure_b2s, evalOp_s2b, s2bR, goK_mark, dgoK_mark, isEff_mark, isPure_mark, evalOp_mark, markA_slc, markB, ↓reduceIte, Nat.reduceEqDiff, Int.reduceToNat, Int.reducePow, Nat.reduceAdd, Nat.reduceLeDiff, Nat.reduceMul, Nat.reduceBEq, reduceCtorEq]
      refine callK_fn (end_ok _ (ys := xs) (a := a1) (e := e1) rfl ha (by omega) _ ?_)
      rw [if_neg (by omega)]
      refine runL_V 100 ?_
      simp (disch := first | omega | (simp only [List.length_append, List.length_cons, List.length_nil, List.length_set, List.length_map, List.length_take, List.length_drop]; omega)) only [stdh, goK_s2b, dgoK_s2b, isEff_s2b, isPure_s2b, goK_b2s, dgoK_b2s, isEff_b2s, isPure_b2s, evalOp_s2b, s2bR, goK_mark, dgoK_mark, isEff_mark, isPure_mark, evalOp_mark, markA_slc, markB, ↓reduceIte, Nat.reduceEqDiff, Int.reduceToNat, Int.reducePow, Nat.reduceAdd, Nat.reduceLeDiff, Nat.reduceMul, Nat.reduceBEq, reduceCtorEq]

theorem lenscuts_ok {bs : List Nat} (hb : ∀ b ∈ bs, b < 256) {at_ n : Int} (ha : -9223372036854775808 ≤ at_ ∧ at_ < 9223372036854775808) (hn : -9223372036854775808 ≤ n ∧ n < 9223372036854775808) :
    FunOK Try.prog F.cuneiformlaw03_LensCuts [nums .u8 false bs, .int .i64 at_, .int .i64 n] [] fun av _ => av = .bool true := by
  refine fun_V 100 cuneiformlaw03_LensCuts_code rfl ?_
  have min100 : ∀ n : Nat, (if 100 < (n : Int) then 100 else (n : Int)) = ((min n 100 : Nat) : Int) := fun n => by split <;> omega
  simp (disch := first | omega | (simp only [List.length_append, List.length_cons, List.length_nil, List.length_set, List.length_map, List.length_take, List.length_drop]; omega)) only [stdh, goK_s2b, dgoK_s2b, isEff_s2b, isPure_s2b, goK_b2s, dgoK_b2s, isEff_b2s, isPure_b2s, evalOp_s2b, s2bR, goK_mark, dgoK_mark, isEff_mark, isPure_mark, evalOp_mark, markA_slc, markB, ↓reduceIte, Nat.reduceEqDiff, Int.reduceToNat, Int.reducePow, Nat.reduceAdd, Nat.reduceLeDiff, Nat.reduceMul, Nat.reduceBEq, reduceCtorEq, cuneiformlaw03_LensCuts, cuneiformlaw03_LensCuts.body, min100]
  have hz : ∀ b ∈ bs.take (min bs.length 100), b < 256 := fun b hb' => hb b (List.mem_of_mem_take hb')
  have hzl : (bs.take (min bs.length 100)).length ≤ 100 := by rw [List.length_take]; omega
  generalize bs.take (min bs.length 100) = zs at *
  obtain ⟨kk, hk, hkl⟩ : ∃ kk : Nat, IntKind.i64.wrap ((IntKind.u64.wrap at_).tmod ((zs.length : Nat) + 1)) = (kk : Int) ∧ kk ≤ zs.length := by
    have h0 : 0 ≤ IntKind.u64.wrap at_ := by rw [wrap_u64']; omega
    rw [Int.tmod_eq_emod_of_nonneg h0]
    generalize IntKind.u64.wrap at_ = u at *
    have h1 := Int.emod_nonneg u (show ((zs.length : Nat) : Int) + 1 ≠ 0 by omega)
    have h2 := Int.emod_lt_of_pos u (show 0 < ((zs.length : Nat) : Int) + 1 by omega)
    refine ⟨(u % ((zs.length : Nat) + 1)).toNat, ?_, by omega⟩
    rw [wrap_i64 (by omega)]; omega
  obtain ⟨nn, hnn, hnl⟩ : ∃ nn : Nat, IntKind.i64.wrap ((IntKind.u64.wrap n).tmod 20) = (nn : Int) ∧ nn < 20 := by
    have h0 : 0 ≤ IntKind.u64.wrap n := by rw [wrap_u64']; omega
    rw [Int.tmod_eq_emod_of_nonneg h0]
    generalize IntKind.u64.wrap n = u at *
    refine ⟨(u % 20).toNat, ?_, by omega⟩
    rw [wrap_i64 (by omega)]; omega
  rw [hk, hnn]
  simp (disch := first | omega | (simp only [List.length_append, List.length_cons, List.length_nil, List.length_set, List.length_map, List.length_take, List.length_drop]; omega)) only [stdh, goK_s2b, dgoK_s2b, isEff_s2b, isPure_s2b, goK_b2s, dgoK_b2s, isEff_b2s, isPure_b2s, evalOp_s2b, s2bR, goK_mark, dgoK_mark, isEff_mark, isPure_mark, evalOp_mark, markA_slc, markB, ↓reduceIte, Nat.reduceEqDiff, Int.reduceToNat, Int.reducePow, Nat.reduceAdd, Nat.reduceLeDiff, Nat.reduceMul, Nat.reduceBEq, reduceCtorEq]
  refine callK_fn (lnew_ok _ (by simp; omega) _ ?_)
  refine runL_V 100 ?_
  simp (disch := first | omega | (simp only [List.length_append, List.length_cons, List.length_nil, List.length_set, List.length_map, List.length_take, List.length_drop]; omega)) only [stdh, goK_s2b, dgoK_s2b, isEff_s2b, isPure_s2b, goK_b2s, dgoK_b2s, isEff_b2s, isPure_b2s, evalOp_s2b, s2bR, goK_mark, dgoK_mark, isEff_mark, isPure_mark, evalOp_mark, markA_slc, markB, ↓reduceIte, Nat.reduceEqDiff, Int.reduceToNat, Int.reducePow, Nat.reduceAdd, Nat.reduceLeDiff, Nat.reduceMul, Nat.reduceBEq, reduceCtorEq]
  refine callK_fn (lnew_ok _ (by omega) _ ?_)
  refine runL_V 100 ?_
  simp (disch := first | omega | (simp only [List.length_append, List.length_cons, List.length_nil, List.length_set, List.length_map, List.length_take, List.length_drop]; omega)) only [stdh, goK_s2b, dgoK_s2b, isEff_s2b, isPure_s2b, goK_b2s, dgoK_b2s, isEff_b2s, isPure_b2s, evalOp_s2b, s2bR, goK_mark, dgoK_mark, isEff_mark, isPure_mark, evalOp_mark, markA_slc, markB, ↓reduceIte, Nat.reduceEqDiff, Int.reduceToNat, Int.reducePow, Nat.reduceAdd, Nat.reduceLeDiff, Nat.reduceMul, Nat.reduceBEq, reduceCtorEq, eqA]
  have hsplit : zs = zs.take kk ++ zs.drop kk := by rw [List.take_append_drop]
  have hl1 : (zs.take kk ++ zs.drop kk).length ≤ 1000 := by rw [← hsplit]; omega
  have hb1 : ∀ b ∈ zs.take kk ++ zs.drop kk, b < 256 := by rw [← hsplit]; exact hz
  have := lc_loop [.code (.seq (.region [⟨some 115, .call (.const (.fn F.cuneiformlaw03_known [] [])) [], none⟩, ⟨some 6, .mov (.tmp 115), none⟩] [6]) .ret)] (n := (nn : Int)) (by omega) hb1 hl1 (fun r' H => by
    refine run_V0 60 ?_
    simp (disch := first | omega | (simp only [List.length_append, List.length_cons, List.length_nil, List.length_set, List.length_map, List.length_take, List.length_drop]; omega)) only [stdh, goK_s2b, dgoK_s2b, isEff_s2b, isPure_s2b, goK_b2s, dgoK_b2s, isEff_b2s, isPure_b2s, evalOp_s2b, s2bR, goK_mark, dgoK_mark, isEff_mark, isPure_mark, evalOp_mark, markA_slc, markB, ↓reduceIte, Nat.reduceEqDiff, Int.reduceToNat, Int.reducePow, Nat.reduceAdd, Nat.reduceLeDiff, Nat.reduceMul, Nat.reduceBEq, reduceCtorEq]
    refine callK_fn (known03_ok _ _ ?_)
    refine runL_V 60 ?_
    simp (disch := first | omega | (simp only [List.length_append, List.length_cons, List.length_nil, List.length_set, List.length_map, List.length_take, List.length_drop]; omega)) only [stdh, goK_s2b, dgoK_s2b, isEff_s2b, isPure_s2b, goK_b2s, dgoK_b2s, isEff_b2s, isPure_b2s, evalOp_s2b, s2bR, goK_mark, dgoK_mark, isEff_mark, isPure_mark, evalOp_mark, markA_slc, markB, ↓reduceIte, Nat.reduceEqDiff, Int.reduceToNat, Int.reducePow, Nat.reduceAdd, Nat.reduceLeDiff, Nat.reduceMul, Nat.reduceBEq, reduceCtorEq]) 10 0 0 rfl (by omega)
  rw [← hsplit] at this
  exact this
end Go.Proofs.Ytebhlclfiiffbaa
