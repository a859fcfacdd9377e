/-
  Lemmas on the way to the statements of this seat. By an AI agent. No person has read it.
-/
import Derived.Test.YtebhlclfiiffbaaLENS

namespace Go.Proofs.Ytebhlclfiiffbaa
open Go Go.Am
set_option linter.unusedSimpArgs false
set_option linter.unusedVariables false

/-! ### From the last byte to the first -/

def backItem (xs : List Nat) (j : Nat) : List AVal := [.int .i64 ((xs.length - 1 - j : Nat) : Int), .int .u8 ((xs.getD (xs.length - 1 - j) 0 : Nat) : Int)]

abbrev backC : Ctx := ⟨F.slices_Backward_byte_byte_1, 19, [], none⟩

theorem back_loop {n : Nat} {t : Bool} {xs : List Nat} (hlen : xs.length ≤ 1000000) {I : Bool → Nat → List Nat → AHeap → Prop} (hI : Fed Try.prog n (backItem xs) xs.length I) (Q : AVal → AHeap → Prop) {H0 : AHeap} {fp0 : List Nat}
    (hQ : ∀ b j fp H, H0.length ≤ H.length → (∀ m, m < H0.length → m ∉ fp0 → H[m]? = H0[m]?) → (b = true → j = xs.length) → I b j fp H → Q (.tup []) H) :
    ∀ (m j : Nat) (H : AHeap) (fp : List Nat), xs.length - j = m → j ≤ xs.length → Touches fp0 H0 fp H → I true j fp H →
    Rounds Try.prog backC slices_Backward_byte_byte_1.b0 [.inBlock 0] [] [(0, .yld n), (1, cell (nums .u8 t xs)), (3, .int .i64 ((xs.length : Int) - 1 - j))] H Q
  | m, j, H, fp, h1, h2, ht, hi => by
    refine loop_V 100 slices_Backward_byte_byte_1.b0.eq_1 ?_
    by_cases hj : j < xs.length
    · have e1 : (xs.length : Int) - 1 - j = ((xs.length - 1 - j : Nat) : Int) := by omega
      have hlt : xs.length - 1 - j < xs.length := by omega
      have hstep := hI.step j fp H hj hi
      simp only [backItem] at hstep
      generalize hq : xs.length - 1 - j = q at *
      rw [e1]
      simp (disch := first | omega | (simp only [List.length_append, List.length_cons, List.length_nil, List.length_set, List.length_map, List.length_take, List.length_drop]; omega)) only [stdh, goK_s2b, dgoK_s2b, isEff_s2b, isPure_s2b, goK_b2s, dgoK_b2s, isEff_b2s, isPure_b2s, evalOp_s2b, s2bR, goK_mark, dgoK_mark, isEff_mark, isPure_mark, evalOp_mark, markA_slc, markB, ↓reduceIte, Nat.reduceEqDiff, Int.reduceToNat, Int.reducePow, Nat.reduceAdd, Nat.reduceLeDiff, Nat.reduceMul, Nat.reduceBEq, reduceCtorEq]
      refine CallV.mono hstep fun av H' hh => ?_
      obtain ⟨fp', ht', hh⟩ := hh
      refine runL_V 60 ?_
      rcases hh with ⟨rfl, hi'⟩ | ⟨rfl, hi'⟩
      · simp (disch := first | omega | (simp only [List.length_append, List.length_cons, List.length_nil, List.length_set, List.length_map, List.length_take, List.length_drop]; omega)) only [stdh, goK_s2b, dgoK_s2b, isEff_s2b, isPure_s2b, goK_b2s, dgoK_b2s, isEff_b2s, isPure_b2s, evalOp_s2b, s2bR, goK_mark, dgoK_mark, isEff_mark, isPure_mark, evalOp_mark, markA_slc, markB, ↓reduceIte, Nat.reduceEqDiff, Int.reduceToNat, Int.reducePow, Nat.reduceAdd, Nat.reduceLeDiff, Nat.reduceMul, Nat.reduceBEq, reduceCtorEq]
        rw [show (q : Int) - 1 = (xs.length : Int) - 1 - ((j + 1 : Nat) : Int) by omega]
        exact back_loop hlen hI Q hQ _ (j + 1) H' fp' rfl (by omega) (ht.trans ht') hi'
      · simp (disch := first | omega | (simp only [List.length_append, List.length_cons, List.length_nil, List.length_set, List.length_map, List.length_take, List.length_drop]; omega)) only [stdh, goK_s2b, dgoK_s2b, isEff_s2b, isPure_s2b, goK_b2s, dgoK_b2s, isEff_b2s, isPure_b2s, evalOp_s2b, s2bR, goK_mark, dgoK_mark, isEff_mark, isPure_mark, evalOp_mark, markA_slc, markB, ↓reduceIte, Nat.reduceEqDiff, Int.reduceToNat, Int.reducePow, Nat.reduceAdd, Nat.reduceLeDiff, Nat.reduceMul, Nat.reduceBEq, reduceCtorEq]
        exact hQ false _ fp' H' (ht.trans ht').le (ht.trans ht').kept (fun hh => by cases hh) hi'
    · have : j = xs.length := by omega
      have hneg : ¬ 0 ≤ (xs.length : Int) - 1 - j := by omega
      simp (disch := first | omega | (simp only [List.length_append, List.length_cons, List.length_nil, List.length_set, List.length_map, List.length_take, List.length_drop]; omega)) only [stdh, goK_s2b, dgoK_s2b, isEff_s2b, isPure_s2b, goK_b2s, dgoK_b2s, isEff_b2s, isPure_b2s, evalOp_s2b, s2bR, goK_mark, dgoK_mark, isEff_mark, isPure_mark, evalOp_mark, markA_slc, markB, ↓reduceIte, Nat.reduceEqDiff, Int.reduceToNat, Int.reducePow, Nat.reduceAdd, Nat.reduceLeDiff, Nat.reduceMul, Nat.reduceBEq, reduceCtorEq, hneg]
      refine run_fin rfl rfl trivial ?_
      exact hQ true j fp H ht.le ht.kept (fun _ => this) hi
  termination_by m => m

theorem back_iter {H : AHeap} {n : Nat} {t : Bool} {xs : List Nat} (hlen : xs.length ≤ 1000000) : Iter Try.prog F.slices_Backward_byte_byte_1 [.yld n, cell (nums .u8 t xs)] n (backItem xs) xs.length [] H := by
  intro I hI fp hi hown
  refine fun_V 100 slices_Backward_byte_byte_1_code rfl ?_
  simp (disch := first | omega | (simp only [List.length_append, List.length_cons, List.length_nil, List.length_set, List.length_map, List.length_take, List.length_drop]; omega)) only [stdh, goK_s2b, dgoK_s2b, isEff_s2b, isPure_s2b, goK_b2s, dgoK_b2s, isEff_b2s, isPure_b2s, evalOp_s2b, s2bR, goK_mark, dgoK_mark, isEff_mark, isPure_mark, evalOp_mark, markA_slc, markB, ↓reduceIte, Nat.reduceEqDiff, Int.reduceToNat, Int.reducePow, Nat.reduceAdd, Nat.reduceLeDiff, Nat.reduceMul, Nat.reduceBEq, reduceCtorEq, slices_Backward_byte_byte_1, slices_Backward_byte_byte_1.body]
  have hl := back_loop (t := t) hlen hI (fun av H' => ∃ b j fp', H.length ≤ H'.length ∧ (∀ m, m < H.length → m ∉ fp → H'[m]? = H[m]?) ∧ (b = true → j = xs.length) ∧ I b j fp' H') (H0 := H) (fp0 := fp) (fun b j fp' H' h1 h2 h3 h4 => ⟨b, j, fp', h1, h2, h3, h4⟩) _ 0 H fp rfl (by omega) (Touches.refl _ _) hi
  simpa using hl

theorem back_ok (H : AHeap) {t : Bool} {xs : List Nat} (Q : AVal → AHeap → Prop) (h : Q (.fn F.slices_Backward_byte_byte_1 [] [cell (nums .u8 t xs)]) H) : FunOK Try.prog F.slices_Backward_byte_byte [nums .u8 t xs] H Q := by
  refine fun_iced slices_Backward_byte_byte_code fun _ => ?_
  refine fun_V 40 slices_Backward_byte_byte_code rfl ?_
  simp (disch := first | omega | (simp only [List.length_append, List.length_cons, List.length_nil, List.length_set, List.length_map, List.length_take, List.length_drop]; omega)) only [stdh, goK_s2b, dgoK_s2b, isEff_s2b, isPure_s2b, goK_b2s, dgoK_b2s, isEff_b2s, isPure_b2s, evalOp_s2b, s2bR, goK_mark, dgoK_mark, isEff_mark, isPure_mark, evalOp_mark, markA_slc, markB, ↓reduceIte, Nat.reduceEqDiff, Int.reduceToNat, Int.reducePow, Nat.reduceAdd, Nat.reduceLeDiff, Nat.reduceMul, Nat.reduceBEq, reduceCtorEq, slices_Backward_byte_byte, slices_Backward_byte_byte.body]
  exact ice_clo1 (closed_nums _ _ _) h

/-! ### Words -/

def leval : List Nat → Nat
  | [] => 0
  | c :: r => c + 256 * leval r

theorem leval_lt : ∀ (xs : List Nat), (∀ b ∈ xs, b < 256) → leval xs < 256 ^ xs.length
  | [], _ => by simp [leval]
  | c :: r, h => by
    have h1 := leval_lt r fun x hx => h x (by simp [hx])
    have h2 := h c (by simp)
    rw [leval, List.length_cons, Nat.pow_succ]; omega

theorem leval_drop {xs : List Nat} {j : Nat} (h : j < xs.length) : leval (xs.drop j) = xs.getD j 0 + 256 * leval (xs.drop (j + 1)) := by
  rw [List.drop_eq_getElem_cons h, leval]
  congr 1
  simp [List.getD_eq_getElem?_getD, h]

theorem word1_ok (H : AHeap) {t : Bool} {zs : List Nat} (hb : ∀ b ∈ zs, b < 256) (hlen : zs.length ≤ 1000000) {q1 q2 s : Nat} (hs : s ≤ 4) (h1 : H[q1]? = some (.cells [.int .i64 (s : Nat)] T.int)) (h2 : H[q2]? = some (.cells [.int .u32 0] T.uint32)) (Q : AVal → AHeap → Prop)
    (he : zs.length < s → Q (.tup [.int .i64 0, .int .i64 4]) H)
    (hq : s ≤ zs.length → ∀ H', H.length ≤ H'.length → (∀ m, m < H.length → m ≠ q2 → H'[m]? = H[m]?) → H'[q2]? = some (.cells [.int .u32 (leval (zs.take s) : Nat)] T.uint32) → Q (.tup [.int .i64 (s : Nat), .int .i64 0]) H') :
    FunOK Try.prog F.lens_Lens_word_1 [nums .u8 t zs, .ptr q1 0, .ptr q2 0] H Q := by
  have hl1 := (List.getElem?_eq_some_iff.1 h1).1
  have hl2 := (List.getElem?_eq_some_iff.1 h2).1
  have hne : q1 ≠ q2 := by rintro rfl; rw [h1] at h2; cases h2
  refine fun_V 100 lens_Lens_word_1_code rfl ?_
  by_cases hz : zs.length < s
  · have := he hz
    simp (disch := first | omega | (simp only [List.length_append, List.length_cons, List.length_nil, List.length_set, List.length_map, List.length_take, List.length_drop]; omega)) only [stdh, goK_s2b, dgoK_s2b, isEff_s2b, isPure_s2b, goK_b2s, dgoK_b2s, isEff_b2s, isPure_b2s, evalOp_s2b, s2bR, goK_mark, dgoK_mark, isEff_mark, isPure_mark, evalOp_mark, markA_slc, markB, ↓reduceIte, Nat.reduceEqDiff, Int.reduceToNat, Int.reducePow, Nat.reduceAdd, Nat.reduceLeDiff, Nat.reduceMul, Nat.reduceBEq, reduceCtorEq, lens_Lens_word_1, lens_Lens_word_1.body, h1]
    exact this
  · have hq := hq (by omega)
    have hz2 : ¬ ((zs.length : Nat) : Int) < (s : Int) := by omega
    simp (disch := first | omega | (simp only [List.length_append, List.length_cons, List.length_nil, List.length_set, List.length_map, List.length_take, List.length_drop]; omega)) only [stdh, goK_s2b, dgoK_s2b, isEff_s2b, isPure_s2b, goK_b2s, dgoK_b2s, isEff_b2s, isPure_b2s, evalOp_s2b, s2bR, goK_mark, dgoK_mark, isEff_mark, isPure_mark, evalOp_mark, markA_slc, markB, ↓reduceIte, Nat.reduceEqDiff, Int.reduceToNat, Int.reducePow, Nat.reduceAdd, Nat.reduceLeDiff, Nat.reduceMul, Nat.reduceBEq, reduceCtorEq, lens_Lens_word_1, lens_Lens_word_1.body, h1, hz2]
    have hbt : ∀ b ∈ zs.take s, b < 256 := fun b hb' => hb b (List.mem_of_mem_take hb')
    have htl : (zs.take s).length = s := by rw [List.length_take]; omega
    generalize zs.take s = ws at *
    refine callK_fn (back_ok _ _ ?_)
    refine runL_V 60 ?_
    simp (disch := first | omega | (simp only [List.length_append, List.length_cons, List.length_nil, List.length_set, List.length_map, List.length_take, List.length_drop]; omega)) only [stdh, goK_s2b, dgoK_s2b, isEff_s2b, isPure_s2b, goK_b2s, dgoK_b2s, isEff_b2s, isPure_b2s, evalOp_s2b, s2bR, goK_mark, dgoK_mark, isEff_mark, isPure_mark, evalOp_mark, markA_slc, markB, ↓reduceIte, Nat.reduceEqDiff, Int.reduceToNat, Int.reducePow, Nat.reduceAdd, Nat.reduceLeDiff, Nat.reduceMul, Nat.reduceBEq, reduceCtorEq]
    refine range_vars (g := F.slices_Backward_byte_byte_1) (first := []) (captured := [cell (nums .u8 (t && decide (s = zs.length)) ws)]) rfl (by intro n hn; cases hn) (item := backItem ws) (len := ws.length) (fun j => rfl) [(q2, T.uint32, fun j => .int .u32 (leval (ws.drop (s - j)) : Nat))] (fun _ => none) (vars_cons (by rw [h2]; simp [List.drop_eq_nil_of_le (show ws.length ≤ s by omega), leval]) vars_nil) ?_ (fun _ _ _ => back_iter (by omega)) ?_ (fun _ _ _ _ _ _ hh => by cases hh)
    · intro a' b' j H1 hj hst hl hkp hrec hv
      have g2 : H1[q2]? = some (.cells [.int .u32 (leval (ws.drop (s - j)) : Nat)] T.uint32) := hv.get (c := q2) (T := T.uint32) (f := fun j => .int .u32 (leval (ws.drop (s - j)) : Nat)) (by simp)
      have hsc : leval (ws.drop (s - (j + 1))) = ws.getD (s - 1 - j) 0 + 256 * leval (ws.drop (s - j)) := by
        rw [show s - (j + 1) = s - 1 - j by omega, leval_drop (by omega), show s - 1 - j + 1 = s - j by omega]
      have hcb : ws.getD (s - 1 - j) 0 < 256 := by
        rw [List.getD_eq_getElem?_getD]; simp [show s - 1 - j < ws.length by omega]; exact hbt _ (List.getElem_mem _)
      have hnb : leval (ws.drop (s - j)) < 16777216 := by
        have h1 := leval_lt (ws.drop (s - j)) fun b hb' => hbt b (List.mem_of_mem_drop hb')
        have h2 : (256 : Nat) ^ (ws.drop (s - j)).length ≤ 256 ^ 3 := Nat.pow_le_pow_right (by omega) (by rw [List.length_drop]; omega)
        omega
      have hit : backItem ws j = [.int .i64 ((s - 1 - j : Nat) : Int), .int .u8 ((ws.getD (s - 1 - j) 0 : Nat) : Int)] := by unfold backItem; rw [htl]
      rw [hit]
      generalize leval (ws.drop (s - j)) = n at *
      generalize hgen : leval (ws.drop (s - (j + 1))) = n' at *
      generalize ws.getD (s - 1 - j) 0 = c at *
      have e1 : IntKind.u32.wrap ((n : Int) * 2 ^ 8) = ((n * 256 : Nat) : Int) := by rw [wrap_u32 (by omega)]; omega
      have e2 := bits_or (k := .u32) rfl (a := n * 256) (b := c) (show n * 256 < 4294967296 by omega) (show c < 4294967296 by omega)
      have e3 : n * 256 ||| c = n' := by
        rw [hsc, Nat.or_comm, show n * 256 = n * 2 ^ 8 by omega, or_shift (by omega)]; omega
      rw [e3, show ((n * 256 : Nat) : Int) = (n : Int) * 256 by omega] at e2
      refine run_V0 60 ?_
      simp (disch := first | omega | (simp only [List.length_append, List.length_cons, List.length_nil, List.length_set, List.length_map, List.length_take, List.length_drop]; omega)) only [stdh, goK_s2b, dgoK_s2b, isEff_s2b, isPure_s2b, goK_b2s, dgoK_b2s, isEff_b2s, isPure_b2s, evalOp_s2b, s2bR, goK_mark, dgoK_mark, isEff_mark, isPure_mark, evalOp_mark, markA_slc, markB, ↓reduceIte, Nat.reduceEqDiff, Int.reduceToNat, Int.reducePow, Nat.reduceAdd, Nat.reduceLeDiff, Nat.reduceMul, Nat.reduceBEq, reduceCtorEq, lens_Lens_word_1.a0, lens_Lens_word_1.b0, hrec, g2, e1, e2, List.zip_cons_cons, List.zip_nil_left, List.reverse_cons, List.reverse_nil, List.getElem?_set_self, List.getElem?_set_ne, at_low]
      refine round_fin (n := H.length) rfl (by simp (disch := first | omega | (simp only [List.length_append, List.length_cons, List.length_nil, List.length_set, List.length_map, List.length_take, List.length_drop]; omega)) only [List.getElem?_set_ne, List.getElem?_set_self, List.length_set, ne_eq, not_false_eq_true]; rfl) ?_
      refine varsQ_mk rfl (by (first | omega | (simp only [List.length_append, List.length_cons, List.length_nil, List.length_set, List.length_map, List.length_take, List.length_drop]; omega))) (fun m m1 m2 m3 => ?_) (vars_cons ?_ vars_nil) ?_
      · simp only [List.map_cons, List.map_nil, List.mem_singleton] at m3
        rw [List.getElem?_set_ne (by omega), List.getElem?_set_ne (by omega), List.getElem?_set_ne (by omega)]
      · simp (disch := first | omega | (simp only [List.length_append, List.length_cons, List.length_nil, List.length_set, List.length_map, List.length_take, List.length_drop]; omega)) only [List.getElem?_set_ne, List.getElem?_set_self, List.length_set, ne_eq, not_false_eq_true]
        rw [hgen]
      · simp (disch := first | omega | (simp only [List.length_append, List.length_cons, List.length_nil, List.length_set, List.length_map, List.length_take, List.length_drop]; omega)) only [List.getElem?_set_ne, List.getElem?_set_self, List.length_set, ne_eq, not_false_eq_true]
        rfl
    · intro H' hl hkp _ hv
      have g2 : H'[q2]? = some (.cells [.int .u32 (leval (ws.drop (s - ws.length)) : Nat)] T.uint32) := hv.get (c := q2) (T := T.uint32) (f := fun j => .int .u32 (leval (ws.drop (s - j)) : Nat)) (by simp)
      rw [htl, Nat.sub_self, List.drop_zero] at g2
      have g1 : H'[q1]? = some (.cells [.int .i64 (s : Nat)] T.int) := (hkp q1 hl1 (by simp; exact hne)).trans h1
      refine run_V0 60 ?_
      simp (disch := first | omega | (simp only [List.length_append, List.length_cons, List.length_nil, List.length_set, List.length_map, List.length_take, List.length_drop]; omega)) only [stdh, goK_s2b, dgoK_s2b, isEff_s2b, isPure_s2b, goK_b2s, dgoK_b2s, isEff_b2s, isPure_b2s, evalOp_s2b, s2bR, goK_mark, dgoK_mark, isEff_mark, isPure_mark, evalOp_mark, markA_slc, markB, ↓reduceIte, Nat.reduceEqDiff, Int.reduceToNat, Int.reducePow, Nat.reduceAdd, Nat.reduceLeDiff, Nat.reduceMul, Nat.reduceBEq, reduceCtorEq, g1]
      exact hq H' (by omega) (fun m hm hmq => hkp m hm (by simp; exact hmq)) g2
/-- What a read of a lens comes to: what is told, the place, the error; from what the bytes that are left come to: how many are read, what is told, the error. -/
def lensR {α : Type} (d : α) (ys : List Nat) (a e : Nat) (sp : List Nat → Nat × α × Nat) : α × Nat × Nat :=
  if e ≠ 0 then (d, a, e) else if (sp (ys.drop a)).2.2 ≠ 0 then (d, a, (sp (ys.drop a)).2.2) else ((sp (ys.drop a)).2.1, a + (sp (ys.drop a)).1, 0)

theorem lensR_err {α : Type} {d : α} {ys : List Nat} {a e : Nat} {sp : List Nat → Nat × α × Nat} (h : e ≠ 0) : lensR d ys a e sp = (d, a, e) := by unfold lensR; rw [if_pos h]
theorem lensR_bad {α : Type} {d : α} {ys : List Nat} {a k x : Nat} {v : α} {sp : List Nat → Nat × α × Nat} (h : sp (ys.drop a) = (k, v, x)) (hx : x ≠ 0) : lensR d ys a 0 sp = (d, a, x) := by unfold lensR; rw [if_neg (by simp), h, if_pos hx]
theorem lensR_ok {α : Type} {d : α} {ys : List Nat} {a k : Nat} {v : α} {sp : List Nat → Nat × α × Nat} (h : sp (ys.drop a) = (k, v, 0)) : lensR d ys a 0 sp = (v, a + k, 0) := by unfold lensR; rw [if_neg (by simp), h, if_neg (by simp)]

def wordSpec (s : Nat) (zs : List Nat) : Nat × Nat × Nat := if zs.length < s then (0, 0, 4) else (s, leval (zs.take s), 0)

theorem lword_ok (H : AHeap) {p : Nat} {ys : List Nat} {a e s : Nat} (hs : s ≤ 4) (hp : H[p]? = some (lensB ys a e)) (ha : a ≤ ys.length) (hb : ∀ b ∈ ys, b < 256) (hlen : ys.length ≤ 1000000) (Q : AVal → AHeap → Prop)
    (h : Q (.int .u32 ((lensR 0 ys a e (wordSpec s)).1 : Nat)) (H.set p (lensB ys (lensR 0 ys a e (wordSpec s)).2.1 (lensR 0 ys a e (wordSpec s)).2.2))) : FunOK Try.prog F.lens_Lens_word [.ptr p 0, .int .i64 (s : Nat)] H Q := by
  refine fun_mut lens_Lens_word_code p fun _ => ?_
  refine fun_V 60 lens_Lens_word_code rfl ?_
  have hpl : p < H.length := (List.getElem?_eq_some_iff.1 hp).1
  simp (disch := first | omega | (simp only [List.length_append, List.length_cons, List.length_nil, List.length_set, List.length_map, List.length_take, List.length_drop]; omega)) only [stdh, goK_s2b, dgoK_s2b, isEff_s2b, isPure_s2b, goK_b2s, dgoK_b2s, isEff_b2s, isPure_b2s, evalOp_s2b, s2bR, goK_mark, dgoK_mark, isEff_mark, isPure_mark, evalOp_mark, markA_slc, markB, ↓reduceIte, Nat.reduceEqDiff, Int.reduceToNat, Int.reducePow, Nat.reduceAdd, Nat.reduceLeDiff, Nat.reduceMul, Nat.reduceBEq, reduceCtorEq, lens_Lens_word, lens_Lens_word.body]
  have hk : ∀ n, n < H.length → (H ++ [ABlk.cells [.int .i64 (s : Nat)] T.int, ABlk.cells [.int .u32 0] T.uint32])[n]? = H[n]? := fun n hn => at_low hn
  have g1 : (H ++ [ABlk.cells [.int .i64 (s : Nat)] T.int, ABlk.cells [.int .u32 0] T.uint32])[H.length]? = some (ABlk.cells [.int .i64 (s : Nat)] T.int) := at_0
  have g2 : (H ++ [ABlk.cells [.int .i64 (s : Nat)] T.int, ABlk.cells [.int .u32 0] T.uint32])[H.length + 1]? = some (ABlk.cells [.int .u32 0] T.uint32) := at_k
  have hl2 : (H ++ [ABlk.cells [.int .i64 (s : Nat)] T.int, ABlk.cells [.int .u32 0] T.uint32]).length = H.length + 2 := by simp
  generalize H ++ [ABlk.cells [.int .i64 (s : Nat)] T.int, ABlk.cells [.int .u32 0] T.uint32] = H2 at *
  have hp2 : H2[p]? = some (lensB ys a e) := (hk p hpl).trans hp
  have hbd : ∀ b ∈ ys.drop a, b < 256 := fun b hb' => hb b (List.mem_of_mem_drop hb')
  refine callK_fn (read_ok _ hp2 ha hlen _ ?_ ?_)
  · intro he
    have hsp : lensR 0 ys a e (wordSpec s) = (0, a, e) := lensR_err he
    rw [hsp] at h
    refine runL_V 60 ?_
    simp (disch := first | omega | (simp only [List.length_append, List.length_cons, List.length_nil, List.length_set, List.length_map, List.length_take, List.length_drop]; omega)) only [stdh, goK_s2b, dgoK_s2b, isEff_s2b, isPure_s2b, goK_b2s, dgoK_b2s, isEff_b2s, isPure_b2s, evalOp_s2b, s2bR, goK_mark, dgoK_mark, isEff_mark, isPure_mark, evalOp_mark, markA_slc, markB, ↓reduceIte, Nat.reduceEqDiff, Int.reduceToNat, Int.reducePow, Nat.reduceAdd, Nat.reduceLeDiff, Nat.reduceMul, Nat.reduceBEq, reduceCtorEq, g2]
    exact mut_mk (by omega) (fun n h1 h2 => hk n h1) hp2 (lensB_closed _ _ _) trivial h
  · intro he
    subst he
    refine word1_ok _ hbd (by rw [List.length_drop]; omega) hs g1 g2 _ ?_ ?_
    · intro hz
      have hsp : lensR 0 ys a 0 (wordSpec s) = (0, a, 4) := lensR_bad (k := 0) (v := 0) (by unfold wordSpec; rw [if_pos hz]) (by decide)
      rw [hsp] at h
      refine ⟨0, 4, rfl, rfl, by omega, fun _ => ?_, fun hh => absurd hh (by omega)⟩
      refine runL_V 60 ?_
      have g2' : (H2.set p (lensB ys a 4))[H.length + 1]? = some (ABlk.cells [.int .u32 0] T.uint32) := by rw [List.getElem?_set_ne (by omega)]; exact g2
      simp (disch := first | omega | (simp only [List.length_append, List.length_cons, List.length_nil, List.length_set, List.length_map, List.length_take, List.length_drop]; omega)) only [stdh, goK_s2b, dgoK_s2b, isEff_s2b, isPure_s2b, goK_b2s, dgoK_b2s, isEff_b2s, isPure_b2s, evalOp_s2b, s2bR, goK_mark, dgoK_mark, isEff_mark, isPure_mark, evalOp_mark, markA_slc, markB, ↓reduceIte, Nat.reduceEqDiff, Int.reduceToNat, Int.reducePow, Nat.reduceAdd, Nat.reduceLeDiff, Nat.reduceMul, Nat.reduceBEq, reduceCtorEq, g2']
      exact mut_mk (by simp; omega) (fun n h1 h2 => by rw [List.getElem?_set_ne (fun e => h2 e.symm)]; exact hk n h1) (List.getElem?_set_self (by omega)) (lensB_closed _ _ _) trivial h
    · intro hz H' hl' hk' g2'
      have hsp : lensR 0 ys a 0 (wordSpec s) = (leval ((ys.drop a).take s), a + s, 0) := lensR_ok (by unfold wordSpec; rw [if_neg (by omega)])
      rw [hsp] at h
      refine ⟨s, 0, rfl, hk' p (by omega) (by omega), by omega, fun hh => absurd rfl hh, fun _ => ?_⟩
      refine runL_V 60 ?_
      have g2'' : (H'.set p (lensB ys (a + s) 0))[H.length + 1]? = some (.cells [.int .u32 (leval ((ys.drop a).take s) : Nat)] T.uint32) := by rw [List.getElem?_set_ne (by omega)]; exact g2'
      simp (disch := first | omega | (simp only [List.length_append, List.length_cons, List.length_nil, List.length_set, List.length_map, List.length_take, List.length_drop]; omega)) only [stdh, goK_s2b, dgoK_s2b, isEff_s2b, isPure_s2b, goK_b2s, dgoK_b2s, isEff_b2s, isPure_b2s, evalOp_s2b, s2bR, goK_mark, dgoK_mark, isEff_mark, isPure_mark, evalOp_mark, markA_slc, markB, ↓reduceIte, Nat.reduceEqDiff, Int.reduceToNat, Int.reducePow, Nat.reduceAdd, Nat.reduceLeDiff, Nat.reduceMul, Nat.reduceBEq, reduceCtorEq, g2'']
      exact mut_mk (by simp; omega) (fun n h1 h2 => by rw [List.getElem?_set_ne (fun e => h2 e.symm), hk' n (by omega) (by omega)]; exact hk n h1) (List.getElem?_set_self (by omega)) (lensB_closed _ _ _) trivial h
end Go.Proofs.Ytebhlclfiiffbaa

namespace Go.Proofs.Ytebhlclfiiffbaa
open Go Go.Am
set_option linter.unusedSimpArgs false
set_option linter.unusedVariables false

def zig (s : Int) : Nat := if s < 0 then (-(s + 1) * 2 + 1).toNat else (2 * s).toNat
def zag (n : Nat) : Int := if n % 2 = 1 then -((n / 2 : Nat) : Int) - 1 else ((n / 2 : Nat) : Int)

theorem wrap_neg {s : Int} (h0 : -9223372036854775808 ≤ s) (h1 : s < 0) : IntKind.u64.wrap s = s + 18446744073709551616 := by rw [wrap_u64']; omega

theorem zig_ok (H : AHeap) (s : Int) (h0 : -9223372036854775808 ≤ s) (h1 : s < 9223372036854775808) (Q : AVal → AHeap → Prop) (h : Q (.int .u64 (zig s)) H) : FunOK Try.prog F.varint_Zig [.int .i64 s] H Q := by
  refine fun_V 100 varint_Zig_code rfl ?_
  by_cases hs : s < 0
  · have e1 : s / 9223372036854775808 = -1 := by omega
    have e2 : IntKind.u64.wrap ((s + 18446744073709551616) * 2) = 2 * s + 18446744073709551616 := by rw [wrap_u64']; omega
    have e3 : IntKind.u64.wrap (-1) = 18446744073709551615 := by rw [wrap_u64']; omega
    have e4 := xor_ones_u64 (x := 2 * s + 18446744073709551616) (by omega)
    have e5 : (18446744073709551615 : Int) - (2 * s + 18446744073709551616) = (zig s : Int) := by unfold zig; rw [if_pos hs]; omega
    simp (disch := omega) only [std, goK_s2b, dgoK_s2b, isEff_s2b, isPure_s2b, goK_b2s, dgoK_b2s, isEff_b2s, isPure_b2s, evalOp_s2b, s2bR, goK_mark, dgoK_mark, isEff_mark, isPure_mark, evalOp_mark, markA_slc, markB, ↓reduceIte, Nat.reduceEqDiff, Int.reduceToNat, Int.reducePow, Nat.reduceAdd, Nat.reduceLeDiff, Nat.reduceMul, Nat.reduceBEq, reduceCtorEq, varint_Zig, varint_Zig.body, wrap_neg h0 hs, fdiv_pow, e1, Int.reduceMul, e2, e3, e4, e5]
    exact h
  · have e1 : s / 9223372036854775808 = 0 := by omega
    have e2 : IntKind.u64.wrap (s * 2) = 2 * s := by rw [wrap_u64']; omega
    have e5 : 2 * s = (zig s : Int) := by unfold zig; rw [if_neg hs]; omega
    have e4 := (xor_zero_u64 (x := 2 * s) (by omega)).trans e5
    simp (disch := omega) only [std, goK_s2b, dgoK_s2b, isEff_s2b, isPure_s2b, goK_b2s, dgoK_b2s, isEff_b2s, isPure_b2s, evalOp_s2b, s2bR, goK_mark, dgoK_mark, isEff_mark, isPure_mark, evalOp_mark, markA_slc, markB, ↓reduceIte, Nat.reduceEqDiff, Int.reduceToNat, Int.reducePow, Nat.reduceAdd, Nat.reduceLeDiff, Nat.reduceMul, Nat.reduceBEq, reduceCtorEq, varint_Zig, varint_Zig.body, e1, e2, e4]
    exact h

theorem zag_ok (H : AHeap) (n : Nat) (h1 : n < 18446744073709551616) (Q : AVal → AHeap → Prop) (h : Q (.int .i64 (zag n)) H) : FunOK Try.prog F.varint_Zag [.int .u64 n] H Q := by
  refine fun_V 100 varint_Zag_code rfl ?_
  have e0 : (n : Int) / 2 = ((n / 2 : Nat) : Int) := by omega
  have ea : Am.bits .and .u64 (n : Int) 1 = ((n % 2 : Nat) : Int) := by
    have := bits_and (k := .u64) rfl (a := n) (b := 1) (by simp [IntKind.bits]; omega) (by simp [IntKind.bits])
    rw [Nat.and_one_is_mod] at this
    exact this
  by_cases hn : n % 2 = 1
  · have e1 := (xor_ones_i64 (x := ((n / 2 : Nat) : Int)) (by omega)).trans (show -((n / 2 : Nat) : Int) - 1 = zag n by unfold zag; rw [if_pos hn])
    have e2 : (0 : Int) - ((n % 2 : Nat) : Int) = -1 := by omega
    simp (disch := omega) only [std, goK_s2b, dgoK_s2b, isEff_s2b, isPure_s2b, goK_b2s, dgoK_b2s, isEff_b2s, isPure_b2s, evalOp_s2b, s2bR, goK_mark, dgoK_mark, isEff_mark, isPure_mark, evalOp_mark, markA_slc, markB, ↓reduceIte, Nat.reduceEqDiff, Int.reduceToNat, Int.reducePow, Nat.reduceAdd, Nat.reduceLeDiff, Nat.reduceMul, Nat.reduceBEq, reduceCtorEq, varint_Zag, varint_Zag.body, e0, ea, e2, e1]
    exact h
  · have e1 := (xor_zero_i64 (x := ((n / 2 : Nat) : Int)) (by omega)).trans (show ((n / 2 : Nat) : Int) = zag n by unfold zag; rw [if_neg hn])
    have e2 : (0 : Int) - ((n % 2 : Nat) : Int) = 0 := by omega
    simp (disch := omega) only [std, goK_s2b, dgoK_s2b, isEff_s2b, isPure_s2b, goK_b2s, dgoK_b2s, isEff_b2s, isPure_b2s, evalOp_s2b, s2bR, goK_mark, dgoK_mark, isEff_mark, isPure_mark, evalOp_mark, markA_slc, markB, ↓reduceIte, Nat.reduceEqDiff, Int.reduceToNat, Int.reducePow, Nat.reduceAdd, Nat.reduceLeDiff, Nat.reduceMul, Nat.reduceBEq, reduceCtorEq, varint_Zag, varint_Zag.body, e0, ea, e2, e1]
    exact h

theorem rzag_ok (H : AHeap) (n : Nat) (h1 : n < 18446744073709551616) (Q : AVal → AHeap → Prop) (h : Q (.int .i64 (zag n)) H) : FunOK Try.prog F.cuneiformref01_Zag [.int .u64 n] H Q := by
  refine fun_V 100 cuneiformref01_Zag_code rfl ?_
  have e0 : (n : Int).tdiv 2 = ((n / 2 : Nat) : Int) := by rw [Int.tdiv_eq_ediv_of_nonneg (by omega)]; omega
  have e3 : (n : Int).tmod 2 = ((n % 2 : Nat) : Int) := by rw [Int.tmod_eq_emod_of_nonneg (by omega)]; omega
  by_cases hn : n % 2 = 1
  · have e1 : (0 : Int) - ((n / 2 : Nat) : Int) - 1 = zag n := by unfold zag; rw [if_pos hn]; omega
    have hc : ((n % 2 : Nat) : Int) = 1 := by omega
    simp (disch := omega) only [std, goK_s2b, dgoK_s2b, isEff_s2b, isPure_s2b, goK_b2s, dgoK_b2s, isEff_b2s, isPure_b2s, evalOp_s2b, s2bR, goK_mark, dgoK_mark, isEff_mark, isPure_mark, evalOp_mark, markA_slc, markB, ↓reduceIte, Nat.reduceEqDiff, Int.reduceToNat, Int.reducePow, Nat.reduceAdd, Nat.reduceLeDiff, Nat.reduceMul, Nat.reduceBEq, reduceCtorEq, cuneiformref01_Zag, cuneiformref01_Zag.body, e0, e3, hc, e1, ne_eq, not_false_eq_true]
    exact h
  · have e1 : ((n / 2 : Nat) : Int) = zag n := by unfold zag; rw [if_neg hn]
    have hc : ((n % 2 : Nat) : Int) ≠ 1 := by omega
    simp (disch := omega) only [std, goK_s2b, dgoK_s2b, isEff_s2b, isPure_s2b, goK_b2s, dgoK_b2s, isEff_b2s, isPure_b2s, evalOp_s2b, s2bR, goK_mark, dgoK_mark, isEff_mark, isPure_mark, evalOp_mark, markA_slc, markB, ↓reduceIte, Nat.reduceEqDiff, Int.reduceToNat, Int.reducePow, Nat.reduceAdd, Nat.reduceLeDiff, Nat.reduceMul, Nat.reduceBEq, reduceCtorEq, cuneiformref01_Zag, cuneiformref01_Zag.body, e0, e3, hc, e1, ne_eq, not_false_eq_true]
    exact h

theorem zag_zig (s : Int) : zag (zig s) = s := by
  unfold zag zig
  split <;> split <;> omega
theorem zig_zag (n : Nat) : zig (zag n) = n := by
  unfold zag zig
  split <;> split <;> omega
theorem zig_lt {s : Int} (h0 : -9223372036854775808 ≤ s) (h1 : s < 9223372036854775808) : zig s < 18446744073709551616 := by unfold zig; split <;> omega
theorem zag_range {n : Nat} (h : n < 18446744073709551616) : -9223372036854775808 ≤ zag n ∧ zag n < 9223372036854775808 := by unfold zag; split <;> omega

end Go.Proofs.Ytebhlclfiiffbaa

namespace Go.Proofs.Ytebhlclfiiffbaa
open Go Go.Am
set_option linter.unusedSimpArgs false
set_option linter.unusedVariables false

theorem lensR_bad2 {α : Type} {d : α} {ys : List Nat} {a x : Nat} {sp : List Nat → Nat × α × Nat} (h : (sp (ys.drop a)).2.2 = x) (hx : x ≠ 0) : lensR d ys a 0 sp = (d, a, x) := by unfold lensR; rw [if_neg (by simp), h, if_pos hx]

theorem getFrom_zero : ∀ (f i n : Nat) (bs : List Nat), (getFrom f i n bs).2.2 ≠ 0 → (getFrom f i n bs).1 = 0 ∧ (getFrom f i n bs).2.1 = 0
  | 0, i, n, bs, h => ⟨rfl, rfl⟩
  | f + 1, i, n, [], h => ⟨rfl, rfl⟩
  | f + 1, i, n, b :: rest, h => by
    rw [getFrom] at h ⊢
    by_cases h1 : 128 ≤ b
    · rw [if_pos h1] at h ⊢
      exact getFrom_zero f _ _ rest h
    · rw [if_neg h1] at h ⊢
      by_cases h2 : (0 < i ∧ b % 128 = 0) ∨ b % 128 % 2 ^ (64 - 7 * i) ≠ b % 128
      · rw [if_pos h2]; exact ⟨rfl, rfl⟩
      · rw [if_neg h2] at h; exact absurd rfl h
theorem getSpec_zero {bs : List Nat} (h : (getSpec bs).2.2 ≠ 0) : (getSpec bs).1 = 0 ∧ (getSpec bs).2.1 = 0 := getFrom_zero 10 0 0 bs h

def numSpec (most : Nat) (zs : List Nat) : Nat × Nat × Nat :=
  if (getSpec zs).2.2 ≠ 0 then (0, 0, (getSpec zs).2.2) else if most < (getSpec zs).1 then (0, 0, 5) else ((getSpec zs).2.1, (getSpec zs).1, 0)

theorem num1_ok (H : AHeap) {t : Bool} {zs : List Nat} (hb : ∀ b ∈ zs, b < 256) (hlen : zs.length ≤ 1000000) {q1 q2 most : Nat} (hm : most < 18446744073709551616) (h1 : H[q1]? = some (.cells [.int .u64 (most : Nat)] T.uint64)) (h2 : H[q2]? = some (.cells [.int .u64 0] T.uint64)) (Q : AVal → AHeap → Prop)
    (he : ∀ k : Nat, k ≤ 1000000 → (numSpec most zs).2.2 ≠ 0 → Q (.tup [.int .i64 (k : Nat), .int .i64 ((numSpec most zs).2.2 : Nat)]) H)
    (hq : (numSpec most zs).2.2 = 0 → Q (.tup [.int .i64 ((numSpec most zs).1 : Nat), .int .i64 0]) (H.set q2 (.cells [.int .u64 ((numSpec most zs).2.1 : Nat)] T.uint64))) :
    FunOK Try.prog F.lens_Lens_Number_1 [nums .u8 t zs, .ptr q1 0, .ptr q2 0] H Q := by
  refine fun_V 100 lens_Lens_Number_1_code rfl ?_
  have hl2 := (List.getElem?_eq_some_iff.1 h2).1
  simp (disch := first | omega | (simp only [List.length_append, List.length_cons, List.length_nil, List.length_set, List.length_map, List.length_take, List.length_drop]; omega)) only [stdh, goK_s2b, dgoK_s2b, isEff_s2b, isPure_s2b, goK_b2s, dgoK_b2s, isEff_b2s, isPure_b2s, evalOp_s2b, s2bR, goK_mark, dgoK_mark, isEff_mark, isPure_mark, evalOp_mark, markA_slc, markB, ↓reduceIte, Nat.reduceEqDiff, Int.reduceToNat, Int.reducePow, Nat.reduceAdd, Nat.reduceLeDiff, Nat.reduceMul, Nat.reduceBEq, reduceCtorEq, lens_Lens_Number_1, lens_Lens_Number_1.body]
  refine callK_fn (get_ok _ (nums_nats _ _ _ _) hb (by omega) _ ?_)
  refine runL_V 100 ?_
  unfold numSpec at he hq
  have hf := getSpec_facts (bs := zs)
  have hz := getSpec_zero (bs := zs)
  generalize getSpec zs = G at hf hz he hq ⊢
  obtain ⟨num, k, e⟩ := G
  dsimp only at hf hz he hq
  by_cases c0 : e = 0
  · subst c0
    obtain ⟨f1, f2, f3⟩ := hf rfl
    rw [if_neg (by simp)] at he hq
    by_cases c1 : most < num
    · rw [if_pos c1] at he hq
      have := he k (by omega) (by simp)
      simp (disch := first | omega | (simp only [List.length_append, List.length_cons, List.length_nil, List.length_set, List.length_map, List.length_take, List.length_drop]; omega)) only [stdh, goK_s2b, dgoK_s2b, isEff_s2b, isPure_s2b, goK_b2s, dgoK_b2s, isEff_b2s, isPure_b2s, evalOp_s2b, s2bR, goK_mark, dgoK_mark, isEff_mark, isPure_mark, evalOp_mark, markA_slc, markB, ↓reduceIte, Nat.reduceEqDiff, Int.reduceToNat, Int.reducePow, Nat.reduceAdd, Nat.reduceLeDiff, Nat.reduceMul, Nat.reduceBEq, reduceCtorEq, got, h1, h2]
      exact this
    · rw [if_neg c1] at he hq
      have := hq rfl
      simp (disch := first | omega | (simp only [List.length_append, List.length_cons, List.length_nil, List.length_set, List.length_map, List.length_take, List.length_drop]; omega)) only [stdh, goK_s2b, dgoK_s2b, isEff_s2b, isPure_s2b, goK_b2s, dgoK_b2s, isEff_b2s, isPure_b2s, evalOp_s2b, s2bR, goK_mark, dgoK_mark, isEff_mark, isPure_mark, evalOp_mark, markA_slc, markB, ↓reduceIte, Nat.reduceEqDiff, Int.reduceToNat, Int.reducePow, Nat.reduceAdd, Nat.reduceLeDiff, Nat.reduceMul, Nat.reduceBEq, reduceCtorEq, got, h1, h2]
      exact this
  · obtain ⟨rfl, rfl⟩ := hz c0
    rw [if_pos c0] at he
    have := he 0 (by omega) c0
    simp (disch := first | omega | (simp only [List.length_append, List.length_cons, List.length_nil, List.length_set, List.length_map, List.length_take, List.length_drop]; omega)) only [stdh, goK_s2b, dgoK_s2b, isEff_s2b, isPure_s2b, goK_b2s, dgoK_b2s, isEff_b2s, isPure_b2s, evalOp_s2b, s2bR, goK_mark, dgoK_mark, isEff_mark, isPure_mark, evalOp_mark, markA_slc, markB, ↓reduceIte, Nat.reduceEqDiff, Int.reduceToNat, Int.reducePow, Nat.reduceAdd, Nat.reduceLeDiff, Nat.reduceMul, Nat.reduceBEq, reduceCtorEq, got]
    exact this

theorem numSpec_le {most : Nat} {zs : List Nat} : (numSpec most zs).1 ≤ zs.length := by
  unfold numSpec
  have hf := getSpec_facts (bs := zs)
  by_cases h0 : (getSpec zs).2.2 = 0
  · obtain ⟨f1, f2, f3⟩ := hf h0
    rw [if_neg (by omega)]
    split
    · simp
    · exact f2
  · rw [if_pos h0]; simp

theorem lnum_ok (H : AHeap) {p : Nat} {ys : List Nat} {a e most : Nat} (hm : most < 18446744073709551616) (hp : H[p]? = some (lensB ys a e)) (ha : a ≤ ys.length) (hb : ∀ b ∈ ys, b < 256) (hlen : ys.length ≤ 1000000) (Q : AVal → AHeap → Prop)
    (h : Q (.int .u64 ((lensR 0 ys a e (numSpec most)).1 : Nat)) (H.set p (lensB ys (lensR 0 ys a e (numSpec most)).2.1 (lensR 0 ys a e (numSpec most)).2.2))) : FunOK Try.prog F.lens_Lens_Number [.ptr p 0, .int .u64 (most : Nat)] H Q := by
  refine fun_mut lens_Lens_Number_code p fun _ => ?_
  refine fun_V 60 lens_Lens_Number_code rfl ?_
  have hpl : p < H.length := (List.getElem?_eq_some_iff.1 hp).1
  simp (disch := first | omega | (simp only [List.length_append, List.length_cons, List.length_nil, List.length_set, List.length_map, List.length_take, List.length_drop]; omega)) only [stdh, goK_s2b, dgoK_s2b, isEff_s2b, isPure_s2b, goK_b2s, dgoK_b2s, isEff_b2s, isPure_b2s, evalOp_s2b, s2bR, goK_mark, dgoK_mark, isEff_mark, isPure_mark, evalOp_mark, markA_slc, markB, ↓reduceIte, Nat.reduceEqDiff, Int.reduceToNat, Int.reducePow, Nat.reduceAdd, Nat.reduceLeDiff, Nat.reduceMul, Nat.reduceBEq, reduceCtorEq, lens_Lens_Number, lens_Lens_Number.body]
  have hk : ∀ n, n < H.length → (H ++ [ABlk.cells [.int .u64 (most : Nat)] T.uint64, ABlk.cells [.int .u64 0] T.uint64])[n]? = H[n]? := fun n hn => at_low hn
  have g1 : (H ++ [ABlk.cells [.int .u64 (most : Nat)] T.uint64, ABlk.cells [.int .u64 0] T.uint64])[H.length]? = some (ABlk.cells [.int .u64 (most : Nat)] T.uint64) := at_0
  have g2 : (H ++ [ABlk.cells [.int .u64 (most : Nat)] T.uint64, ABlk.cells [.int .u64 0] T.uint64])[H.length + 1]? = some (ABlk.cells [.int .u64 0] T.uint64) := at_k
  have hl2 : (H ++ [ABlk.cells [.int .u64 (most : Nat)] T.uint64, ABlk.cells [.int .u64 0] T.uint64]).length = H.length + 2 := by simp
  generalize H ++ [ABlk.cells [.int .u64 (most : Nat)] T.uint64, ABlk.cells [.int .u64 0] T.uint64] = H2 at *
  have hp2 : H2[p]? = some (lensB ys a e) := (hk p hpl).trans hp
  have hbd : ∀ b ∈ ys.drop a, b < 256 := fun b hb' => hb b (List.mem_of_mem_drop hb')
  refine callK_fn (read_ok _ hp2 ha hlen _ ?_ ?_)
  · intro he
    rw [lensR_err he] at h
    refine runL_V 60 ?_
    simp (disch := first | omega | (simp only [List.length_append, List.length_cons, List.length_nil, List.length_set, List.length_map, List.length_take, List.length_drop]; omega)) only [stdh, goK_s2b, dgoK_s2b, isEff_s2b, isPure_s2b, goK_b2s, dgoK_b2s, isEff_b2s, isPure_b2s, evalOp_s2b, s2bR, goK_mark, dgoK_mark, isEff_mark, isPure_mark, evalOp_mark, markA_slc, markB, ↓reduceIte, Nat.reduceEqDiff, Int.reduceToNat, Int.reducePow, Nat.reduceAdd, Nat.reduceLeDiff, Nat.reduceMul, Nat.reduceBEq, reduceCtorEq, g2]
    exact mut_mk (by omega) (fun n h1 h2 => hk n h1) hp2 (lensB_closed _ _ _) trivial h
  · intro he
    subst he
    refine num1_ok _ hbd (by rw [List.length_drop]; omega) hm g1 g2 _ ?_ ?_
    · intro k hkk hz
      rw [lensR_bad2 rfl hz] at h
      refine ⟨k, _, rfl, rfl, hkk, fun _ => ?_, fun hh => absurd hh hz⟩
      refine runL_V 60 ?_
      have g2' : (H2.set p (lensB ys a (numSpec most (ys.drop a)).2.2))[H.length + 1]? = some (ABlk.cells [.int .u64 0] T.uint64) := by rw [List.getElem?_set_ne (by omega)]; exact g2
      simp (disch := first | omega | (simp only [List.length_append, List.length_cons, List.length_nil, List.length_set, List.length_map, List.length_take, List.length_drop]; omega)) only [stdh, goK_s2b, dgoK_s2b, isEff_s2b, isPure_s2b, goK_b2s, dgoK_b2s, isEff_b2s, isPure_b2s, evalOp_s2b, s2bR, goK_mark, dgoK_mark, isEff_mark, isPure_mark, evalOp_mark, markA_slc, markB, ↓reduceIte, Nat.reduceEqDiff, Int.reduceToNat, Int.reducePow, Nat.reduceAdd, Nat.reduceLeDiff, Nat.reduceMul, Nat.reduceBEq, reduceCtorEq, g2']
      exact mut_mk (by simp; omega) (fun n h1 h2 => by rw [List.getElem?_set_ne (fun e => h2 e.symm)]; exact hk n h1) (List.getElem?_set_self (by omega)) (lensB_closed _ _ _) trivial h
    · intro hz
      have hle := numSpec_le (most := most) (zs := ys.drop a)
      rw [List.length_drop] at hle
      rw [lensR_ok (sp := numSpec most) (k := (numSpec most (ys.drop a)).1) (v := (numSpec most (ys.drop a)).2.1) (by rw [← hz])] at h
      generalize (numSpec most (ys.drop a)).2.1 = v at *
      generalize (numSpec most (ys.drop a)).1 = k at *
      refine ⟨k, 0, rfl, by rw [List.getElem?_set_ne (by omega)], by omega, fun hh => absurd rfl hh, fun _ => ?_⟩
      refine runL_V 60 ?_
      have g2'' : ((H2.set (H.length + 1) (.cells [.int .u64 (v : Nat)] T.uint64)).set p (lensB ys (a + k) 0))[H.length + 1]? = some (.cells [.int .u64 (v : Nat)] T.uint64) := by rw [List.getElem?_set_ne (by omega), List.getElem?_set_self (by omega)]
      simp (disch := first | omega | (simp only [List.length_append, List.length_cons, List.length_nil, List.length_set, List.length_map, List.length_take, List.length_drop]; omega)) only [stdh, goK_s2b, dgoK_s2b, isEff_s2b, isPure_s2b, goK_b2s, dgoK_b2s, isEff_b2s, isPure_b2s, evalOp_s2b, s2bR, goK_mark, dgoK_mark, isEff_mark, isPure_mark, evalOp_mark, markA_slc, markB, ↓reduceIte, Nat.reduceEqDiff, Int.reduceToNat, Int.reducePow, Nat.reduceAdd, Nat.reduceLeDiff, Nat.reduceMul, Nat.reduceBEq, reduceCtorEq, g2'']
      exact mut_mk (by simp; omega) (fun n h1 h2 => by rw [List.getElem?_set_ne (fun e => h2 e.symm), List.getElem?_set_ne (by omega)]; exact hk n h1) (List.getElem?_set_self (by simp; omega)) (lensB_closed _ _ _) trivial h

/-! ### Signed ones -/

def sgnSpec (least high : Int) (zs : List Nat) : Nat × Int × Nat :=
  if (getSpec zs).2.2 ≠ 0 then (0, 0, (getSpec zs).2.2) else if zag (getSpec zs).1 < least ∨ high < zag (getSpec zs).1 then (0, 0, 5) else ((getSpec zs).2.1, zag (getSpec zs).1, 0)

theorem sgnSpec_le {least high : Int} {zs : List Nat} : (sgnSpec least high zs).1 ≤ zs.length := by
  unfold sgnSpec
  have hf := getSpec_facts (bs := zs)
  by_cases h0 : (getSpec zs).2.2 = 0
  · obtain ⟨f1, f2, f3⟩ := hf h0
    rw [if_neg (by omega)]
    split
    · simp
    · exact f2
  · rw [if_pos h0]; simp

theorem sgn1_ok (H : AHeap) {t : Bool} {zs : List Nat} (hb : ∀ b ∈ zs, b < 256) (hlen : zs.length ≤ 1000000) {q0 q1 q2 : Nat} {least high : Int} (h0 : H[q0]? = some (.cells [.int .i64 least] T.int64)) (h1 : H[q1]? = some (.cells [.int .i64 high] T.int64)) (h2 : H[q2]? = some (.cells [.int .i64 0] T.int64)) (Q : AVal → AHeap → Prop)
    (he : ∀ k : Nat, k ≤ 1000000 → (sgnSpec least high zs).2.2 ≠ 0 → Q (.tup [.int .i64 (k : Nat), .int .i64 ((sgnSpec least high zs).2.2 : Nat)]) H)
    (hq : (sgnSpec least high zs).2.2 = 0 → Q (.tup [.int .i64 ((sgnSpec least high zs).1 : Nat), .int .i64 0]) (H.set q2 (.cells [.int .i64 (sgnSpec least high zs).2.1] T.int64))) :
    FunOK Try.prog F.lens_Lens_Signed_1 [nums .u8 t zs, .ptr q0 0, .ptr q1 0, .ptr q2 0] H Q := by
  refine fun_V 100 lens_Lens_Signed_1_code rfl ?_
  have hl2 := (List.getElem?_eq_some_iff.1 h2).1
  simp (disch := first | omega | (simp only [List.length_append, List.length_cons, List.length_nil, List.length_set, List.length_map, List.length_take, List.length_drop]; omega)) only [stdh, goK_s2b, dgoK_s2b, isEff_s2b, isPure_s2b, goK_b2s, dgoK_b2s, isEff_b2s, isPure_b2s, evalOp_s2b, s2bR, goK_mark, dgoK_mark, isEff_mark, isPure_mark, evalOp_mark, markA_slc, markB, ↓reduceIte, Nat.reduceEqDiff, Int.reduceToNat, Int.reducePow, Nat.reduceAdd, Nat.reduceLeDiff, Nat.reduceMul, Nat.reduceBEq, reduceCtorEq, lens_Lens_Signed_1, lens_Lens_Signed_1.body]
  refine callK_fn (get_ok _ (nums_nats _ _ _ _) hb (by omega) _ ?_)
  refine runL_V 100 ?_
  unfold sgnSpec at he hq
  have hf := getSpec_facts (bs := zs)
  have hz := getSpec_zero (bs := zs)
  generalize getSpec zs = G at hf hz he hq ⊢
  obtain ⟨num, k, e⟩ := G
  dsimp only at hf hz he hq
  have hn : num < 18446744073709551616 := by
    by_cases c0 : e = 0
    · exact (hf c0).2.2
    · rw [(hz c0).1]; omega
  simp (disch := first | omega | (simp only [List.length_append, List.length_cons, List.length_nil, List.length_set, List.length_map, List.length_take, List.length_drop]; omega)) only [stdh, goK_s2b, dgoK_s2b, isEff_s2b, isPure_s2b, goK_b2s, dgoK_b2s, isEff_b2s, isPure_b2s, evalOp_s2b, s2bR, goK_mark, dgoK_mark, isEff_mark, isPure_mark, evalOp_mark, markA_slc, markB, ↓reduceIte, Nat.reduceEqDiff, Int.reduceToNat, Int.reducePow, Nat.reduceAdd, Nat.reduceLeDiff, Nat.reduceMul, Nat.reduceBEq, reduceCtorEq, got]
  refine callK_fn (zag_ok _ _ hn _ ?_)
  refine runL_V 100 ?_
  by_cases c0 : e = 0
  · subst c0
    obtain ⟨f1, f2, f3⟩ := hf rfl
    rw [if_neg (by simp)] at he hq
    generalize zag num = s at *
    by_cases c1 : s < least
    · rw [if_pos (.inl c1)] at he hq
      have := he k (by omega) (by simp)
      simp (disch := first | omega | (simp only [List.length_append, List.length_cons, List.length_nil, List.length_set, List.length_map, List.length_take, List.length_drop]; omega)) only [stdh, goK_s2b, dgoK_s2b, isEff_s2b, isPure_s2b, goK_b2s, dgoK_b2s, isEff_b2s, isPure_b2s, evalOp_s2b, s2bR, goK_mark, dgoK_mark, isEff_mark, isPure_mark, evalOp_mark, markA_slc, markB, ↓reduceIte, Nat.reduceEqDiff, Int.reduceToNat, Int.reducePow, Nat.reduceAdd, Nat.reduceLeDiff, Nat.reduceMul, Nat.reduceBEq, reduceCtorEq, h0, h1, h2]
      exact this
    · by_cases c2 : high < s
      · rw [if_pos (.inr c2)] at he hq
        have := he k (by omega) (by simp)
        simp (disch := first | omega | (simp only [List.length_append, List.length_cons, List.length_nil, List.length_set, List.length_map, List.length_take, List.length_drop]; omega)) only [stdh, goK_s2b, dgoK_s2b, isEff_s2b, isPure_s2b, goK_b2s, dgoK_b2s, isEff_b2s, isPure_b2s, evalOp_s2b, s2bR, goK_mark, dgoK_mark, isEff_mark, isPure_mark, evalOp_mark, markA_slc, markB, ↓reduceIte, Nat.reduceEqDiff, Int.reduceToNat, Int.reducePow, Nat.reduceAdd, Nat.reduceLeDiff, Nat.reduceMul, Nat.reduceBEq, reduceCtorEq, h0, h1, h2]
        exact this
      · rw [if_neg (by omega)] at he hq
        have := hq rfl
        simp (disch := first | omega | (simp only [List.length_append, List.length_cons, List.length_nil, List.length_set, List.length_map, List.length_take, List.length_drop]; omega)) only [stdh, goK_s2b, dgoK_s2b, isEff_s2b, isPure_s2b, goK_b2s, dgoK_b2s, isEff_b2s, isPure_b2s, evalOp_s2b, s2bR, goK_mark, dgoK_mark, isEff_mark, isPure_mark, evalOp_mark, markA_slc, markB, ↓reduceIte, Nat.reduceEqDiff, Int.reduceToNat, Int.reducePow, Nat.reduceAdd, Nat.reduceLeDiff, Nat.reduceMul, Nat.reduceBEq, reduceCtorEq, h0, h1, h2]
        exact this
  · obtain ⟨rfl, rfl⟩ := hz c0
    rw [if_pos c0] at he
    have := he 0 (by omega) c0
    simp (disch := first | omega | (simp only [List.length_append, List.length_cons, List.length_nil, List.length_set, List.length_map, List.length_take, List.length_drop]; omega)) only [stdh, goK_s2b, dgoK_s2b, isEff_s2b, isPure_s2b, goK_b2s, dgoK_b2s, isEff_b2s, isPure_b2s, evalOp_s2b, s2bR, goK_mark, dgoK_mark, isEff_mark, isPure_mark, evalOp_mark, markA_slc, markB, ↓reduceIte, Nat.reduceEqDiff, Int.reduceToNat, Int.reducePow, Nat.reduceAdd, Nat.reduceLeDiff, Nat.reduceMul, Nat.reduceBEq, reduceCtorEq]
    exact this

theorem lsgn_ok (H : AHeap) {p : Nat} {ys : List Nat} {a e : Nat} {least high : Int} (hp : H[p]? = some (lensB ys a e)) (ha : a ≤ ys.length) (hb : ∀ b ∈ ys, b < 256) (hlen : ys.length ≤ 1000000) (Q : AVal → AHeap → Prop)
    (h : Q (.int .i64 (lensR 0 ys a e (sgnSpec least high)).1) (H.set p (lensB ys (lensR 0 ys a e (sgnSpec least high)).2.1 (lensR 0 ys a e (sgnSpec least high)).2.2))) : FunOK Try.prog F.lens_Lens_Signed [.ptr p 0, .int .i64 least, .int .i64 high] H Q := by
  refine fun_mut lens_Lens_Signed_code p fun _ => ?_
  refine fun_V 60 lens_Lens_Signed_code rfl ?_
  have hpl : p < H.length := (List.getElem?_eq_some_iff.1 hp).1
  simp (disch := first | omega | (simp only [List.length_append, List.length_cons, List.length_nil, List.length_set, List.length_map, List.length_take, List.length_drop]; omega)) only [stdh, goK_s2b, dgoK_s2b, isEff_s2b, isPure_s2b, goK_b2s, dgoK_b2s, isEff_b2s, isPure_b2s, evalOp_s2b, s2bR, goK_mark, dgoK_mark, isEff_mark, isPure_mark, evalOp_mark, markA_slc, markB, ↓reduceIte, Nat.reduceEqDiff, Int.reduceToNat, Int.reducePow, Nat.reduceAdd, Nat.reduceLeDiff, Nat.reduceMul, Nat.reduceBEq, reduceCtorEq, lens_Lens_Signed, lens_Lens_Signed.body]
  have hk : ∀ n, n < H.length → (H ++ [ABlk.cells [.int .i64 least] T.int64, .cells [.int .i64 high] T.int64, ABlk.cells [.int .i64 0] T.int64])[n]? = H[n]? := fun n hn => at_low hn
  have g0 : (H ++ [ABlk.cells [.int .i64 least] T.int64, .cells [.int .i64 high] T.int64, ABlk.cells [.int .i64 0] T.int64])[H.length]? = some (ABlk.cells [.int .i64 least] T.int64) := at_0
  have g1 : (H ++ [ABlk.cells [.int .i64 least] T.int64, .cells [.int .i64 high] T.int64, ABlk.cells [.int .i64 0] T.int64])[H.length + 1]? = some (ABlk.cells [.int .i64 high] T.int64) := at_k
  have g2 : (H ++ [ABlk.cells [.int .i64 least] T.int64, .cells [.int .i64 high] T.int64, ABlk.cells [.int .i64 0] T.int64])[H.length + 2]? = some (ABlk.cells [.int .i64 0] T.int64) := at_k
  have hl2 : (H ++ [ABlk.cells [.int .i64 least] T.int64, .cells [.int .i64 high] T.int64, ABlk.cells [.int .i64 0] T.int64]).length = H.length + 3 := by simp
  generalize H ++ [ABlk.cells [.int .i64 least] T.int64, .cells [.int .i64 high] T.int64, ABlk.cells [.int .i64 0] T.int64] = H2 at *
  have hp2 : H2[p]? = some (lensB ys a e) := (hk p hpl).trans hp
  have hbd : ∀ b ∈ ys.drop a, b < 256 := fun b hb' => hb b (List.mem_of_mem_drop hb')
  refine callK_fn (read_ok _ hp2 ha hlen _ ?_ ?_)
  · intro he
    rw [lensR_err he] at h
    refine runL_V 60 ?_
    simp (disch := first | omega | (simp only [List.length_append, List.length_cons, List.length_nil, List.length_set, List.length_map, List.length_take, List.length_drop]; omega)) only [stdh, goK_s2b, dgoK_s2b, isEff_s2b, isPure_s2b, goK_b2s, dgoK_b2s, isEff_b2s, isPure_b2s, evalOp_s2b, s2bR, goK_mark, dgoK_mark, isEff_mark, isPure_mark, evalOp_mark, markA_slc, markB, ↓reduceIte, Nat.reduceEqDiff, Int.reduceToNat, Int.reducePow, Nat.reduceAdd, Nat.reduceLeDiff, Nat.reduceMul, Nat.reduceBEq, reduceCtorEq, g2]
    exact mut_mk (by omega) (fun n h1 h2 => hk n h1) hp2 (lensB_closed _ _ _) trivial h
  · intro he
    subst he
    refine sgn1_ok _ hbd (by rw [List.length_drop]; omega) g0 g1 g2 _ ?_ ?_
    · intro k hkk hz
      rw [lensR_bad2 rfl hz] at h
      refine ⟨k, _, rfl, rfl, hkk, fun _ => ?_, fun hh => absurd hh hz⟩
      refine runL_V 60 ?_
      have g2' : (H2.set p (lensB ys a (sgnSpec least high (ys.drop a)).2.2))[H.length + 2]? = some (ABlk.cells [.int .i64 0] T.int64) := by rw [List.getElem?_set_ne (by omega)]; exact g2
      simp (disch := first | omega | (simp only [List.length_append, List.length_cons, List.length_nil, List.length_set, List.length_map, List.length_take, List.length_drop]; omega)) only [stdh, goK_s2b, dgoK_s2b, isEff_s2b, isPure_s2b, goK_b2s, dgoK_b2s, isEff_b2s, isPure_b2s, evalOp_s2b, s2bR, goK_mark, dgoK_mark, isEff_mark, isPure_mark, evalOp_mark, markA_slc, markB, ↓reduceIte, Nat.reduceEqDiff, Int.reduceToNat, Int.reducePow, Nat.reduceAdd, Nat.reduceLeDiff, Nat.reduceMul, Nat.reduceBEq, reduceCtorEq, g2']
      exact mut_mk (by simp; omega) (fun n h1 h2 => by rw [List.getElem?_set_ne (fun e => h2 e.symm)]; exact hk n h1) (List.getElem?_set_self (by omega)) (lensB_closed _ _ _) trivial h
    · intro hz
      have hle := sgnSpec_le (least := least) (high := high) (zs := ys.drop a)
      rw [List.length_drop] at hle
      rw [lensR_ok (sp := sgnSpec least high) (k := (sgnSpec least high (ys.drop a)).1) (v := (sgnSpec least high (ys.drop a)).2.1) (by rw [← hz])] at h
      generalize (sgnSpec least high (ys.drop a)).2.1 = v at *
      generalize (sgnSpec least high (ys.drop a)).1 = k at *
      refine ⟨k, 0, rfl, by rw [List.getElem?_set_ne (by omega)], by omega, fun hh => absurd rfl hh, fun _ => ?_⟩
      refine runL_V 60 ?_
      have g2'' : ((H2.set (H.length + 2) (.cells [.int .i64 v] T.int64)).set p (lensB ys (a + k) 0))[H.length + 2]? = some (.cells [.int .i64 v] T.int64) := by rw [List.getElem?_set_ne (by omega), List.getElem?_set_self (by omega)]
      simp (disch := first | omega | (simp only [List.length_append, List.length_cons, List.length_nil, List.length_set, List.length_map, List.length_take, List.length_drop]; omega)) only [stdh, goK_s2b, dgoK_s2b, isEff_s2b, isPure_s2b, goK_b2s, dgoK_b2s, isEff_b2s, isPure_b2s, evalOp_s2b, s2bR, goK_mark, dgoK_mark, isEff_mark, isPure_mark, evalOp_mark, markA_slc, markB, ↓reduceIte, Nat.reduceEqDiff, Int.reduceToNat, Int.reducePow, Nat.reduceAdd, Nat.reduceLeDiff, Nat.reduceMul, Nat.reduceBEq, reduceCtorEq, g2'']
      exact mut_mk (by simp; omega) (fun n h1 h2 => by rw [List.getElem?_set_ne (fun e => h2 e.symm), List.getElem?_set_ne (by omega)]; exact hk n h1) (List.getElem?_set_self (by simp; omega)) (lensB_closed _ _ _) trivial h
end Go.Proofs.Ytebhlclfiiffbaa

namespace Go.Proofs.Ytebhlclfiiffbaa
open Go Go.Am
set_option linter.unusedSimpArgs false
set_option linter.unusedVariables false

def rawSpec (n : Int) (zs : List Nat) : Nat × List Nat × Nat :=
  if n < 0 then (0, [], 5) else if zs.length < n.toNat then (0, [], 4) else (n.toNat, zs.take n.toNat, 0)

theorem raw1_ok (H : AHeap) {t : Bool} {zs : List Nat} (hlen : zs.length ≤ 1000000) {q1 q2 : Nat} {n : Int} (hn : -9223372036854775808 ≤ n ∧ n < 9223372036854775808) (h1 : H[q1]? = some (.cells [.int .i64 n] T.int)) (h2 : H[q2]? = some (.cells [.nils] T.sl_uint8)) (Q : AVal → AHeap → Prop)
    (he : (rawSpec n zs).2.2 ≠ 0 → Q (.tup [.int .i64 0, .int .i64 ((rawSpec n zs).2.2 : Nat)]) H)
    (hq : (rawSpec n zs).2.2 = 0 → Q (.tup [.int .i64 ((rawSpec n zs).1 : Nat), .int .i64 0]) ((H ++ [ABlk.vec (u8s (rawSpec n zs).2.1) T.uint8 1]).set q2 (.cells [.slc H.length 0 (rawSpec n zs).2.1.length 1] T.sl_uint8))) :
    FunOK Try.prog F.lens_Lens_Raw_1 [nums .u8 t zs, .ptr q1 0, .ptr q2 0] H Q := by
  refine fun_V 100 lens_Lens_Raw_1_code rfl ?_
  have hql := (List.getElem?_eq_some_iff.1 h2).1
  have hql1 := (List.getElem?_eq_some_iff.1 h1).1
  have hne : q1 ≠ q2 := by rintro rfl; rw [h1] at h2; cases h2
  unfold rawSpec at he hq
  by_cases c0 : n < 0
  · rw [if_pos c0] at he hq
    have := he (by simp)
    simp (disch := first | omega | (simp only [List.length_append, List.length_cons, List.length_nil, List.length_set, List.length_map, List.length_take, List.length_drop]; omega)) only [stdh, goK_s2b, dgoK_s2b, isEff_s2b, isPure_s2b, goK_b2s, dgoK_b2s, isEff_b2s, isPure_b2s, evalOp_s2b, s2bR, goK_mark, dgoK_mark, isEff_mark, isPure_mark, evalOp_mark, markA_slc, markB, ↓reduceIte, Nat.reduceEqDiff, Int.reduceToNat, Int.reducePow, Nat.reduceAdd, Nat.reduceLeDiff, Nat.reduceMul, Nat.reduceBEq, reduceCtorEq, lens_Lens_Raw_1, lens_Lens_Raw_1.body, h1]
    exact this
  · rw [if_neg c0] at he hq
    obtain ⟨m, rfl⟩ := Int.eq_ofNat_of_zero_le (show 0 ≤ n by omega)
    rw [Int.toNat_natCast] at he hq
    by_cases c1 : zs.length < m
    · rw [if_pos c1] at he hq
      have := he (by simp)
      simp (disch := first | omega | (simp only [List.length_append, List.length_cons, List.length_nil, List.length_set, List.length_map, List.length_take, List.length_drop]; omega)) only [stdh, goK_s2b, dgoK_s2b, isEff_s2b, isPure_s2b, goK_b2s, dgoK_b2s, isEff_b2s, isPure_b2s, evalOp_s2b, s2bR, goK_mark, dgoK_mark, isEff_mark, isPure_mark, evalOp_mark, markA_slc, markB, ↓reduceIte, Nat.reduceEqDiff, Int.reduceToNat, Int.reducePow, Nat.reduceAdd, Nat.reduceLeDiff, Nat.reduceMul, Nat.reduceBEq, reduceCtorEq, lens_Lens_Raw_1, lens_Lens_Raw_1.body, h1]
      exact this
    · rw [if_neg c1] at he hq
      have := hq rfl
      have hol : (zs.take m).length = m := by rw [List.length_take]; omega
      obtain ⟨p, a1, hp⟩ := Own.append3 (H := H) (w := 1) (el := T.uint8) (B := 0) Own.nil (x := nums .u8 true (zs.take m)) (k := m) (ys := u8s (zs.take m)) 1 (by rw [srcLen_nums, hol]) rfl (by simp only [u8s_len, hol]; omega) (by omega) (by omega) (by omega) (u8s_cellish _)
      simp only [killA, List.nil_append, Nat.zero_add] at a1
      rw [hol] at this
      have h1' : ((H ++ [ABlk.vec (u8s (zs.take m)) T.uint8 1]).set q2 (.cells [.slc H.length 0 m 1] T.sl_uint8))[q1]? = some (.cells [.int .i64 (m : Nat)] T.int) := by
        rw [List.getElem?_set_ne (by omega), at_low hql1]; exact h1
      simp (disch := first | omega | (simp only [List.length_append, List.length_cons, List.length_nil, List.length_set, List.length_map, List.length_take, List.length_drop]; omega)) only [stdh, goK_s2b, dgoK_s2b, isEff_s2b, isPure_s2b, goK_b2s, dgoK_b2s, isEff_b2s, isPure_b2s, evalOp_s2b, s2bR, goK_mark, dgoK_mark, isEff_mark, isPure_mark, evalOp_mark, markA_slc, markB, ↓reduceIte, Nat.reduceEqDiff, Int.reduceToNat, Int.reducePow, Nat.reduceAdd, Nat.reduceLeDiff, Nat.reduceMul, Nat.reduceBEq, reduceCtorEq, lens_Lens_Raw_1, lens_Lens_Raw_1.body, h1, h2, lens_Lens_Raw_1.d0, a1, hp, at_low, h1']

theorem rawSpec_le {n : Int} {zs : List Nat} : (rawSpec n zs).1 ≤ zs.length ∧ (rawSpec n zs).2.1.length ≤ zs.length := by
  unfold rawSpec
  split
  · simp
  · split
    · simp
    · simp only [List.length_take]; omega

theorem lraw_ok (H : AHeap) {p : Nat} {ys : List Nat} {a e : Nat} {n : Int} (hn : -9223372036854775808 ≤ n ∧ n < 9223372036854775808) (hp : H[p]? = some (lensB ys a e)) (ha : a ≤ ys.length) (hlen : ys.length ≤ 1000000) (Q : AVal → AHeap → Prop)
    (h : Q (nums .u8 false (lensR [] ys a e (rawSpec n)).1) (H.set p (lensB ys (lensR [] ys a e (rawSpec n)).2.1 (lensR [] ys a e (rawSpec n)).2.2))) : FunOK Try.prog F.lens_Lens_Raw [.ptr p 0, .int .i64 n] H Q := by
  refine fun_mutice lens_Lens_Raw_code p fun _ => ?_
  refine fun_V 60 lens_Lens_Raw_code rfl ?_
  have hpl : p < H.length := (List.getElem?_eq_some_iff.1 hp).1
  simp (disch := first | omega | (simp only [List.length_append, List.length_cons, List.length_nil, List.length_set, List.length_map, List.length_take, List.length_drop]; omega)) only [stdh, goK_s2b, dgoK_s2b, isEff_s2b, isPure_s2b, goK_b2s, dgoK_b2s, isEff_b2s, isPure_b2s, evalOp_s2b, s2bR, goK_mark, dgoK_mark, isEff_mark, isPure_mark, evalOp_mark, markA_slc, markB, ↓reduceIte, Nat.reduceEqDiff, Int.reduceToNat, Int.reducePow, Nat.reduceAdd, Nat.reduceLeDiff, Nat.reduceMul, Nat.reduceBEq, reduceCtorEq, lens_Lens_Raw, lens_Lens_Raw.body]
  have hk : ∀ m, m < H.length → (H ++ [ABlk.cells [.int .i64 n] T.int, ABlk.cells [.nils] T.sl_uint8])[m]? = H[m]? := fun n hn => at_low hn
  have g1 : (H ++ [ABlk.cells [.int .i64 n] T.int, ABlk.cells [.nils] T.sl_uint8])[H.length]? = some (ABlk.cells [.int .i64 n] T.int) := at_0
  have g2 : (H ++ [ABlk.cells [.int .i64 n] T.int, ABlk.cells [.nils] T.sl_uint8])[H.length + 1]? = some (ABlk.cells [.nils] T.sl_uint8) := at_k
  have hl2 : (H ++ [ABlk.cells [.int .i64 n] T.int, ABlk.cells [.nils] T.sl_uint8]).length = H.length + 2 := by simp
  generalize H ++ [ABlk.cells [.int .i64 n] T.int, ABlk.cells [.nils] T.sl_uint8] = H2 at *
  have hp2 : H2[p]? = some (lensB ys a e) := (hk p hpl).trans hp
  refine callK_fn (read_ok _ hp2 ha hlen _ ?_ ?_)
  · intro he
    rw [lensR_err he] at h
    refine runL_V 60 ?_
    simp (disch := first | omega | (simp only [List.length_append, List.length_cons, List.length_nil, List.length_set, List.length_map, List.length_take, List.length_drop]; omega)) only [stdh, goK_s2b, dgoK_s2b, isEff_s2b, isPure_s2b, goK_b2s, dgoK_b2s, isEff_b2s, isPure_b2s, evalOp_s2b, s2bR, goK_mark, dgoK_mark, isEff_mark, isPure_mark, evalOp_mark, markA_slc, markB, ↓reduceIte, Nat.reduceEqDiff, Int.reduceToNat, Int.reducePow, Nat.reduceAdd, Nat.reduceLeDiff, Nat.reduceMul, Nat.reduceBEq, reduceCtorEq, g2]
    exact mutice_own (w := 1) (el := T.uint8) (by omega) (fun n h1 h2 => hk n h1) hp2 (lensB_closed _ _ _) Own.nil trivial h
  · intro he
    subst he
    refine raw1_ok _ (by rw [List.length_drop]; omega) hn g1 g2 _ ?_ ?_
    · intro hs
      rw [lensR_bad2 rfl hs] at h
      refine ⟨0, _, rfl, rfl, by omega, fun _ => ?_, fun hh => absurd hh hs⟩
      refine runL_V 60 ?_
      have g2' : (H2.set p (lensB ys a (rawSpec n (ys.drop a)).2.2))[H.length + 1]? = some (ABlk.cells [.nils] T.sl_uint8) := by rw [List.getElem?_set_ne (by omega)]; exact g2
      simp (disch := first | omega | (simp only [List.length_append, List.length_cons, List.length_nil, List.length_set, List.length_map, List.length_take, List.length_drop]; omega)) only [stdh, goK_s2b, dgoK_s2b, isEff_s2b, isPure_s2b, goK_b2s, dgoK_b2s, isEff_b2s, isPure_b2s, evalOp_s2b, s2bR, goK_mark, dgoK_mark, isEff_mark, isPure_mark, evalOp_mark, markA_slc, markB, ↓reduceIte, Nat.reduceEqDiff, Int.reduceToNat, Int.reducePow, Nat.reduceAdd, Nat.reduceLeDiff, Nat.reduceMul, Nat.reduceBEq, reduceCtorEq, g2']
      exact mutice_own (w := 1) (el := T.uint8) (by simp; omega) (fun n h1 h2 => by rw [List.getElem?_set_ne (fun e => h2 e.symm)]; exact hk n h1) (by rw [List.getElem?_set_self (by omega)]) (lensB_closed _ _ _) Own.nil trivial h
    · intro hs
      have hle := rawSpec_le (n := n) (zs := ys.drop a)
      rw [List.length_drop] at hle
      rw [lensR_ok (sp := rawSpec n) (k := (rawSpec n (ys.drop a)).1) (v := (rawSpec n (ys.drop a)).2.1) (by rw [← hs])] at h
      refine ⟨(rawSpec n (ys.drop a)).1, 0, rfl, ?_, by omega, fun hh => absurd rfl hh, fun _ => ?_⟩
      · rw [List.getElem?_set_ne (by omega), at_low (by omega)]
      · generalize (rawSpec n (ys.drop a)).2.1 = out at *
        refine runL_V 60 ?_
        have g3 : (((H2 ++ [ABlk.vec (u8s out) T.uint8 1]).set (H.length + 1) (ABlk.cells [.slc H2.length 0 out.length 1] T.sl_uint8)).set p (lensB ys (a + (rawSpec n (ys.drop a)).1) 0))[H.length + 1]? = some (ABlk.cells [.slc H2.length 0 out.length 1] T.sl_uint8) := by
          rw [List.getElem?_set_ne (by omega), List.getElem?_set_self (by simp; omega)]
        simp (disch := first | omega | (simp only [List.length_append, List.length_cons, List.length_nil, List.length_set, List.length_map, List.length_take, List.length_drop]; omega)) only [stdh, goK_s2b, dgoK_s2b, isEff_s2b, isPure_s2b, goK_b2s, dgoK_b2s, isEff_b2s, isPure_b2s, evalOp_s2b, s2bR, goK_mark, dgoK_mark, isEff_mark, isPure_mark, evalOp_mark, markA_slc, markB, ↓reduceIte, Nat.reduceEqDiff, Int.reduceToNat, Int.reducePow, Nat.reduceAdd, Nat.reduceLeDiff, Nat.reduceMul, Nat.reduceBEq, reduceCtorEq, g3]
        refine mutice_own (w := 1) (el := T.uint8) (by simp; omega) (fun n h1 h2 => ?_) (by rw [List.getElem?_set_self (by simp; omega)]) (lensB_closed _ _ _) (n := out.length) (cs := u8s out) ⟨by simp [u8s], .inr ⟨H2.length, by omega, rfl, ?_⟩⟩ (closeds_ints _ _) h
        · rw [List.getElem?_set_ne (fun e => h2 e.symm), List.getElem?_set_ne (by omega), at_low (by omega)]; exact hk n h1
        · rw [List.getElem?_set_ne (by omega), List.getElem?_set_ne (by omega), at_0]; rfl

theorem lrest_ok (H : AHeap) {p : Nat} {ys : List Nat} {a e : Nat} (hp : H[p]? = some (lensB ys a e)) (ha : a ≤ ys.length) (hlen : ys.length ≤ 1000000) (Q : AVal → AHeap → Prop)
    (h : Q (nums .u8 false (lensR [] ys a e (rawSpec (ys.length - a : Nat))).1) (H.set p (lensB ys (lensR [] ys a e (rawSpec (ys.length - a : Nat))).2.1 (lensR [] ys a e (rawSpec (ys.length - a : Nat))).2.2))) : FunOK Try.prog F.lens_Lens_Rest [.ptr p 0] H Q := by
  refine fun_V 60 lens_Lens_Rest_code rfl ?_
  simp (disch := first | omega | (simp only [List.length_append, List.length_cons, List.length_nil, List.length_set, List.length_map, List.length_take, List.length_drop]; omega)) only [stdh, goK_s2b, dgoK_s2b, isEff_s2b, isPure_s2b, goK_b2s, dgoK_b2s, isEff_b2s, isPure_b2s, evalOp_s2b, s2bR, goK_mark, dgoK_mark, isEff_mark, isPure_mark, evalOp_mark, markA_slc, markB, ↓reduceIte, Nat.reduceEqDiff, Int.reduceToNat, Int.reducePow, Nat.reduceAdd, Nat.reduceLeDiff, Nat.reduceMul, Nat.reduceBEq, reduceCtorEq, lens_Lens_Rest, lens_Lens_Rest.body]
  refine callK_fn (leftn_ok _ hp ha hlen _ ?_)
  refine runL_V 60 ?_
  simp (disch := first | omega | (simp only [List.length_append, List.length_cons, List.length_nil, List.length_set, List.length_map, List.length_take, List.length_drop]; omega)) only [stdh, goK_s2b, dgoK_s2b, isEff_s2b, isPure_s2b, goK_b2s, dgoK_b2s, isEff_b2s, isPure_b2s, evalOp_s2b, s2bR, goK_mark, dgoK_mark, isEff_mark, isPure_mark, evalOp_mark, markA_slc, markB, ↓reduceIte, Nat.reduceEqDiff, Int.reduceToNat, Int.reducePow, Nat.reduceAdd, Nat.reduceLeDiff, Nat.reduceMul, Nat.reduceBEq, reduceCtorEq]
  refine callK_fn (lraw_ok _ (by omega) hp ha hlen _ ?_)
  refine runL_V 60 ?_
  simp (disch := first | omega | (simp only [List.length_append, List.length_cons, List.length_nil, List.length_set, List.length_map, List.length_take, List.length_drop]; omega)) only [stdh, goK_s2b, dgoK_s2b, isEff_s2b, isPure_s2b, goK_b2s, dgoK_b2s, isEff_b2s, isPure_b2s, evalOp_s2b, s2bR, goK_mark, dgoK_mark, isEff_mark, isPure_mark, evalOp_mark, markA_slc, markB, ↓reduceIte, Nat.reduceEqDiff, Int.reduceToNat, Int.reducePow, Nat.reduceAdd, Nat.reduceLeDiff, Nat.reduceMul, Nat.reduceBEq, reduceCtorEq]
  exact h

theorem lfield_ok (H : AHeap) {p : Nat} {ys : List Nat} {a e : Nat} {most : Int} (hmost : -9223372036854775808 ≤ most ∧ most < 9223372036854775808) (hp : H[p]? = some (lensB ys a e)) (ha : a ≤ ys.length) (hb : ∀ b ∈ ys, b < 256) (hlen : ys.length ≤ 1000000) (Q : AVal → AHeap → Prop)
    (h : Q (nums .u8 false (lensR [] ys a e (fieldSpec most)).1) (H.set p (lensB ys (lensR [] ys a e (fieldSpec most)).2.1 (lensR [] ys a e (fieldSpec most)).2.2))) : FunOK Try.prog F.lens_Lens_Field [.ptr p 0, .int .i64 most] H Q := field_ok H hmost hp ha hb hlen Q h

theorem lensWord_lt {ys : List Nat} {a e s : Nat} (hs : s ≤ 4) (hb : ∀ b ∈ ys, b < 256) : (lensR 0 ys a e (wordSpec s)).1 < 256 ^ s := by
  unfold lensR wordSpec
  have hp : 0 < 256 ^ s := Nat.pow_pos (by omega)
  split
  · exact hp
  · split
    · exact hp
    · split
      · exact hp
      · have h1 := leval_lt ((ys.drop a).take s) fun b hb' => hb b (List.mem_of_mem_drop (List.mem_of_mem_take hb'))
        have : ((ys.drop a).take s).length = s := by rw [List.length_take]; omega
        rw [this] at h1
        exact h1

theorem lu8_ok (H : AHeap) {p : Nat} {ys : List Nat} {a e : Nat} (hp : H[p]? = some (lensB ys a e)) (ha : a ≤ ys.length) (hb : ∀ b ∈ ys, b < 256) (hlen : ys.length ≤ 1000000) (Q : AVal → AHeap → Prop)
    (h : Q (.int .u8 ((lensR 0 ys a e (wordSpec 1)).1 : Nat)) (H.set p (lensB ys (lensR 0 ys a e (wordSpec 1)).2.1 (lensR 0 ys a e (wordSpec 1)).2.2))) : FunOK Try.prog F.lens_Lens_U8 [.ptr p 0] H Q := by
  refine fun_V 60 lens_Lens_U8_code rfl ?_
  simp (disch := first | omega | (simp only [List.length_append, List.length_cons, List.length_nil, List.length_set, List.length_map, List.length_take, List.length_drop]; omega)) only [stdh, goK_s2b, dgoK_s2b, isEff_s2b, isPure_s2b, goK_b2s, dgoK_b2s, isEff_b2s, isPure_b2s, evalOp_s2b, s2bR, goK_mark, dgoK_mark, isEff_mark, isPure_mark, evalOp_mark, markA_slc, markB, ↓reduceIte, Nat.reduceEqDiff, Int.reduceToNat, Int.reducePow, Nat.reduceAdd, Nat.reduceLeDiff, Nat.reduceMul, Nat.reduceBEq, reduceCtorEq, lens_Lens_U8, lens_Lens_U8.body]
  refine callK_fn (lword_ok (s := 1) _ (by omega) hp ha hb hlen _ ?_)
  have hlt := lensWord_lt (ys := ys) (a := a) (e := e) (s := 1) (by omega) hb
  have e1 : IntKind.u8.wrap ((lensR 0 ys a e (wordSpec 1)).1 : Nat) = ((lensR 0 ys a e (wordSpec 1)).1 : Nat) := wrap_u8 (by omega)
  refine runL_V 60 ?_
  simp (disch := first | omega | (simp only [List.length_append, List.length_cons, List.length_nil, List.length_set, List.length_map, List.length_take, List.length_drop]; omega)) only [stdh, goK_s2b, dgoK_s2b, isEff_s2b, isPure_s2b, goK_b2s, dgoK_b2s, isEff_b2s, isPure_b2s, evalOp_s2b, s2bR, goK_mark, dgoK_mark, isEff_mark, isPure_mark, evalOp_mark, markA_slc, markB, ↓reduceIte, Nat.reduceEqDiff, Int.reduceToNat, Int.reducePow, Nat.reduceAdd, Nat.reduceLeDiff, Nat.reduceMul, Nat.reduceBEq, reduceCtorEq, e1]
  exact h

theorem lu16_ok (H : AHeap) {p : Nat} {ys : List Nat} {a e : Nat} (hp : H[p]? = some (lensB ys a e)) (ha : a ≤ ys.length) (hb : ∀ b ∈ ys, b < 256) (hlen : ys.length ≤ 1000000) (Q : AVal → AHeap → Prop)
    (h : Q (.int .u16 ((lensR 0 ys a e (wordSpec 2)).1 : Nat)) (H.set p (lensB ys (lensR 0 ys a e (wordSpec 2)).2.1 (lensR 0 ys a e (wordSpec 2)).2.2))) : FunOK Try.prog F.lens_Lens_U16 [.ptr p 0] H Q := by
  refine fun_V 60 lens_Lens_U16_code rfl ?_
  simp (disch := first | omega | (simp only [List.length_append, List.length_cons, List.length_nil, List.length_set, List.length_map, List.length_take, List.length_drop]; omega)) only [stdh, goK_s2b, dgoK_s2b, isEff_s2b, isPure_s2b, goK_b2s, dgoK_b2s, isEff_b2s, isPure_b2s, evalOp_s2b, s2bR, goK_mark, dgoK_mark, isEff_mark, isPure_mark, evalOp_mark, markA_slc, markB, ↓reduceIte, Nat.reduceEqDiff, Int.reduceToNat, Int.reducePow, Nat.reduceAdd, Nat.reduceLeDiff, Nat.reduceMul, Nat.reduceBEq, reduceCtorEq, lens_Lens_U16, lens_Lens_U16.body]
  refine callK_fn (lword_ok (s := 2) _ (by omega) hp ha hb hlen _ ?_)
  have hlt := lensWord_lt (ys := ys) (a := a) (e := e) (s := 2) (by omega) hb
  have e1 : IntKind.u16.wrap ((lensR 0 ys a e (wordSpec 2)).1 : Nat) = ((lensR 0 ys a e (wordSpec 2)).1 : Nat) := wrap_u16 (by omega)
  refine runL_V 60 ?_
  simp (disch := first | omega | (simp only [List.length_append, List.length_cons, List.length_nil, List.length_set, List.length_map, List.length_take, List.length_drop]; omega)) only [stdh, goK_s2b, dgoK_s2b, isEff_s2b, isPure_s2b, goK_b2s, dgoK_b2s, isEff_b2s, isPure_b2s, evalOp_s2b, s2bR, goK_mark, dgoK_mark, isEff_mark, isPure_mark, evalOp_mark, markA_slc, markB, ↓reduceIte, Nat.reduceEqDiff, Int.reduceToNat, Int.reducePow, Nat.reduceAdd, Nat.reduceLeDiff, Nat.reduceMul, Nat.reduceBEq, reduceCtorEq, e1]
  exact h

theorem lu32_ok (H : AHeap) {p : Nat} {ys : List Nat} {a e : Nat} (hp : H[p]? = some (lensB ys a e)) (ha : a ≤ ys.length) (hb : ∀ b ∈ ys, b < 256) (hlen : ys.length ≤ 1000000) (Q : AVal → AHeap → Prop)
    (h : Q (.int .u32 ((lensR 0 ys a e (wordSpec 4)).1 : Nat)) (H.set p (lensB ys (lensR 0 ys a e (wordSpec 4)).2.1 (lensR 0 ys a e (wordSpec 4)).2.2))) : FunOK Try.prog F.lens_Lens_U32 [.ptr p 0] H Q := by
  refine fun_V 60 lens_Lens_U32_code rfl ?_
  simp (disch := first | omega | (simp only [List.length_append, List.length_cons, List.length_nil, List.length_set, List.length_map, List.length_take, List.length_drop]; omega)) only [stdh, goK_s2b, dgoK_s2b, isEff_s2b, isPure_s2b, goK_b2s, dgoK_b2s, isEff_b2s, isPure_b2s, evalOp_s2b, s2bR, goK_mark, dgoK_mark, isEff_mark, isPure_mark, evalOp_mark, markA_slc, markB, ↓reduceIte, Nat.reduceEqDiff, Int.reduceToNat, Int.reducePow, Nat.reduceAdd, Nat.reduceLeDiff, Nat.reduceMul, Nat.reduceBEq, reduceCtorEq, lens_Lens_U32, lens_Lens_U32.body]
  refine callK_fn (lword_ok (s := 4) _ (by omega) hp ha hb hlen _ ?_)
  refine runL_V 60 ?_
  simp (disch := first | omega | (simp only [List.length_append, List.length_cons, List.length_nil, List.length_set, List.length_map, List.length_take, List.length_drop]; omega)) only [stdh, goK_s2b, dgoK_s2b, isEff_s2b, isPure_s2b, goK_b2s, dgoK_b2s, isEff_b2s, isPure_b2s, evalOp_s2b, s2bR, goK_mark, dgoK_mark, isEff_mark, isPure_mark, evalOp_mark, markA_slc, markB, ↓reduceIte, Nat.reduceEqDiff, Int.reduceToNat, Int.reducePow, Nat.reduceAdd, Nat.reduceLeDiff, Nat.reduceMul, Nat.reduceBEq, reduceCtorEq]
  exact h
end Go.Proofs.Ytebhlclfiiffbaa
