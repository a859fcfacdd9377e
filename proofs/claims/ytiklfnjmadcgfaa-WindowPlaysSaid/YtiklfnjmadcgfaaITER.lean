/-
  Lemmas on the way to the statements of this seat. By an AI agent. No person has read it.
-/
import Derived.Test.YtiklfnjmadcgfaaLIB

namespace Go.Proofs.Ytiklfnjmadcgfaa
open Go Go.Am
set_option linter.unusedSimpArgs false
set_option linter.unusedVariables false

abbrev all1C : Ctx := ⟨F.window_Window_all_1, 32, [], none⟩
def allItem (top bts j : Nat) : List AVal := [.int .u32 (addN top (0 - (j : Int)) : Nat), .bool (bts.testBit j)]

theorem bit_at {bts : Nat} (j : Nat) (hb : bts < 18446744073709551616) : decide (Am.bits BinOp.and IntKind.u64 ((bts : Int) / 2 ^ j) 1 = 1) = bts.testBit j := by
  have e0 : (bts : Int) / 2 ^ j = ((bts / 2 ^ j : Nat) : Int) := by simp
  have e1 : Am.bits BinOp.and IntKind.u64 ((bts / 2 ^ j : Nat) : Int) ((1 : Nat) : Int) = ((bts / 2 ^ j &&& 1 : Nat) : Int) := bits_and (k := .u64) rfl (a := bts / 2 ^ j) (b := 1) (Nat.lt_of_le_of_lt (Nat.div_le_self _ _) hb) (by decide)
  rw [e0, show (1 : Int) = ((1 : Nat) : Int) from rfl, e1, Nat.and_one_is_mod, Nat.testBit_eq_decide_div_mod_eq]
  rw [decide_eq_decide]
  omega

theorem all1_loop {top bts p n : Nat} {I : Bool → Nat → List Nat → AHeap → Prop} (hI : Fed Try.prog n (allItem top bts) 64 I) (Q : AVal → AHeap → Prop) {H0 : AHeap} {fp0 : List Nat} (hw : WinAt H0 p top bts) (hp : p ∉ fp0)
    (hQ : ∀ b j fp H, H0.length ≤ H.length → (∀ m, m < H0.length → m ∉ fp0 → H[m]? = H0[m]?) → (b = true → j = 64) → I b j fp H → Q (.tup []) H) :
    ∀ (m j : Nat) (H : AHeap) (fp : List Nat), 64 - j = m → j ≤ 64 → Touches fp0 H0 fp H → I true j fp H →
    Rounds Try.prog all1C window_Window_all_1.b1 [.inBlock 0] [] [(0, .yld n), (1, cell (.ptr p 0)), (4, .int .i64 (j : Nat))] H Q
  | m, j, H, fp, h1, h2, ht, hi => by
    have hp0 : p < H0.length := (List.getElem?_eq_some_iff.1 hw.1).1
    have hc : H[p]? = _ := (ht.kept p hp0 hp).trans hw.1
    refine loop_V 100 window_Window_all_1.b1.eq_1 ?_
    by_cases hj : j < 64
    · simp (disch := first | omega | (simp only [List.length_append, List.length_cons, List.length_nil, List.length_set, List.length_map, List.length_take, List.length_drop]; omega)) only [stdh, goK_s2b, dgoK_s2b, isEff_s2b, isPure_s2b, goK_b2s, dgoK_b2s, isEff_b2s, isPure_b2s, evalOp_s2b, s2bR, goK_mark, dgoK_mark, isEff_mark, isPure_mark, evalOp_mark, markA_slc, markB, ↓reduceIte, Nat.reduceEqDiff, Int.reduceToNat, Int.reducePow, Nat.reduceAdd, Nat.reduceLeDiff, Nat.reduceMul, Nat.reduceBEq, reduceCtorEq, window_Window_all_1.d0, eqA, hc]
      refine callD_fn (sadd_ok _ _ _ _ ?_)
      refine ⟨by simp (disch := first | omega | (simp only [List.length_append, List.length_cons, List.length_nil, List.length_set, List.length_map, List.length_take, List.length_drop]; omega)) only [stdh, goK_s2b, dgoK_s2b, isEff_s2b, isPure_s2b, goK_b2s, dgoK_b2s, isEff_b2s, isPure_b2s, evalOp_s2b, s2bR, goK_mark, dgoK_mark, isEff_mark, isPure_mark, evalOp_mark, markA_slc, markB, ↓reduceIte, Nat.reduceEqDiff, Int.reduceToNat, Int.reducePow, Nat.reduceAdd, Nat.reduceLeDiff, Nat.reduceMul, Nat.reduceBEq, reduceCtorEq, hc], ?_⟩
      refine runD_V 60 ?_
      simp (disch := first | omega | (simp only [List.length_append, List.length_cons, List.length_nil, List.length_set, List.length_map, List.length_take, List.length_drop]; omega)) only [stdh, goK_s2b, dgoK_s2b, isEff_s2b, isPure_s2b, goK_b2s, dgoK_b2s, isEff_b2s, isPure_b2s, evalOp_s2b, s2bR, goK_mark, dgoK_mark, isEff_mark, isPure_mark, evalOp_mark, markA_slc, markB, ↓reduceIte, Nat.reduceEqDiff, Int.reduceToNat, Int.reducePow, Nat.reduceAdd, Nat.reduceLeDiff, Nat.reduceMul, Nat.reduceBEq, reduceCtorEq, hc]
      have hstep := hI.step j fp _ hj hi
      simp only [allItem, ← bit_at j hw.2.2] at hstep
      refine CallV.mono hstep fun av H' hh => ?_
      obtain ⟨fp', ht', hh⟩ := hh
      have ht2 : Touches fp0 H0 fp' H' := ht.trans ht'
      have hc2 : H'[p]? = _ := (ht2.kept p hp0 hp).trans hw.1
      refine ⟨by simp (disch := first | omega | (simp only [List.length_append, List.length_cons, List.length_nil, List.length_set, List.length_map, List.length_take, List.length_drop]; omega)) only [stdh, goK_s2b, dgoK_s2b, isEff_s2b, isPure_s2b, goK_b2s, dgoK_b2s, isEff_b2s, isPure_b2s, evalOp_s2b, s2bR, goK_mark, dgoK_mark, isEff_mark, isPure_mark, evalOp_mark, markA_slc, markB, ↓reduceIte, Nat.reduceEqDiff, Int.reduceToNat, Int.reducePow, Nat.reduceAdd, Nat.reduceLeDiff, Nat.reduceMul, Nat.reduceBEq, reduceCtorEq, hc2], ?_⟩
      refine runD_V 60 ?_
      rcases hh with ⟨rfl, hi'⟩ | ⟨rfl, hi'⟩
      · simp (disch := first | omega | (simp only [List.length_append, List.length_cons, List.length_nil, List.length_set, List.length_map, List.length_take, List.length_drop]; omega)) only [stdh, goK_s2b, dgoK_s2b, isEff_s2b, isPure_s2b, goK_b2s, dgoK_b2s, isEff_b2s, isPure_b2s, evalOp_s2b, s2bR, goK_mark, dgoK_mark, isEff_mark, isPure_mark, evalOp_mark, markA_slc, markB, ↓reduceIte, Nat.reduceEqDiff, Int.reduceToNat, Int.reducePow, Nat.reduceAdd, Nat.reduceLeDiff, Nat.reduceMul, Nat.reduceBEq, reduceCtorEq, hc2]
        rw [show (j : Int) + 1 = ((j + 1 : Nat) : Int) by omega]
        exact all1_loop hI Q hw hp hQ _ (j + 1) H' fp' rfl (by omega) ht2 hi'
      · simp (disch := first | omega | (simp only [List.length_append, List.length_cons, List.length_nil, List.length_set, List.length_map, List.length_take, List.length_drop]; omega)) only [stdh, goK_s2b, dgoK_s2b, isEff_s2b, isPure_s2b, goK_b2s, dgoK_b2s, isEff_b2s, isPure_b2s, evalOp_s2b, s2bR, goK_mark, dgoK_mark, isEff_mark, isPure_mark, evalOp_mark, markA_slc, markB, ↓reduceIte, Nat.reduceEqDiff, Int.reduceToNat, Int.reducePow, Nat.reduceAdd, Nat.reduceLeDiff, Nat.reduceMul, Nat.reduceBEq, reduceCtorEq, hc2]
        exact hQ false _ fp' H' ht2.le ht2.kept (fun hh => by cases hh) hi'
    · have : j = 64 := by omega
      simp (disch := first | omega | (simp only [List.length_append, List.length_cons, List.length_nil, List.length_set, List.length_map, List.length_take, List.length_drop]; omega)) only [stdh, goK_s2b, dgoK_s2b, isEff_s2b, isPure_s2b, goK_b2s, dgoK_b2s, isEff_b2s, isPure_b2s, evalOp_s2b, s2bR, goK_mark, dgoK_mark, isEff_mark, isPure_mark, evalOp_mark, markA_slc, markB, ↓reduceIte, Nat.reduceEqDiff, Int.reduceToNat, Int.reducePow, Nat.reduceAdd, Nat.reduceLeDiff, Nat.reduceMul, Nat.reduceBEq, reduceCtorEq]
      refine run_fin rfl rfl trivial ?_
      exact hQ true j fp H ht.le ht.kept (fun _ => this) hi
  termination_by m => m

theorem all1_iter {H : AHeap} {p top bts n : Nat} (hw : WinAt H p top bts) : Iter Try.prog F.window_Window_all_1 [.yld n, cell (.ptr p 0)] n (allItem top bts) 64 [p] H := by
  intro I hI fp hi hown
  refine fun_V 100 window_Window_all_1_code rfl ?_
  simp (disch := first | omega | (simp only [List.length_append, List.length_cons, List.length_nil, List.length_set, List.length_map, List.length_take, List.length_drop]; omega)) only [stdh, goK_s2b, dgoK_s2b, isEff_s2b, isPure_s2b, goK_b2s, dgoK_b2s, isEff_b2s, isPure_b2s, evalOp_s2b, s2bR, goK_mark, dgoK_mark, isEff_mark, isPure_mark, evalOp_mark, markA_slc, markB, ↓reduceIte, Nat.reduceEqDiff, Int.reduceToNat, Int.reducePow, Nat.reduceAdd, Nat.reduceLeDiff, Nat.reduceMul, Nat.reduceBEq, reduceCtorEq, window_Window_all_1, window_Window_all_1.body]
  refine all1_loop hI _ hw (hown p (by simp)) ?_ _ 0 H fp rfl (by omega) (Touches.refl _ _) hi
  intro b j fp' H' h1 h2 h3 h4
  exact ⟨b, j, fp', h1, h2, h3, h4⟩

theorem all_ok (H : AHeap) {p top bts : Nat} (hw : WinAt H p top bts) (Q : AVal → AHeap → Prop) (h : Q (.fn F.window_Window_all_1 [] [cell (.ptr p 0)]) H) : FunOK Try.prog F.window_Window_all [.ptr p 0] H Q := by
  have hp : p < H.length := (List.getElem?_eq_some_iff.1 hw.1).1
  refine fun_iced window_Window_all_code fun _ => ?_
  refine fun_V 40 window_Window_all_code rfl ?_
  simp (disch := first | omega | (simp only [List.length_append, List.length_cons, List.length_nil, List.length_set, List.length_map, List.length_take, List.length_drop]; omega)) only [stdh, goK_s2b, dgoK_s2b, isEff_s2b, isPure_s2b, goK_b2s, dgoK_b2s, isEff_b2s, isPure_b2s, evalOp_s2b, s2bR, goK_mark, dgoK_mark, isEff_mark, isPure_mark, evalOp_mark, markA_slc, markB, ↓reduceIte, Nat.reduceEqDiff, Int.reduceToNat, Int.reducePow, Nat.reduceAdd, Nat.reduceLeDiff, Nat.reduceMul, Nat.reduceBEq, reduceCtorEq, window_Window_all, window_Window_all.body]
  exact ice_clo1 hp h

theorem come_ok (H : AHeap) {p top bts : Nat} (hw : WinAt H p top bts) (Q : AVal → AHeap → Prop) (h : Q (.fn F.window_Window_Come_1 [] [cell (.ptr p 0)]) H) : FunOK Try.prog F.window_Window_Come [.ptr p 0] H Q := by
  have hp : p < H.length := (List.getElem?_eq_some_iff.1 hw.1).1
  refine fun_iced window_Window_Come_code fun _ => ?_
  refine fun_V 40 window_Window_Come_code rfl ?_
  simp (disch := first | omega | (simp only [List.length_append, List.length_cons, List.length_nil, List.length_set, List.length_map, List.length_take, List.length_drop]; omega)) only [stdh, goK_s2b, dgoK_s2b, isEff_s2b, isPure_s2b, goK_b2s, dgoK_b2s, isEff_b2s, isPure_b2s, evalOp_s2b, s2bR, goK_mark, dgoK_mark, isEff_mark, isPure_mark, evalOp_mark, markA_slc, markB, ↓reduceIte, Nat.reduceEqDiff, Int.reduceToNat, Int.reducePow, Nat.reduceAdd, Nat.reduceLeDiff, Nat.reduceMul, Nat.reduceBEq, reduceCtorEq, window_Window_Come, window_Window_Come.body]
  exact ice_clo1 hp h

theorem copy_ok (H : AHeap) {p top bts : Nat} (hw : WinAt H p top bts) (Q : AVal → AHeap → Prop) (h : Q (.ptr H.length 0) (H ++ [.cells [.int .u32 top, .int .u64 bts] T.window_Window])) : FunOK Try.prog F.window_Window_Copy [.ptr p 0] H Q := by
  refine fun_V 40 window_Window_Copy_code rfl ?_
  simp (disch := first | omega | (simp only [List.length_append, List.length_cons, List.length_nil, List.length_set, List.length_map, List.length_take, List.length_drop]; omega)) only [stdh, goK_s2b, dgoK_s2b, isEff_s2b, isPure_s2b, goK_b2s, dgoK_b2s, isEff_b2s, isPure_b2s, evalOp_s2b, s2bR, goK_mark, dgoK_mark, isEff_mark, isPure_mark, evalOp_mark, markA_slc, markB, ↓reduceIte, Nat.reduceEqDiff, Int.reduceToNat, Int.reducePow, Nat.reduceAdd, Nat.reduceLeDiff, Nat.reduceMul, Nat.reduceBEq, reduceCtorEq, window_Window_Copy, window_Window_Copy.body, eqA, hw.1]
  exact h

/-! ### Turning a list about -/

/-- So many from each end are turned. -/
structure Rev (cs : List AVal) (k : Nat) (ds : List AVal) : Prop where
  len : ds.length = cs.length
  at_ : ∀ i, i < cs.length → ds[i]? = if i < k ∨ cs.length - k ≤ i then cs[cs.length - 1 - i]? else cs[i]?

theorem Rev.zero (cs : List AVal) : Rev cs 0 cs := ⟨rfl, fun i hi => by rw [if_neg (by omega)]⟩
theorem Rev.done {cs ds : List AVal} {k : Nat} (h : Rev cs k ds) (hk : cs.length ≤ 2 * k + 1) : ds = cs.reverse := by
  apply List.ext_getElem?
  intro i
  by_cases hi : i < cs.length
  · rw [List.getElem?_reverse hi, h.at_ i hi]
    by_cases hc : i < k ∨ cs.length - k ≤ i
    · rw [if_pos hc]
    · rw [if_neg hc]; congr 1; omega
  · rw [List.getElem?_eq_none (by rw [h.len]; omega), List.getElem?_eq_none (by simp; omega)]
theorem Rev.step {cs ds : List AVal} {k : Nat} (h : Rev cs k ds) (hk : 2 * k + 1 < cs.length) : Rev cs (k + 1) ((ds.set k (ds.getD (cs.length - 1 - k) .junk)).set (cs.length - 1 - k) (ds.getD k .junk)) := by
  have hl := h.len
  have e1 := h.at_ k (by omega)
  have e2 := h.at_ (cs.length - 1 - k) (by omega)
  rw [if_neg (by omega)] at e1 e2
  have g1 : ds.getD k .junk = cs[k]'(by omega) := by
    rw [List.getD_eq_getElem?_getD, e1, List.getElem?_eq_getElem (by omega)]; rfl
  have g2 : ds.getD (cs.length - 1 - k) .junk = cs[cs.length - 1 - k]'(by omega) := by
    rw [List.getD_eq_getElem?_getD, e2, List.getElem?_eq_getElem (by omega)]; rfl
  refine ⟨by simp [hl], fun i hi => ?_⟩
  rw [g1, g2, List.getElem?_set, List.getElem?_set]
  simp only [List.length_set]
  by_cases h1 : cs.length - 1 - k = i
  · subst h1
    rw [if_pos rfl, if_pos (by omega), if_pos (by omega), ← List.getElem?_eq_getElem]
    congr 1
    omega
  · rw [if_neg h1]
    by_cases h2 : k = i
    · subst h2
      rw [if_pos rfl, if_pos (by omega), if_pos (by omega), ← List.getElem?_eq_getElem]
    · rw [if_neg h2, h.at_ i hi]
      by_cases h3 : i < k ∨ cs.length - k ≤ i
      · rw [if_pos h3, if_pos (by omega)]
      · rw [if_neg h3, if_neg (by omega)]

abbrev revC : Ctx := ⟨F.slices_Reverse_uint32_uint32, 28, [], none⟩

theorem rev_loop {H : AHeap} {m : Nat} {cs : List AVal} (hm : m < H.length) (hlen : cs.length ≤ 9223372036854775807) (Q : AVal → AHeap → Prop) (hQ : Q (.tup []) (H.set m (.vec cs.reverse T.uint32 1))) :
    ∀ (d k : Nat) (ds : List AVal), cs.length - k = d → k ≤ cs.length → Rev cs k ds → (∀ c ∈ ds, c.cells = [c] ∧ c.cellish = true) →
    Rounds Try.prog revC slices_Reverse_uint32_uint32.b1 [.inBlock 0] [] [(0, .slc m 0 cs.length 1), (2, .int .i64 (k : Nat)), (3, .int .i64 ((cs.length : Int) - 1 - k))] (H.set m (.vec ds T.uint32 1)) Q
  | d, k, ds, h1, h2, hr, hd => by
    refine loop_V 100 slices_Reverse_uint32_uint32.b1.eq_1 ?_
    by_cases hk : 2 * k + 1 < cs.length
    · have hlt : (k : Int) < (cs.length : Int) - 1 - k := by omega
      have hj : (cs.length : Int) - 1 - k = ((cs.length - 1 - k : Nat) : Int) := by omega
      have hl := hr.len
      have hat : (H.set m (.vec ds T.uint32 1))[m]? = some (.vec ds T.uint32 1) := List.getElem?_set_self hm
      have hx : ∀ i, i < cs.length → ((ds.getD i .junk).cells = [ds.getD i .junk] ∧ (ds.getD i .junk).cellish = true) := fun i hi => by
        have : ds.getD i .junk ∈ ds := by
          rw [List.getD_eq_getElem?_getD, List.getElem?_eq_getElem (by omega)]; exact List.getElem_mem _
        exact hd _ this
      have l1 := load_vec hat hl (j := k) (by omega)
      have l2 := load_vec hat hl (j := cs.length - 1 - k) (by omega)
      rw [hj]
      rw [hj] at hlt
      have s1 := store_vec (v := ds.getD (cs.length - 1 - k) .junk) hat hl (j := k) (by omega) (hx _ (by omega)).1 (hx _ (by omega)).2
      rw [List.set_set] at s1
      have hat2 : (H.set m (.vec (ds.set k (ds.getD (cs.length - 1 - k) .junk)) T.uint32 1))[m]? = some (.vec (ds.set k (ds.getD (cs.length - 1 - k) .junk)) T.uint32 1) := List.getElem?_set_self hm
      have v1 := view_vec hat hl
      have v2 := view_vec (n := cs.length) hat2 (by rw [List.length_set]; exact hl)
      have s2 := store_vec (n := cs.length) (v := ds.getD k .junk) hat2 (by rw [List.length_set]; exact hl) (j := cs.length - 1 - k) (by omega) (hx k (by omega)).1 (hx k (by omega)).2
      rw [List.set_set] at s2
      simp (disch := first | omega | (simp only [List.length_append, List.length_cons, List.length_nil, List.length_set, List.length_map, List.length_take, List.length_drop]; omega)) only [stdh, goK_s2b, dgoK_s2b, isEff_s2b, isPure_s2b, goK_b2s, dgoK_b2s, isEff_b2s, isPure_b2s, evalOp_s2b, s2bR, goK_mark, dgoK_mark, isEff_mark, isPure_mark, evalOp_mark, markA_slc, markB, ↓reduceIte, Nat.reduceEqDiff, Int.reduceToNat, Int.reducePow, Nat.reduceAdd, Nat.reduceLeDiff, Nat.reduceMul, Nat.reduceBEq, reduceCtorEq, slices_Reverse_uint32_uint32.d0, hlt, l1, l2, s1, s2, v1, v2]
      rw [show ((cs.length - 1 - k : Nat) : Int) - 1 = (cs.length : Int) - 1 - ((k + 1 : Nat) : Int) by omega, show (k : Int) + 1 = ((k + 1 : Nat) : Int) by omega]
      refine rev_loop hm hlen Q hQ _ (k + 1) _ rfl (by omega) (hr.step hk) ?_
      intro c hcm
      rcases List.mem_or_eq_of_mem_set hcm with hcm | rfl
      · rcases List.mem_or_eq_of_mem_set hcm with hcm | rfl
        · exact hd c hcm
        · exact hx _ (by omega)
      · exact hx _ (by omega)
    · have hlt : ¬ (k : Int) < (cs.length : Int) - 1 - k := by omega
      simp (disch := first | omega | (simp only [List.length_append, List.length_cons, List.length_nil, List.length_set, List.length_map, List.length_take, List.length_drop]; omega)) only [stdh, goK_s2b, dgoK_s2b, isEff_s2b, isPure_s2b, goK_b2s, dgoK_b2s, isEff_b2s, isPure_b2s, evalOp_s2b, s2bR, goK_mark, dgoK_mark, isEff_mark, isPure_mark, evalOp_mark, markA_slc, markB, ↓reduceIte, Nat.reduceEqDiff, Int.reduceToNat, Int.reducePow, Nat.reduceAdd, Nat.reduceLeDiff, Nat.reduceMul, Nat.reduceBEq, reduceCtorEq, hlt]
      refine run_fin rfl rfl trivial ?_
      rw [hr.done (by omega)]
      exact hQ
  termination_by d => d

theorem rev_ok (H : AHeap) {B n : Nat} {a : AVal} {cs : List AVal} (ha : Own 1 T.uint32 B H a n cs) (hlen : n ≤ 9223372036854775807) (hc : ∀ c ∈ cs, c.cells = [c] ∧ c.cellish = true) (Q : AVal → AHeap → Prop)
    (h : ∀ H', H'.length = H.length → (∀ m, m < H.length → m ∉ a.names → H'[m]? = H[m]?) → Own 1 T.uint32 B H' a n cs.reverse → Q (.tup []) H') : FunOK Try.prog F.slices_Reverse_uint32_uint32 [a] H Q := by
  refine fun_V 60 slices_Reverse_uint32_uint32_code rfl ?_
  have hl := ha.len
  have hs := ha.slen
  rcases ha.is with ⟨rfl, rfl⟩ | ⟨m, hb, rfl, hm⟩
  · have : cs = [] := List.length_eq_zero_iff.1 (by simpa using hl)
    subst this
    simp (disch := first | omega | (simp only [List.length_append, List.length_cons, List.length_nil, List.length_set, List.length_map, List.length_take, List.length_drop]; omega)) only [stdh, goK_s2b, dgoK_s2b, isEff_s2b, isPure_s2b, goK_b2s, dgoK_b2s, isEff_b2s, isPure_b2s, evalOp_s2b, s2bR, goK_mark, dgoK_mark, isEff_mark, isPure_mark, evalOp_mark, markA_slc, markB, ↓reduceIte, Nat.reduceEqDiff, Int.reduceToNat, Int.reducePow, Nat.reduceAdd, Nat.reduceLeDiff, Nat.reduceMul, Nat.reduceBEq, reduceCtorEq, slices_Reverse_uint32_uint32, slices_Reverse_uint32_uint32.body]
    refine loop_V 100 slices_Reverse_uint32_uint32.b1.eq_1 ?_
    simp (disch := first | omega | (simp only [List.length_append, List.length_cons, List.length_nil, List.length_set, List.length_map, List.length_take, List.length_drop]; omega)) only [stdh, goK_s2b, dgoK_s2b, isEff_s2b, isPure_s2b, goK_b2s, dgoK_b2s, isEff_b2s, isPure_b2s, evalOp_s2b, s2bR, goK_mark, dgoK_mark, isEff_mark, isPure_mark, evalOp_mark, markA_slc, markB, ↓reduceIte, Nat.reduceEqDiff, Int.reduceToNat, Int.reducePow, Nat.reduceAdd, Nat.reduceLeDiff, Nat.reduceMul, Nat.reduceBEq, reduceCtorEq]
    refine run_fin rfl rfl trivial ?_
    exact h H rfl (fun _ _ _ => rfl) ha
  · have hmm := (List.getElem?_eq_some_iff.1 hm).1
    rw [Nat.mul_one] at hl
    subst hl
    simp (disch := first | omega | (simp only [List.length_append, List.length_cons, List.length_nil, List.length_set, List.length_map, List.length_take, List.length_drop]; omega)) only [stdh, goK_s2b, dgoK_s2b, isEff_s2b, isPure_s2b, goK_b2s, dgoK_b2s, isEff_b2s, isPure_b2s, evalOp_s2b, s2bR, goK_mark, dgoK_mark, isEff_mark, isPure_mark, evalOp_mark, markA_slc, markB, ↓reduceIte, Nat.reduceEqDiff, Int.reduceToNat, Int.reducePow, Nat.reduceAdd, Nat.reduceLeDiff, Nat.reduceMul, Nat.reduceBEq, reduceCtorEq, slices_Reverse_uint32_uint32, slices_Reverse_uint32_uint32.body]
    have e : H.set m (.vec cs T.uint32 1) = H := set_same hm
    have := rev_loop hmm hlen Q (h _ (by simp) (fun k hk hn => by
      simp only [AVal.names, List.mem_singleton] at hn
      rw [List.getElem?_set_ne (fun e => hn e.symm)]) ⟨by simp, .inr ⟨m, hb, by simp, by rw [List.getElem?_set_self hmm]⟩⟩) _ 0 cs rfl (by omega) (Rev.zero cs) hc
    rw [e] at this
    simpa using this

/-- The numbers that a window lacks, the last one first. -/
def lackJ (bts : Nat) (j : Nat) : List Nat := (List.range j).filter fun i => !bts.testBit i
def lackL (top bts : Nat) (j : Nat) : List Nat := (lackJ bts j).map fun i : Nat => addN top (0 - (i : Int))

theorem lackL_succ (top bts j : Nat) : lackL top bts (j + 1) = if bts.testBit j = true then lackL top bts j else lackL top bts j ++ [addN top (0 - (j : Int))] := by
  unfold lackL lackJ
  rw [List.range_succ, List.filter_append]
  by_cases h : bts.testBit j = true
  · rw [if_pos h]; simp [h]
  · rw [if_neg h]; simp [h]

theorem lackJ_le (bts j : Nat) : (lackJ bts j).length ≤ j := by
  unfold lackJ
  exact Nat.le_trans (List.length_filter_le _ _) (by simp)

def lackA (c B top bts : Nat) : Acc := ⟨c, T.sl_uint32, 1, T.uint32, B, fun j => (lackL top bts j).length, fun j => u32s (lackL top bts j)⟩

theorem missing_ok (H : AHeap) {p top bts : Nat} (hw : WinAt H p top bts) (Q : AVal → AHeap → Prop) (h : Q (nums .u32 false (lackL top bts 64).reverse) H) : FunOK Try.prog F.window_Window_Missing [.ptr p 0] H Q := by
  have hp : p < H.length := (List.getElem?_eq_some_iff.1 hw.1).1
  refine fun_iced window_Window_Missing_code fun _ => ?_
  refine fun_V 60 window_Window_Missing_code rfl ?_
  simp (disch := first | omega | (simp only [List.length_append, List.length_cons, List.length_nil, List.length_set, List.length_map, List.length_take, List.length_drop]; omega)) only [stdh, goK_s2b, dgoK_s2b, isEff_s2b, isPure_s2b, goK_b2s, dgoK_b2s, isEff_b2s, isPure_b2s, evalOp_s2b, s2bR, goK_mark, dgoK_mark, isEff_mark, isPure_mark, evalOp_mark, markA_slc, markB, ↓reduceIte, Nat.reduceEqDiff, Int.reduceToNat, Int.reducePow, Nat.reduceAdd, Nat.reduceLeDiff, Nat.reduceMul, Nat.reduceBEq, reduceCtorEq, window_Window_Missing, window_Window_Missing.body]
  have hk := keeps_append H [ABlk.cells [AVal.nils] T.sl_uint32]
  have hw1 : WinAt (H ++ [ABlk.cells [AVal.nils] T.sl_uint32]) p top bts := ⟨(at_low hp).trans hw.1, hw.2⟩
  have g0 : (H ++ [ABlk.cells [AVal.nils] T.sl_uint32])[H.length]? = some (.cells [.nils] T.sl_uint32) := at_0
  have hl1 : (H ++ [ABlk.cells [AVal.nils] T.sl_uint32]).length = H.length + 1 := by simp
  generalize H ++ [ABlk.cells [AVal.nils] T.sl_uint32] = H2 at *
  refine callK_fn (all_ok _ hw1 _ ?_)
  refine runL_V 60 ?_
  simp (disch := first | omega | (simp only [List.length_append, List.length_cons, List.length_nil, List.length_set, List.length_map, List.length_take, List.length_drop]; omega)) only [stdh, goK_s2b, dgoK_s2b, isEff_s2b, isPure_s2b, goK_b2s, dgoK_b2s, isEff_b2s, isPure_b2s, evalOp_s2b, s2bR, goK_mark, dgoK_mark, isEff_mark, isPure_mark, evalOp_mark, markA_slc, markB, ↓reduceIte, Nat.reduceEqDiff, Int.reduceToNat, Int.reducePow, Nat.reduceAdd, Nat.reduceLeDiff, Nat.reduceMul, Nat.reduceBEq, reduceCtorEq]
  refine range_accW (g := F.window_Window_all_1) (first := []) (captured := [cell (.ptr p 0)]) rfl (by intro n hn; cases hn) (item := allItem top bts) (len := 64) (fun j => rfl) [] (lackA H.length H.length top bts) (fun _ => none) (a0 := .nils) varsN_nil ⟨g0, Own.nil⟩ [p] (by
    intro m hm
    simp only [List.mem_singleton] at hm
    subst hm
    exact ⟨by omega, by simp, by show ¬ _ = H.length; omega, by simp [AVal.names]⟩) ?_ (fun H1 h1 h2 => all1_iter ⟨(h2 p (by omega)).trans hw1.1, hw.2⟩) ?_ (fun _ _ _ _ _ _ _ hh => by cases hh)
  · intro a' b' j H1 a hj hst hl hkp hrec hv ha
    have q0 : H1[H.length]? = some (.cells [a] T.sl_uint32) := ha.1
    have hs := ha.2.slen
    have hln : (lackA H.length H.length top bts).n j ≤ 64 := by
      show (lackL top bts j).length ≤ 64
      unfold lackL
      rw [List.length_map]
      have := lackJ_le bts j
      omega
    have o1 : Own 1 T.uint32 H.length H1 a (lackL top bts j).length (u32s (lackL top bts j)) := ha.2
    have hrn := o1.ne_loop hrec
    have hle : (lackL top bts j).length ≤ 64 := hln
    have hsucc := lackL_succ top bts j
    rw [hl1] at hl
    rw [hl1] at hrec hrn ⊢
    refine run_V0 60 ?_
    cases hb : bts.testBit j with
    | true =>
      rw [hb, if_pos rfl] at hsucc
      simp (disch := first | omega | (simp only [List.length_append, List.length_cons, List.length_nil, List.length_set, List.length_map, List.length_take, List.length_drop]; omega)) only [stdh, goK_s2b, dgoK_s2b, isEff_s2b, isPure_s2b, goK_b2s, dgoK_b2s, isEff_b2s, isPure_b2s, evalOp_s2b, s2bR, goK_mark, dgoK_mark, isEff_mark, isPure_mark, evalOp_mark, markA_slc, markB, ↓reduceIte, Nat.reduceEqDiff, Int.reduceToNat, Int.reducePow, Nat.reduceAdd, Nat.reduceLeDiff, Nat.reduceMul, Nat.reduceBEq, reduceCtorEq, window_Window_Missing.a0, window_Window_Missing.b0, hrec, q0, allItem, hb, List.zip_cons_cons, List.zip_nil_left, List.reverse_cons, List.reverse_nil, List.getElem?_set_self, List.getElem?_set_ne, at_low]
      refine round_fin (n := H.length + 1) rfl (List.getElem?_set_self (by omega)) ?_
      refine ⟨by (first | omega | (simp only [List.length_append, List.length_cons, List.length_nil, List.length_set, List.length_map, List.length_take, List.length_drop]; omega)), fun m m1 m2 m3 m4 m5 => ?_, varsN_nil, ⟨a, ⟨?_, ?_⟩, fun m hm => .inl hm⟩, rfl, ?_⟩
      · rw [List.getElem?_set_ne (by omega), List.getElem?_set_ne (by omega)]
      · show (List.set (List.set H1 _ _) _ _)[H.length]? = _
        rw [List.getElem?_set_ne (by omega), List.getElem?_set_ne (by omega)]; exact q0
      · show Own 1 T.uint32 H.length _ a (lackL top bts (j + 1)).length (u32s (lackL top bts (j + 1)))
        rw [hsucc]
        refine o1.moved fun m hm => ?_
        have hmn : H.length + 1 ≠ m := by rintro rfl; exact hrn hm
        rw [List.getElem?_set_ne hmn, List.getElem?_set_ne hmn]
      · rw [List.getElem?_set_self (by (first | omega | (simp only [List.length_append, List.length_cons, List.length_nil, List.length_set, List.length_map, List.length_take, List.length_drop]; omega)))]; rfl
    | false =>
      rw [hb, if_neg (by simp)] at hsucc
      simp (disch := first | omega | (simp only [List.length_append, List.length_cons, List.length_nil, List.length_set, List.length_map, List.length_take, List.length_drop]; omega)) only [stdh, goK_s2b, dgoK_s2b, isEff_s2b, isPure_s2b, goK_b2s, dgoK_b2s, isEff_b2s, isPure_b2s, evalOp_s2b, s2bR, goK_mark, dgoK_mark, isEff_mark, isPure_mark, evalOp_mark, markA_slc, markB, ↓reduceIte, Nat.reduceEqDiff, Int.reduceToNat, Int.reducePow, Nat.reduceAdd, Nat.reduceLeDiff, Nat.reduceMul, Nat.reduceBEq, reduceCtorEq, window_Window_Missing.a0, window_Window_Missing.b0, hrec, q0, allItem, hb, List.zip_cons_cons, List.zip_nil_left, List.reverse_cons, List.reverse_nil, List.getElem?_set_self, List.getElem?_set_ne, at_low]
      refine resK_append (k := 1) (ys := [.int .u32 (addN top (0 - (j : Int)) : Nat)]) ((o1.moved fun m hm => ?_)) (by (first | omega | (simp only [List.length_append, List.length_cons, List.length_nil, List.length_set, List.length_map, List.length_take, List.length_drop]; omega))) rfl ?_ rfl (by omega) (by omega) (by omega) rfl fun v H2' ov ht hn => ?_
      · have hlt := (o1.lt m hm).2
        have hmn : H.length + 1 ≠ m := by rintro rfl; exact hrn hm
        simp (disch := first | omega | (simp only [List.length_append, List.length_cons, List.length_nil, List.length_set, List.length_map, List.length_take, List.length_drop]; omega)) only [List.getElem?_append_left, List.getElem?_set_ne, List.getElem?_set_self, at_0, at_k, List.getElem?_cons_zero, List.getElem?_cons_succ, List.length_append, List.length_set, List.length_cons, List.length_nil, ne_eq, not_false_eq_true, Nat.zero_add]
      · simp [srcCells, view, content, at_0, at_k]
      have hH2 := ht.le
      simp only [List.length_append, List.length_set, List.length_cons, List.length_nil] at hH2
      have hc1 : H2'[H.length]? = some (.cells [a] T.sl_uint32) := by
        rw [ht.kept H.length (by (first | omega | (simp only [List.length_append, List.length_cons, List.length_nil, List.length_set, List.length_map, List.length_take, List.length_drop]; omega))) (o1.ne q0)]; simp (disch := first | omega | (simp only [List.length_append, List.length_cons, List.length_nil, List.length_set, List.length_map, List.length_take, List.length_drop]; omega)) only [List.getElem?_append_left, List.getElem?_set_ne, List.getElem?_set_self, at_0, at_k, List.getElem?_cons_zero, List.getElem?_cons_succ, List.length_append, List.length_set, List.length_cons, List.length_nil, ne_eq, not_false_eq_true, Nat.zero_add]; exact q0
      have hcl := ov.cell
      have hr2 := ht.kept (H.length + 1) (by (first | omega | (simp only [List.length_append, List.length_cons, List.length_nil, List.length_set, List.length_map, List.length_take, List.length_drop]; omega))) hrn
      simp (disch := first | omega | (simp only [List.length_append, List.length_cons, List.length_nil, List.length_set, List.length_map, List.length_take, List.length_drop]; omega)) only [List.getElem?_append_left, List.getElem?_set_ne, List.getElem?_set_self, at_0, at_k, List.getElem?_cons_zero, List.getElem?_cons_succ, List.length_append, List.length_set, List.length_cons, List.length_nil, ne_eq, not_false_eq_true, Nat.zero_add] at hr2
      simp (disch := first | omega | (simp only [List.length_append, List.length_cons, List.length_nil, List.length_set, List.length_map, List.length_take, List.length_drop]; omega)) only [stdh, goK_s2b, dgoK_s2b, isEff_s2b, isPure_s2b, goK_b2s, dgoK_b2s, isEff_b2s, isPure_b2s, evalOp_s2b, s2bR, goK_mark, dgoK_mark, isEff_mark, isPure_mark, evalOp_mark, markA_slc, markB, ↓reduceIte, Nat.reduceEqDiff, Int.reduceToNat, Int.reducePow, Nat.reduceAdd, Nat.reduceLeDiff, Nat.reduceMul, Nat.reduceBEq, reduceCtorEq, hc1, hcl.1, hcl.2, List.getElem?_set_ne]
      refine round_fin (n := H.length + 1) rfl (by rw [List.getElem?_set_ne (by omega)]; exact hr2) ?_
      refine ⟨by (first | omega | (simp only [List.length_append, List.length_cons, List.length_nil, List.length_set, List.length_map, List.length_take, List.length_drop]; omega)), fun m m1 m2 m3 m4 m5 => ?_, varsN_nil, ⟨v, ⟨?_, ?_⟩, fun m hm => .inr ?_⟩, rfl, ?_⟩
      · have m4' : m ≠ H.length := m4
        rw [List.getElem?_set_ne (by omega), List.getElem?_set_ne (by omega), ht.kept m (by (first | omega | (simp only [List.length_append, List.length_cons, List.length_nil, List.length_set, List.length_map, List.length_take, List.length_drop]; omega))) m5]; simp (disch := first | omega | (simp only [List.length_append, List.length_cons, List.length_nil, List.length_set, List.length_map, List.length_take, List.length_drop]; omega)) only [List.getElem?_append_left, List.getElem?_set_ne, List.getElem?_set_self, at_0, at_k, List.getElem?_cons_zero, List.getElem?_cons_succ, List.length_append, List.length_set, List.length_cons, List.length_nil, ne_eq, not_false_eq_true, Nat.zero_add]
      · show (List.set (List.set H2' H.length _) (H.length + 1) _)[H.length]? = _
        rw [List.getElem?_set_ne (by omega), List.getElem?_set_self (by omega)]; rfl
      · show Own 1 T.uint32 H.length _ v (lackL top bts (j + 1)).length (u32s (lackL top bts (j + 1)))
        rw [hsucc]
        have e1 : u32s (lackL top bts j ++ [addN top (0 - (j : Int))]) = u32s (lackL top bts j) ++ [.int .u32 (addN top (0 - (j : Int)) : Nat)] := by simp [u32s]
        rw [e1, List.length_append, List.length_singleton]
        refine ov.moved fun m hm => ?_
        have := hn m hm
        simp only [List.length_append, List.length_set, List.length_cons, List.length_nil] at this
        rw [List.getElem?_set_ne (by omega), List.getElem?_set_ne (by omega)]
      · have := hn m hm
        simp only [List.length_append, List.length_set, List.length_cons, List.length_nil] at this; omega
      · rw [List.getElem?_set_self (by (first | omega | (simp only [List.length_append, List.length_cons, List.length_nil, List.length_set, List.length_map, List.length_take, List.length_drop]; omega)))]; rfl
  · intro H' a hl hkp _ _ ha
    have q0 : H'[H.length]? = some (.cells [a] T.sl_uint32) := ha.1
    have o1 : Own 1 T.uint32 H.length H' a (lackL top bts 64).length (u32s (lackL top bts 64)) := ha.2
    have hle : (lackL top bts 64).length ≤ 64 := by
      unfold lackL
      rw [List.length_map]
      have := lackJ_le bts 64
      omega
    refine run_V0 60 ?_
    simp (disch := first | omega | (simp only [List.length_append, List.length_cons, List.length_nil, List.length_set, List.length_map, List.length_take, List.length_drop]; omega)) only [stdh, goK_s2b, dgoK_s2b, isEff_s2b, isPure_s2b, goK_b2s, dgoK_b2s, isEff_b2s, isPure_b2s, evalOp_s2b, s2bR, goK_mark, dgoK_mark, isEff_mark, isPure_mark, evalOp_mark, markA_slc, markB, ↓reduceIte, Nat.reduceEqDiff, Int.reduceToNat, Int.reducePow, Nat.reduceAdd, Nat.reduceLeDiff, Nat.reduceMul, Nat.reduceBEq, reduceCtorEq, q0]
    refine callK_fn (rev_ok _ o1 (by omega) ?_ _ ?_)
    · intro c hc
      obtain ⟨x, _, rfl⟩ := List.mem_map.1 hc
      exact ⟨rfl, rfl⟩
    · intro H3 h1 h2 h3
      have hne : H.length ∉ a.names := o1.ne q0
      have q3 : H3[H.length]? = some (.cells [a] T.sl_uint32) := (h2 _ (by omega) hne).trans q0
      refine runL_V 60 ?_
      simp (disch := first | omega | (simp only [List.length_append, List.length_cons, List.length_nil, List.length_set, List.length_map, List.length_take, List.length_drop]; omega)) only [stdh, goK_s2b, dgoK_s2b, isEff_s2b, isPure_s2b, goK_b2s, dgoK_b2s, isEff_b2s, isPure_b2s, evalOp_s2b, s2bR, goK_mark, dgoK_mark, isEff_mark, isPure_mark, evalOp_mark, markA_slc, markB, ↓reduceIte, Nat.reduceEqDiff, Int.reduceToNat, Int.reducePow, Nat.reduceAdd, Nat.reduceLeDiff, Nat.reduceMul, Nat.reduceBEq, reduceCtorEq, q3]
      have hkk : Keeps H H3 := ⟨by omega, fun m hm => by
        rw [h2 m (by omega) (fun hh => by have := (o1.lt m hh).1; omega), hkp m (by omega) (by simp) (by show ¬ m = H.length; omega) (by simp [AVal.names]), hk.2 m hm]⟩
      refine ice_own hkk h3 ?_ ?_
      · exact closeds_all fun c hc => by
          obtain ⟨x, _, rfl⟩ := List.mem_map.1 (List.mem_reverse.1 hc)
          trivial
      · have e : AVal.imm (u32s (lackL top bts 64)).reverse (lackL top bts 64).length false = nums .u32 false (lackL top bts 64).reverse := by
          simp [nums, u32s, List.map_reverse]
        rw [e]; exact h
end Go.Proofs.Ytiklfnjmadcgfaa
