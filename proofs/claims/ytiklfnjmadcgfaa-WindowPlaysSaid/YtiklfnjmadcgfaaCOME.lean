/-
  Lemmas on the way to the statements of this seat. By an AI agent. No person has read it.
-/
import Derived.Test.YtiklfnjmadcgfaaREF

namespace Go.Proofs.Ytiklfnjmadcgfaa
open Go Go.Am
set_option linter.unusedSimpArgs false
set_option linter.unusedVariables false

/-! ### Numbers that a truth lets through -/

def filt (p : Nat → Bool) (j : Nat) : List Nat := (List.range j).filter p

theorem filt_succ (p : Nat → Bool) (j : Nat) : filt p (j + 1) = if p j = true then filt p j ++ [j] else filt p j := by
  unfold filt
  rw [List.range_succ, List.filter_append]
  by_cases h : p j = true
  · rw [if_pos h]; simp [h]
  · rw [if_neg h]; simp [h]

theorem filt_pre (p : Nat → Bool) {j m : Nat} (h : j ≤ m) : ∃ r, filt p m = filt p j ++ r := by
  induction m with
  | zero => have : j = 0 := by omega
            subst this; exact ⟨[], by simp⟩
  | succ m ih =>
    by_cases hj : j = m + 1
    · subst hj; exact ⟨[], by simp⟩
    · obtain ⟨r, hr⟩ := ih (by omega)
      rw [filt_succ, hr]
      by_cases hp : p m = true
      · rw [if_pos hp]; exact ⟨r ++ [m], by simp⟩
      · rw [if_neg hp]; exact ⟨r, rfl⟩

theorem filt_at {p : Nat → Bool} {j m : Nat} (h : j < m) (hp : p j = true) : (filt p j).length < (filt p m).length ∧ (filt p m).getD (filt p j).length 0 = j := by
  obtain ⟨r, hr⟩ := filt_pre p (show j + 1 ≤ m by omega)
  rw [filt_succ, if_pos hp] at hr
  rw [hr]
  constructor
  · simp
  · simp [List.getD_eq_getElem?_getD, List.getElem?_append]

theorem filt_le (p : Nat → Bool) (j : Nat) : (filt p j).length ≤ j := by
  unfold filt
  exact Nat.le_trans (List.length_filter_le _ _) (by simp)

theorem filt_sorted (p : Nat → Bool) : ∀ j, (filt p j).Pairwise (· < ·) := fun j => by
  unfold filt
  exact List.Pairwise.filter p List.pairwise_lt_range

theorem filt_mem {p : Nat → Bool} {j x : Nat} : x ∈ filt p j ↔ x < j ∧ p x = true := by
  unfold filt; rw [List.mem_filter, List.mem_range]

/-- Where the search for the next one begins. -/
def posn (p : Nat → Bool) (m k : Nat) : Nat := if k = 0 then 0 else (filt p m).getD (k - 1) 0 + 1

theorem filt_gap {p : Nat → Bool} {m k i : Nat} (hi : posn p m k ≤ i) (him : i < m) (hk : k < (filt p m).length → i < (filt p m).getD k 0) (hkl : k ≤ (filt p m).length) : p i = false := by
  rw [Bool.eq_false_iff]
  intro hp
  have hmem := filt_mem.2 ⟨him, hp⟩
  obtain ⟨q, hq, he⟩ := List.getElem_of_mem hmem
  have hs := List.pairwise_iff_getElem.1 (filt_sorted p m)
  have hge : k ≤ q := by
    refine Classical.byContradiction fun hc => ?_
    unfold posn at hi
    rw [if_neg (by omega)] at hi
    have e1 : (filt p m).getD (k - 1) 0 = (filt p m)[k - 1]'(by omega) := by rw [List.getD_eq_getElem?_getD, List.getElem?_eq_getElem (by omega)]; rfl
    rw [e1] at hi
    by_cases h2 : q = k - 1
    · subst h2; omega
    · have := hs q (k - 1) hq (by omega) (by omega); omega
  have hkl2 : k < (filt p m).length := by omega
  have e2 : (filt p m).getD k 0 = (filt p m)[k]'hkl2 := by rw [List.getD_eq_getElem?_getD, List.getElem?_eq_getElem hkl2]; rfl
  have hh := hk hkl2
  rw [e2] at hh
  by_cases h2 : k = q
  · subst h2; omega
  · have := hs k q hkl2 hq (by omega); omega

theorem filt_at_mem {p : Nat → Bool} {m k : Nat} (hk : k < (filt p m).length) : (filt p m).getD k 0 < m ∧ p ((filt p m).getD k 0) = true ∧ posn p m k ≤ (filt p m).getD k 0 := by
  have e2 : (filt p m).getD k 0 = (filt p m)[k]'hk := by rw [List.getD_eq_getElem?_getD, List.getElem?_eq_getElem hk]; rfl
  have := filt_mem.1 (List.getElem_mem hk)
  refine ⟨by rw [e2]; exact this.1, by rw [e2]; exact this.2, ?_⟩
  unfold posn
  by_cases h0 : k = 0
  · rw [if_pos h0]; omega
  · rw [if_neg h0, e2]
    have e1 : (filt p m).getD (k - 1) 0 = (filt p m)[k - 1]'(by omega) := by rw [List.getD_eq_getElem?_getD, List.getElem?_eq_getElem (by omega)]; rfl
    rw [e1]
    have := List.pairwise_iff_getElem.1 (filt_sorted p m) (k - 1) k (by omega) hk (by omega)
    omega

def comeJ (bts j : Nat) : List Nat := filt (fun i => bts.testBit i) j
def comeItem (top bts k : Nat) : List AVal := [.int .u32 (addN top (0 - (((comeJ bts 64).getD k 0 : Nat) : Int)) : Nat)]

theorem come1_iter {H : AHeap} {p top bts n : Nat} (hw : WinAt H p top bts) : Iter Try.prog F.window_Window_Come_1 [.yld n, cell (.ptr p 0)] n (comeItem top bts) (comeJ bts 64).length [p] H := by
  intro I hI fp hi hown
  have hp : p < H.length := (List.getElem?_eq_some_iff.1 hw.1).1
  have hpf := hown p (by simp)
  refine fun_V 100 window_Window_Come_1_code rfl ?_
  have hyc : (AVal.yld n).cells = [AVal.yld n] := rfl
  simp (disch := first | omega | (simp only [List.length_append, List.length_cons, List.length_nil, List.length_set, List.length_map, List.length_take, List.length_drop]; omega)) only [stdh, goK_s2b, dgoK_s2b, isEff_s2b, isPure_s2b, goK_b2s, dgoK_b2s, isEff_b2s, isPure_b2s, evalOp_s2b, s2bR, goK_mark, dgoK_mark, isEff_mark, isPure_mark, evalOp_mark, markA_slc, markB, ↓reduceIte, Nat.reduceEqDiff, Int.reduceToNat, Int.reducePow, Nat.reduceAdd, Nat.reduceLeDiff, Nat.reduceMul, Nat.reduceBEq, reduceCtorEq, window_Window_Come_1, window_Window_Come_1.body, hyc]
  have hw1 : WinAt (H ++ [ABlk.cells [AVal.yld n] T.func_uint32_bool]) p top bts := ⟨(at_low hp).trans hw.1, hw.2⟩
  have g0 : (H ++ [ABlk.cells [AVal.yld n] T.func_uint32_bool])[H.length]? = some (.cells [.yld n] T.func_uint32_bool) := at_0
  have hi1 : I true 0 fp (H ++ [ABlk.cells [AVal.yld n] T.func_uint32_bool]) := (hI.foot true 0).stable _ _ _ hi (by simp) fun m hm => List.getElem?_append_left ((hI.foot true 0).lt _ _ hi m hm)
  have hfl := (hI.foot true 0).lt _ _ hi
  have hk2 := keeps_append H [ABlk.cells [AVal.yld n] T.func_uint32_bool]
  have hl2 : (H ++ [ABlk.cells [AVal.yld n] T.func_uint32_bool]).length = H.length + 1 := by simp
  generalize H ++ [ABlk.cells [AVal.yld n] T.func_uint32_bool] = H2 at *
  refine ⟨rfl, callK_fn (all_ok _ hw1 _ ?_)⟩
  refine runL_V 60 ?_
  simp (disch := first | omega | (simp only [List.length_append, List.length_cons, List.length_nil, List.length_set, List.length_map, List.length_take, List.length_drop]; omega)) only [stdh, goK_s2b, dgoK_s2b, isEff_s2b, isPure_s2b, goK_b2s, dgoK_b2s, isEff_b2s, isPure_b2s, evalOp_s2b, s2bR, goK_mark, dgoK_mark, isEff_mark, isPure_mark, evalOp_mark, markA_slc, markB, ↓reduceIte, Nat.reduceEqDiff, Int.reduceToNat, Int.reducePow, Nat.reduceAdd, Nat.reduceLeDiff, Nat.reduceMul, Nat.reduceBEq, reduceCtorEq]
  let J : Nat → List Nat → AHeap → Prop := fun j fp' H' => ∃ fpI, fp' = H.length :: fpI ∧ H.length ∉ fpI ∧ H'[H.length]? = some (.cells [.yld n] T.func_uint32_bool) ∧ I true (comeJ bts j).length fpI H'
  let S : AJump → Nat → List Nat → AHeap → Prop := fun ap j fp' H' => ap = .exit 0 ∧ ∃ k fpI, fp' = H.length :: fpI ∧ H.length ∉ fpI ∧ H'[H.length]? = some (.cells [.yld n] T.func_uint32_bool) ∧ I false k fpI H'
  have hJ : ∀ j, Foot (J j) := fun j => {
    lt := by
      rintro fp' H' ⟨fpI, rfl, h1, h2, h3⟩ m hm
      rcases List.mem_cons.1 hm with rfl | hm
      · exact (List.getElem?_eq_some_iff.1 h2).1
      · exact (hI.foot true _).lt _ _ h3 m hm
    stable := by
      rintro fp' H' H3 ⟨fpI, rfl, h1, h2, h3⟩ hle hk
      exact ⟨fpI, rfl, h1, (hk _ (by simp)).trans h2, (hI.foot true _).stable _ _ _ h3 hle fun m hm => hk m (by simp [hm])⟩ }
  have hS : ∀ ap j, Foot (S ap j) := fun ap j => {
    lt := by
      rintro fp' H' ⟨_, k, fpI, rfl, h1, h2, h3⟩ m hm
      rcases List.mem_cons.1 hm with rfl | hm
      · exact (List.getElem?_eq_some_iff.1 h2).1
      · exact (hI.foot false _).lt _ _ h3 m hm
    stable := by
      rintro fp' H' H3 ⟨e, k, fpI, rfl, h1, h2, h3⟩ hle hk
      exact ⟨e, k, fpI, rfl, h1, (hk _ (by simp)).trans h2, (hI.foot false _).stable _ _ _ h3 hle fun m hm => hk m (by simp [hm])⟩ }
  refine range_of (g := F.window_Window_all_1) (first := []) (captured := [cell (.ptr p 0)]) rfl (by intro n hn; cases hn) (item := allItem top bts) (len := 64) (fun j => rfl) J S hJ hS (fp0 := H.length :: fp) ⟨fp, rfl, fun hh => by have := hfl _ hh; omega, g0, hi1⟩ ?_ [p] (by
    intro m hm
    simp only [List.mem_singleton] at hm
    subst hm
    exact ⟨by omega, by simp only [List.mem_cons, not_or]; exact ⟨by omega, hpf⟩⟩) (fun H1 h1 h2 => all1_iter ⟨(h2 p (by omega)).trans hw1.1, hw.2⟩) ?_ ?_
  · rintro as' bd' j fp' H1 hj hn hl hrec ⟨fpI, rfl, hc, q0, hi'⟩
    simp only [List.mem_cons, not_or] at hn
    rw [hl2] at hrec hl hn ⊢
    have hsucc := filt_succ (fun i => bts.testBit i) j
    refine run_V0 60 ?_
    cases hb : bts.testBit j with
    | false =>
      rw [hb, if_neg (by simp)] at hsucc
      simp (disch := first | omega | (simp only [List.length_append, List.length_cons, List.length_nil, List.length_set, List.length_map, List.length_take, List.length_drop]; omega)) only [stdh, goK_s2b, dgoK_s2b, isEff_s2b, isPure_s2b, goK_b2s, dgoK_b2s, isEff_b2s, isPure_b2s, evalOp_s2b, s2bR, goK_mark, dgoK_mark, isEff_mark, isPure_mark, evalOp_mark, markA_slc, markB, ↓reduceIte, Nat.reduceEqDiff, Int.reduceToNat, Int.reducePow, Nat.reduceAdd, Nat.reduceLeDiff, Nat.reduceMul, Nat.reduceBEq, reduceCtorEq, window_Window_Come_1.a0, window_Window_Come_1.b0, hrec, q0, allItem, hb, List.zip_cons_cons, List.zip_nil_left, List.reverse_cons, List.reverse_nil, List.getElem?_set_self, List.getElem?_set_ne, at_low]
      refine round_fin (n := H.length + 1) rfl (List.getElem?_set_self (by omega)) ?_
      refine ⟨H.length :: fpI, ⟨by (first | omega | (simp only [List.length_append, List.length_cons, List.length_nil, List.length_set, List.length_map, List.length_take, List.length_drop]; omega)), fun m hm => .inl hm, fun m hm hf => ?_⟩, by simp; exact hn.2, .inl ⟨rfl, ?_, ?_⟩⟩
      · simp only [List.mem_cons, not_or] at hf
        rw [List.getElem?_set_ne (by omega), List.getElem?_set_ne (by omega)]
      · rw [List.getElem?_set_self (by (first | omega | (simp only [List.length_append, List.length_cons, List.length_nil, List.length_set, List.length_map, List.length_take, List.length_drop]; omega)))]; rfl
      · refine ⟨fpI, rfl, hc, by rw [List.getElem?_set_ne (by omega), List.getElem?_set_ne (by omega)]; exact q0, ?_⟩
        rw [comeJ, hsucc]
        exact (hI.foot true _).stable _ _ _ hi' (by (first | omega | (simp only [List.length_append, List.length_cons, List.length_nil, List.length_set, List.length_map, List.length_take, List.length_drop]; omega))) fun m hm => by
          have : H.length + 1 ≠ m := by rintro rfl; exact hn.2 hm
          rw [List.getElem?_set_ne this, List.getElem?_set_ne this]
    | true =>
      rw [hb, if_pos rfl] at hsucc
      have hat := filt_at (p := fun i => bts.testBit i) hj hb
      simp (disch := first | omega | (simp only [List.length_append, List.length_cons, List.length_nil, List.length_set, List.length_map, List.length_take, List.length_drop]; omega)) only [stdh, goK_s2b, dgoK_s2b, isEff_s2b, isPure_s2b, goK_b2s, dgoK_b2s, isEff_b2s, isPure_b2s, evalOp_s2b, s2bR, goK_mark, dgoK_mark, isEff_mark, isPure_mark, evalOp_mark, markA_slc, markB, ↓reduceIte, Nat.reduceEqDiff, Int.reduceToNat, Int.reducePow, Nat.reduceAdd, Nat.reduceLeDiff, Nat.reduceMul, Nat.reduceBEq, reduceCtorEq, window_Window_Come_1.a0, window_Window_Come_1.b0, hrec, q0, allItem, hb, List.zip_cons_cons, List.zip_nil_left, List.reverse_cons, List.reverse_nil, List.getElem?_set_self, List.getElem?_set_ne, at_low]
      have hi2 : I true (comeJ bts j).length fpI (H1.set (H.length + 1) (ABlk.loop (lrec { fn := F.window_Window_Come_1, nt := 16, res := [], rd := none } [(2, AVal.ptr (List.length H) 0), (6, AVal.fn F.window_Window_all_1 [] [cell (AVal.ptr p 0)])] [7, 8] as' bd' LoopState.busy (lrec { fn := F.window_Window_Come_1, nt := 16, res := [], rd := none } [(2, AVal.ptr (List.length H) 0), (6, AVal.fn F.window_Window_all_1 [] [cell (AVal.ptr p 0)])] [7, 8] as' bd' LoopState.ready none).pending))) :=
        (hI.foot true _).stable _ _ _ hi' (by (first | omega | (simp only [List.length_append, List.length_cons, List.length_nil, List.length_set, List.length_map, List.length_take, List.length_drop]; omega))) fun m hm => by
          have : H.length + 1 ≠ m := by rintro rfl; exact hn.2 hm
          rw [List.getElem?_set_ne this]
      have q2 : (H1.set (H.length + 1) (ABlk.loop (lrec { fn := F.window_Window_Come_1, nt := 16, res := [], rd := none } [(2, AVal.ptr (List.length H) 0), (6, AVal.fn F.window_Window_all_1 [] [cell (AVal.ptr p 0)])] [7, 8] as' bd' LoopState.busy (lrec { fn := F.window_Window_Come_1, nt := 16, res := [], rd := none } [(2, AVal.ptr (List.length H) 0), (6, AVal.fn F.window_Window_all_1 [] [cell (AVal.ptr p 0)])] [7, 8] as' bd' LoopState.ready none).pending)))[H.length]? = some (.cells [.yld n] T.func_uint32_bool) := by
        rw [List.getElem?_set_ne (by omega)]; exact q0
      have hle2 : ∀ b, (H1.set (H.length + 1) b).length = H1.length := fun b => by simp
      have hr2 : (H1.set (H.length + 1) (ABlk.loop (lrec { fn := F.window_Window_Come_1, nt := 16, res := [], rd := none } [(2, AVal.ptr (List.length H) 0), (6, AVal.fn F.window_Window_all_1 [] [cell (AVal.ptr p 0)])] [7, 8] as' bd' LoopState.busy (lrec { fn := F.window_Window_Come_1, nt := 16, res := [], rd := none } [(2, AVal.ptr (List.length H) 0), (6, AVal.fn F.window_Window_all_1 [] [cell (AVal.ptr p 0)])] [7, 8] as' bd' LoopState.ready none).pending)))[H.length + 1]? = some _ := List.getElem?_set_self (by omega)
      have ho2 : ∀ m, m ≠ H.length + 1 → (H1.set (H.length + 1) (ABlk.loop (lrec { fn := F.window_Window_Come_1, nt := 16, res := [], rd := none } [(2, AVal.ptr (List.length H) 0), (6, AVal.fn F.window_Window_all_1 [] [cell (AVal.ptr p 0)])] [7, 8] as' bd' LoopState.busy (lrec { fn := F.window_Window_Come_1, nt := 16, res := [], rd := none } [(2, AVal.ptr (List.length H) 0), (6, AVal.fn F.window_Window_all_1 [] [cell (AVal.ptr p 0)])] [7, 8] as' bd' LoopState.ready none).pending)))[m]? = H1[m]? := fun m hm => by
        rw [List.getElem?_set_ne (fun e => hm e.symm)]
      have hl3 : (H1.set (H.length + 1) (ABlk.loop (lrec { fn := F.window_Window_Come_1, nt := 16, res := [], rd := none } [(2, AVal.ptr (List.length H) 0), (6, AVal.fn F.window_Window_all_1 [] [cell (AVal.ptr p 0)])] [7, 8] as' bd' LoopState.busy (lrec { fn := F.window_Window_Come_1, nt := 16, res := [], rd := none } [(2, AVal.ptr (List.length H) 0), (6, AVal.fn F.window_Window_all_1 [] [cell (AVal.ptr p 0)])] [7, 8] as' bd' LoopState.ready none).pending))).length = H1.length := hle2 _
      generalize H1.set (H.length + 1) (ABlk.loop (lrec { fn := F.window_Window_Come_1, nt := 16, res := [], rd := none } [(2, AVal.ptr (List.length H) 0), (6, AVal.fn F.window_Window_all_1 [] [cell (AVal.ptr p 0)])] [7, 8] as' bd' LoopState.busy (lrec { fn := F.window_Window_Come_1, nt := 16, res := [], rd := none } [(2, AVal.ptr (List.length H) 0), (6, AVal.fn F.window_Window_all_1 [] [cell (AVal.ptr p 0)])] [7, 8] as' bd' LoopState.ready none).pending)) = HB at *
      have hstep := hI.step (comeJ bts j).length fpI HB hat.1 hi2
      have hcj : (comeJ bts 64).getD (comeJ bts j).length 0 = j := hat.2
      simp only [comeItem, hcj] at hstep
      refine CallV.mono hstep fun av H' hh => ?_
      obtain ⟨fp', ht', hh⟩ := hh
      have hle' := ht'.le
      have hr3 := (ht'.kept (H.length + 1) (by omega) hn.2).trans hr2
      have q3 := (ht'.kept H.length (by omega) hc).trans q2
      have hc' : H.length ∉ fp' := fun hm => by
        rcases ht'.feet _ hm with h | h
        · exact hc h
        · omega
      have hn' : H.length + 1 ∉ fp' := fun hm => by
        rcases ht'.feet _ hm with h | h
        · exact hn.2 h
        · omega
      have htt : ∀ b : ABlk, Touches ((H.length + 1) :: H.length :: fpI) H1 ((H.length + 1) :: H.length :: fp') (H'.set (H.length + 1) b) := fun b => by
        refine ⟨by (first | omega | (simp only [List.length_append, List.length_cons, List.length_nil, List.length_set, List.length_map, List.length_take, List.length_drop]; omega)), fun m hm => ?_, fun m hm hf => ?_⟩
        · simp only [List.mem_cons] at hm ⊢
          rcases hm with rfl | rfl | hm
          · exact .inl (.inl rfl)
          · exact .inl (.inr (.inl rfl))
          · rcases ht'.feet m hm with h | h
            · exact .inl (.inr (.inr h))
            · exact .inr (by omega)
        · simp only [List.mem_cons, not_or] at hf
          rw [List.getElem?_set_ne (fun e => hf.1 e.symm), ht'.kept m (by omega) hf.2.2, ho2 m hf.1]
      have hst : ∀ (b : ABlk) (x : Bool) (k : Nat), I x k fp' H' → I x k fp' (H'.set (H.length + 1) b) := fun b x k hx => (hI.foot x k).stable _ _ _ hx (by (first | omega | (simp only [List.length_append, List.length_cons, List.length_nil, List.length_set, List.length_map, List.length_take, List.length_drop]; omega))) fun m hm => by
        have : H.length + 1 ≠ m := by rintro rfl; exact hn' hm
        rw [List.getElem?_set_ne this]
      refine runL_V 60 ?_
      rcases hh with ⟨rfl, hi'⟩ | ⟨rfl, hi'⟩
      · simp (disch := first | omega | (simp only [List.length_append, List.length_cons, List.length_nil, List.length_set, List.length_map, List.length_take, List.length_drop]; omega)) only [stdh, goK_s2b, dgoK_s2b, isEff_s2b, isPure_s2b, goK_b2s, dgoK_b2s, isEff_b2s, isPure_b2s, evalOp_s2b, s2bR, goK_mark, dgoK_mark, isEff_mark, isPure_mark, evalOp_mark, markA_slc, markB, ↓reduceIte, Nat.reduceEqDiff, Int.reduceToNat, Int.reducePow, Nat.reduceAdd, Nat.reduceLeDiff, Nat.reduceMul, Nat.reduceBEq, reduceCtorEq]
        refine round_fin (n := H.length + 1) rfl hr3 ?_
        refine ⟨H.length :: fp', htt _, by simp; exact hn', .inl ⟨rfl, ?_, ?_⟩⟩
        · rw [List.getElem?_set_self (by omega)]; rfl
        · refine ⟨fp', rfl, hc', by rw [List.getElem?_set_ne (by omega)]; exact q3, ?_⟩
          rw [comeJ, hsucc, List.length_append]
          exact hst _ _ _ hi'
      · simp (disch := first | omega | (simp only [List.length_append, List.length_cons, List.length_nil, List.length_set, List.length_map, List.length_take, List.length_drop]; omega)) only [stdh, goK_s2b, dgoK_s2b, isEff_s2b, isPure_s2b, goK_b2s, dgoK_b2s, isEff_b2s, isPure_b2s, evalOp_s2b, s2bR, goK_mark, dgoK_mark, isEff_mark, isPure_mark, evalOp_mark, markA_slc, markB, ↓reduceIte, Nat.reduceEqDiff, Int.reduceToNat, Int.reducePow, Nat.reduceAdd, Nat.reduceLeDiff, Nat.reduceMul, Nat.reduceBEq, reduceCtorEq]
        refine exit_fin (n := H.length + 1) rfl hr3 ?_
        refine ⟨H.length :: fp', htt _, by simp; exact hn', .inr ⟨.exit 0, rfl, ?_, ?_⟩⟩
        · rw [List.getElem?_set_self (by omega)]; rfl
        · exact ⟨rfl, _, fp', rfl, hc', by rw [List.getElem?_set_ne (by omega)]; exact q3, hst _ _ _ hi'⟩
  · rintro fp' H' hl hk ⟨fpI, rfl, hc, q0, hi'⟩
    refine run_V0 60 ?_
    simp (disch := first | omega | (simp only [List.length_append, List.length_cons, List.length_nil, List.length_set, List.length_map, List.length_take, List.length_drop]; omega)) only [stdh, goK_s2b, dgoK_s2b, isEff_s2b, isPure_s2b, goK_b2s, dgoK_b2s, isEff_b2s, isPure_b2s, evalOp_s2b, s2bR, goK_mark, dgoK_mark, isEff_mark, isPure_mark, evalOp_mark, markA_slc, markB, ↓reduceIte, Nat.reduceEqDiff, Int.reduceToNat, Int.reducePow, Nat.reduceAdd, Nat.reduceLeDiff, Nat.reduceMul, Nat.reduceBEq, reduceCtorEq]
    refine run_fin rfl rfl trivial ?_
    refine ⟨true, _, fpI, by omega, fun m hm hf => ?_, fun _ => rfl, hi'⟩
    rw [hk m (by omega) (by simp only [List.mem_cons, not_or]; exact ⟨by omega, hf⟩), hk2.2 m hm]
  · rintro ap j fp' H' hl hk ⟨rfl, k, fpI, rfl, hc, q0, hi'⟩
    refine run_V0 60 ?_
    simp (disch := first | omega | (simp only [List.length_append, List.length_cons, List.length_nil, List.length_set, List.length_map, List.length_take, List.length_drop]; omega)) only [stdh, goK_s2b, dgoK_s2b, isEff_s2b, isPure_s2b, goK_b2s, dgoK_b2s, isEff_b2s, isPure_b2s, evalOp_s2b, s2bR, goK_mark, dgoK_mark, isEff_mark, isPure_mark, evalOp_mark, markA_slc, markB, ↓reduceIte, Nat.reduceEqDiff, Int.reduceToNat, Int.reducePow, Nat.reduceAdd, Nat.reduceLeDiff, Nat.reduceMul, Nat.reduceBEq, reduceCtorEq, jumpItems]
    refine run_fin rfl rfl trivial ?_
    refine ⟨false, _, fpI, by omega, fun m hm hf => ?_, (fun h => by cases h), hi'⟩
    rw [hk m (by omega) (by simp only [List.mem_cons, not_or]; exact ⟨by omega, hf⟩), hk2.2 m hm]
end Go.Proofs.Ytiklfnjmadcgfaa

namespace Go.Proofs.Ytiklfnjmadcgfaa
open Go Go.Am
set_option linter.unusedSimpArgs false
set_option linter.unusedVariables false

abbrev alC (N : Nat) : Ctx := ⟨F.cuneiformlaw11_Alike, 108, [], some N⟩

theorem al_inner (K : List AItem) (Q : AVal → AHeap → Prop) {N B top cc : Nat} {f : Nat → Bool} (hcc : cc < 64) (hf : f cc = true) (item : AVal) :
    ∀ (m i : Nat) (H : AHeap), cc - i = m → i ≤ cc → (∀ x, i ≤ x → x < cc → f x = false) → H[B]? = some (.cells (wc top f) T.cuneiformref11_W) → H[B + 1]? = some (.cells [.int .i64 (i : Nat)] T.int) →
    (∀ r', rget r' 3 = .ptr B 0 → rget r' 5 = .ptr (B + 1) 0 → rget r' 6 = .ptr (B + 2) 0 → rget r' 8 = item → Run Try.prog (alC N) K r' (H.set (B + 1) (.cells [.int .i64 (cc : Nat)] T.int)) Q) →
    Rounds Try.prog (alC N) cuneiformlaw11_Alike.b1 [.inBlock 2] K [(3, .ptr B 0), (5, .ptr (B + 1) 0), (6, .ptr (B + 2) 0), (8, item)] H Q
  | m, i, H, h1, h2, h3, g0, g1, hK => by
    have hB := (List.getElem?_eq_some_iff.1 g1).1
    refine loop_V 100 cuneiformlaw11_Alike.b1.eq_1 ?_
    by_cases hi : i < cc
    · have hfi := h3 i (by omega) hi
      simp (disch := first | omega | (simp only [List.length_append, List.length_cons, List.length_nil, List.length_set, List.length_map, List.length_take, List.length_drop]; omega)) only [stdh, goK_s2b, dgoK_s2b, isEff_s2b, isPure_s2b, goK_b2s, dgoK_b2s, isEff_b2s, isPure_b2s, evalOp_s2b, s2bR, goK_mark, dgoK_mark, isEff_mark, isPure_mark, evalOp_mark, markA_slc, markB, ↓reduceIte, Nat.reduceEqDiff, Int.reduceToNat, Int.reducePow, Nat.reduceAdd, Nat.reduceLeDiff, Nat.reduceMul, Nat.reduceBEq, reduceCtorEq, g0, g1, wc_len, wc_get, hfi]
      rw [show (i : Int) + 1 = ((i + 1 : Nat) : Int) by omega]
      refine al_inner K Q hcc hf item _ (i + 1) _ rfl (by omega) (fun x hx1 hx2 => h3 x (by omega) hx2) (by rw [List.getElem?_set_ne (by omega)]; exact g0) (by rw [List.getElem?_set_self hB]) ?_
      intro r' f3 f5 f6 f8
      rw [List.set_set]
      exact hK r' f3 f5 f6 f8
    · have : i = cc := by omega
      subst this
      simp (disch := first | omega | (simp only [List.length_append, List.length_cons, List.length_nil, List.length_set, List.length_map, List.length_take, List.length_drop]; omega)) only [stdh, goK_s2b, dgoK_s2b, isEff_s2b, isPure_s2b, goK_b2s, dgoK_b2s, isEff_b2s, isPure_b2s, evalOp_s2b, s2bR, goK_mark, dgoK_mark, isEff_mark, isPure_mark, evalOp_mark, markA_slc, markB, ↓reduceIte, Nat.reduceEqDiff, Int.reduceToNat, Int.reducePow, Nat.reduceAdd, Nat.reduceLeDiff, Nat.reduceMul, Nat.reduceBEq, reduceCtorEq, g0, g1, wc_len, wc_get, hf]
      rw [set_same g1] at hK
      exact hK _ rfl rfl rfl rfl
  termination_by m => m

abbrev alM : Ctx := ⟨F.cuneiformlaw11_Alike, 108, [.tmp 4], none⟩

theorem al_rest (K : List AItem) (Q : AVal → AHeap → Prop) {B top : Nat} {f : Nat → Bool} {w : AVal} :
    ∀ (m i : Nat) (H : AHeap) (r : Regs), rget r 0 = w → rget r 3 = .ptr B 0 → rget r 5 = .ptr (B + 1) 0 → rget r 6 = .ptr (B + 2) 0 → 64 - i = m → i ≤ 64 → (∀ x, i ≤ x → x < 64 → f x = false) → H[B]? = some (.cells (wc top f) T.cuneiformref11_W) → H[B + 1]? = some (.cells [.int .i64 (i : Nat)] T.int) → H[B + 2]? = some (.cells [.bool true] T.bool) →
    (∀ r' H', H'.length = H.length → (∀ x, x ≠ B + 1 → H'[x]? = H[x]?) → rget r' 0 = w → rget r' 3 = .ptr B 0 → rget r' 6 = .ptr (B + 2) 0 → Run Try.prog alM K r' H' Q) →
    Rounds Try.prog alM cuneiformlaw11_Alike.b3 [.inBlock 4] K r H Q
  | m, i, H, r, j0, j3, j5, j6, h1, h2, h3, g0, g1, g2, hK => by
    have hB := (List.getElem?_eq_some_iff.1 g1).1
    have hB2 := (List.getElem?_eq_some_iff.1 g2).1
    refine loop_V 100 cuneiformlaw11_Alike.b3.eq_1 ?_
    by_cases hi : i < 64
    · have hfi := h3 i (by omega) hi
      simp (disch := first | omega | (simp only [List.length_append, List.length_cons, List.length_nil, List.length_set, List.length_map, List.length_take, List.length_drop]; omega)) only [stdh, goK_s2b, dgoK_s2b, isEff_s2b, isPure_s2b, goK_b2s, dgoK_b2s, isEff_b2s, isPure_b2s, evalOp_s2b, s2bR, goK_mark, dgoK_mark, isEff_mark, isPure_mark, evalOp_mark, markA_slc, markB, ↓reduceIte, Nat.reduceEqDiff, Int.reduceToNat, Int.reducePow, Nat.reduceAdd, Nat.reduceLeDiff, Nat.reduceMul, Nat.reduceBEq, reduceCtorEq, j0, j3, j5, j6, g0, g1, g2, wc_len, wc_get, hfi]
      have e2 : H.set (B + 2) (.cells [.bool true] T.bool) = H := set_same g2
      rw [e2]
      simp (disch := first | omega | (simp only [List.length_append, List.length_cons, List.length_nil, List.length_set, List.length_map, List.length_take, List.length_drop]; omega)) only [stdh, goK_s2b, dgoK_s2b, isEff_s2b, isPure_s2b, goK_b2s, dgoK_b2s, isEff_b2s, isPure_b2s, evalOp_s2b, s2bR, goK_mark, dgoK_mark, isEff_mark, isPure_mark, evalOp_mark, markA_slc, markB, ↓reduceIte, Nat.reduceEqDiff, Int.reduceToNat, Int.reducePow, Nat.reduceAdd, Nat.reduceLeDiff, Nat.reduceMul, Nat.reduceBEq, reduceCtorEq, j0, j3, j5, j6, g0, g1, g2, wc_len, wc_get, hfi]
      rw [show (i : Int) + 1 = ((i + 1 : Nat) : Int) by omega]
      refine al_rest K Q _ (i + 1) _ _ rfl rfl rfl rfl rfl (by omega) (fun x hx1 hx2 => h3 x (by omega) hx2) (by rw [List.getElem?_set_ne (by omega)]; exact g0) (by rw [List.getElem?_set_self hB]) (by rw [List.getElem?_set_ne (by omega)]; exact g2) ?_
      intro r' H' q1 q2 f0 f3 f6
      refine hK r' H' (by simpa using q1) (fun x hx => ?_) f0 f3 f6
      rw [q2 x hx, List.getElem?_set_ne (by omega)]
    · have : i = 64 := by omega
      subst this
      simp (disch := first | omega | (simp only [List.length_append, List.length_cons, List.length_nil, List.length_set, List.length_map, List.length_take, List.length_drop]; omega)) only [stdh, goK_s2b, dgoK_s2b, isEff_s2b, isPure_s2b, goK_b2s, dgoK_b2s, isEff_b2s, isPure_b2s, evalOp_s2b, s2bR, goK_mark, dgoK_mark, isEff_mark, isPure_mark, evalOp_mark, markA_slc, markB, ↓reduceIte, Nat.reduceEqDiff, Int.reduceToNat, Int.reducePow, Nat.reduceAdd, Nat.reduceLeDiff, Nat.reduceMul, Nat.reduceBEq, reduceCtorEq, j0, j3, j5, j6, g0, g1, g2]
      exact hK _ _ rfl (fun _ _ => rfl) rfl rfl rfl
  termination_by m => m

theorem lack_at {top bts x : Nat} (hx : x < 64) (hb : bts.testBit x = false) :
    (lackL top bts x).length < (lackL top bts 64).length ∧ (lackL top bts 64).reverse.getD ((lackL top bts 64).length - (lackL top bts x).length - 1) 0 = addN top (0 - (x : Int)) := by
  have e : ∀ j, lackJ bts j = filt (fun i => !bts.testBit i) j := fun _ => rfl
  obtain ⟨h1, h2⟩ := filt_at (p := fun i => !bts.testBit i) (j := x) (m := 64) hx (by simp [hb])
  unfold lackL
  rw [e, e]
  generalize filt (fun i => !bts.testBit i) 64 = L at *
  generalize filt (fun i => !bts.testBit i) x = M at *
  simp only [List.length_map]
  refine ⟨h1, ?_⟩
  rw [List.getD_eq_getElem?_getD, List.getElem?_reverse (by simp; omega), List.length_map, show L.length - 1 - (L.length - M.length - 1) = M.length by omega, List.getElem?_map]
  rw [List.getD_eq_getElem?_getD, List.getElem?_eq_getElem h1] at h2
  rw [List.getElem?_eq_getElem h1]
  simp at h2 ⊢
  rw [h2]

theorem lack_mono (top bts x : Nat) (hx : x ≤ 64) : (lackL top bts x).length ≤ (lackL top bts 64).length := by
  have e : ∀ j, lackJ bts j = filt (fun i => !bts.testBit i) j := fun _ => rfl
  obtain ⟨r, hr⟩ := filt_pre (fun i => !bts.testBit i) hx
  unfold lackL
  rw [e, e, hr]
  simp

theorem al_back (K : List AItem) (Q : AVal → AHeap → Prop) {B top bts : Nat} (ht : top < 4294967296) (H : AHeap) (g0 : H[B]? = some (.cells (wc top fun j => bts.testBit j) T.cuneiformref11_W)) (g2 : H[B + 2]? = some (.cells [.bool true] T.bool))
    (hK : ∀ r', rget r' 6 = .ptr (B + 2) 0 → rget r' 9 = nums .u32 false (lackL top bts 64).reverse → rget r' 10 = .int .i64 ((lackL top bts 64).length : Nat) → Run Try.prog alM K r' H Q) :
    ∀ (x : Nat), x ≤ 64 →
    Rounds Try.prog alM cuneiformlaw11_Alike.b5 [.inBlock 6] K [(3, .ptr B 0), (6, .ptr (B + 2) 0), (9, nums .u32 false (lackL top bts 64).reverse), (10, .int .i64 (((lackL top bts 64).length - (lackL top bts x).length : Nat) : Int)), (11, .int .i64 ((x : Int) - 1))] H Q
  | 0, h1 => by
    refine loop_V 100 cuneiformlaw11_Alike.b5.eq_1 ?_
    have e : (lackL top bts 0).length = 0 := rfl
    rw [e, Nat.sub_zero]
    simp (disch := first | omega | (simp only [List.length_append, List.length_cons, List.length_nil, List.length_set, List.length_map, List.length_take, List.length_drop]; omega)) only [stdh, goK_s2b, dgoK_s2b, isEff_s2b, isPure_s2b, goK_b2s, dgoK_b2s, isEff_b2s, isPure_b2s, evalOp_s2b, s2bR, goK_mark, dgoK_mark, isEff_mark, isPure_mark, evalOp_mark, markA_slc, markB, ↓reduceIte, Nat.reduceEqDiff, Int.reduceToNat, Int.reducePow, Nat.reduceAdd, Nat.reduceLeDiff, Nat.reduceMul, Nat.reduceBEq, reduceCtorEq]
    exact hK _ rfl rfl rfl
  | x + 1, h1 => by
    refine loop_V 100 cuneiformlaw11_Alike.b5.eq_1 ?_
    have hle : (lackL top bts 64).length ≤ 64 := by
      unfold lackL
      rw [List.length_map]
      have := lackJ_le bts 64
      omega
    have hs := lackL_succ top bts x
    have ex : ((x + 1 : Nat) : Int) - 1 = (x : Int) := by omega
    have hm := lack_mono top bts (x + 1) h1
    rw [ex]
    cases hb : bts.testBit x with
    | true =>
      rw [hb, if_pos rfl] at hs
      rw [hs]
      simp (disch := first | omega | (simp only [List.length_append, List.length_cons, List.length_nil, List.length_set, List.length_map, List.length_take, List.length_drop]; omega)) only [stdh, goK_s2b, dgoK_s2b, isEff_s2b, isPure_s2b, goK_b2s, dgoK_b2s, isEff_b2s, isPure_b2s, evalOp_s2b, s2bR, goK_mark, dgoK_mark, isEff_mark, isPure_mark, evalOp_mark, markA_slc, markB, ↓reduceIte, Nat.reduceEqDiff, Int.reduceToNat, Int.reducePow, Nat.reduceAdd, Nat.reduceLeDiff, Nat.reduceMul, Nat.reduceBEq, reduceCtorEq, g0, g2, wc_len, wc_get, hb]
      exact al_back K Q ht H g0 g2 hK x (by omega)
    | false =>
      rw [hb, if_neg (by simp)] at hs
      obtain ⟨a1, a2⟩ := lack_at (top := top) (bts := bts) (x := x) (by omega) hb
      have el : (lackL top bts (x + 1)).length = (lackL top bts x).length + 1 := by rw [hs]; simp
      rw [el, show (lackL top bts 64).length - ((lackL top bts x).length + 1) = (lackL top bts 64).length - (lackL top bts x).length - 1 by omega]
      have hkl : (lackL top bts 64).length - (lackL top bts x).length - 1 < (lackL top bts 64).reverse.length := by rw [List.length_reverse]; omega
      have hsl : slen (nums .u32 false (lackL top bts 64).reverse) = some (lackL top bts 64).length := by rw [slen_nums, List.length_reverse]
      have hld := load_nums (k := .u32) (t := false) (H := H) hkl
      rw [a2] at hld
      have hkk : (((lackL top bts 64).length - (lackL top bts x).length - 1 : Nat) : Int) + 1 = (((lackL top bts 64).length - (lackL top bts x).length : Nat) : Int) := by omega
      have hlt : (((lackL top bts 64).length - (lackL top bts x).length - 1 : Nat) : Int) < ((lackL top bts 64).length : Int) := by omega
      generalize hq : (lackL top bts 64).length - (lackL top bts x).length - 1 = q at *
      simp (disch := first | omega | (simp only [List.length_append, List.length_cons, List.length_nil, List.length_set, List.length_map, List.length_take, List.length_drop]; omega)) only [stdh, goK_s2b, dgoK_s2b, isEff_s2b, isPure_s2b, goK_b2s, dgoK_b2s, isEff_b2s, isPure_b2s, evalOp_s2b, s2bR, goK_mark, dgoK_mark, isEff_mark, isPure_mark, evalOp_mark, markA_slc, markB, ↓reduceIte, Nat.reduceEqDiff, Int.reduceToNat, Int.reducePow, Nat.reduceAdd, Nat.reduceLeDiff, Nat.reduceMul, Nat.reduceBEq, reduceCtorEq, g0, g2, wc_len, wc_get, wc_get0, hb, cuneiformlaw11_Alike.d4, hsl, hlt, hld]
      refine callD_fn (radd_ok _ _ _ ht (by omega) _ ?_)
      refine ⟨by simp (disch := first | omega | (simp only [List.length_append, List.length_cons, List.length_nil, List.length_set, List.length_map, List.length_take, List.length_drop]; omega)) only [stdh, goK_s2b, dgoK_s2b, isEff_s2b, isPure_s2b, goK_b2s, dgoK_b2s, isEff_b2s, isPure_b2s, evalOp_s2b, s2bR, goK_mark, dgoK_mark, isEff_mark, isPure_mark, evalOp_mark, markA_slc, markB, ↓reduceIte, Nat.reduceEqDiff, Int.reduceToNat, Int.reducePow, Nat.reduceAdd, Nat.reduceLeDiff, Nat.reduceMul, Nat.reduceBEq, reduceCtorEq, hsl, hld], ?_⟩
      refine runD_V 60 ?_
      simp (disch := first | omega | (simp only [List.length_append, List.length_cons, List.length_nil, List.length_set, List.length_map, List.length_take, List.length_drop]; omega)) only [stdh, goK_s2b, dgoK_s2b, isEff_s2b, isPure_s2b, goK_b2s, dgoK_b2s, isEff_b2s, isPure_b2s, evalOp_s2b, s2bR, goK_mark, dgoK_mark, isEff_mark, isPure_mark, evalOp_mark, markA_slc, markB, ↓reduceIte, Nat.reduceEqDiff, Int.reduceToNat, Int.reducePow, Nat.reduceAdd, Nat.reduceLeDiff, Nat.reduceMul, Nat.reduceBEq, reduceCtorEq, hsl, hld, g2]
      rw [set_same g2]
      simp (disch := first | omega | (simp only [List.length_append, List.length_cons, List.length_nil, List.length_set, List.length_map, List.length_take, List.length_drop]; omega)) only [stdh, goK_s2b, dgoK_s2b, isEff_s2b, isPure_s2b, goK_b2s, dgoK_b2s, isEff_b2s, isPure_b2s, evalOp_s2b, s2bR, goK_mark, dgoK_mark, isEff_mark, isPure_mark, evalOp_mark, markA_slc, markB, ↓reduceIte, Nat.reduceEqDiff, Int.reduceToNat, Int.reducePow, Nat.reduceAdd, Nat.reduceLeDiff, Nat.reduceMul, Nat.reduceBEq, reduceCtorEq, hkk]
      exact al_back K Q ht H g0 g2 hK x (by omega)

theorem alike_ok (H : AHeap) {p top bts : Nat} (hw : WinAt H p top bts) (Q : AVal → AHeap → Prop) (h : Q (.bool true) H) : FunOK Try.prog F.cuneiformlaw11_Alike [.ptr p 0, .agg (wc top fun j => bts.testBit j)] H Q := by
  have hp : p < H.length := (List.getElem?_eq_some_iff.1 hw.1).1
  refine fun_iced cuneiformlaw11_Alike_code fun _ => ?_
  refine fun_V 100 cuneiformlaw11_Alike_code rfl ?_
  simp (disch := first | omega | (simp only [List.length_append, List.length_cons, List.length_nil, List.length_set, List.length_map, List.length_take, List.length_drop]; omega)) only [stdh, goK_s2b, dgoK_s2b, isEff_s2b, isPure_s2b, goK_b2s, dgoK_b2s, isEff_b2s, isPure_b2s, evalOp_s2b, s2bR, goK_mark, dgoK_mark, isEff_mark, isPure_mark, evalOp_mark, markA_slc, markB, ↓reduceIte, Nat.reduceEqDiff, Int.reduceToNat, Int.reducePow, Nat.reduceAdd, Nat.reduceLeDiff, Nat.reduceMul, Nat.reduceBEq, reduceCtorEq, cuneiformlaw11_Alike, cuneiformlaw11_Alike.body, wc_len, wc_cellish, cuneiformlaw11_Alike.d0]
  have hw1 : ∀ L, WinAt (H ++ L) p top bts := fun L => ⟨(at_low hp).trans hw.1, hw.2⟩
  refine callD_fn (wtop_ok _ (hw1 _) _ ?_)
  refine ⟨by simp (disch := first | omega | (simp only [List.length_append, List.length_cons, List.length_nil, List.length_set, List.length_map, List.length_take, List.length_drop]; omega)) only [stdh, goK_s2b, dgoK_s2b, isEff_s2b, isPure_s2b, goK_b2s, dgoK_b2s, isEff_b2s, isPure_b2s, evalOp_s2b, s2bR, goK_mark, dgoK_mark, isEff_mark, isPure_mark, evalOp_mark, markA_slc, markB, ↓reduceIte, Nat.reduceEqDiff, Int.reduceToNat, Int.reducePow, Nat.reduceAdd, Nat.reduceLeDiff, Nat.reduceMul, Nat.reduceBEq, reduceCtorEq, wc_len, implies_true, Nat.zero_lt_succ, Nat.reduceLT], ?_⟩
  refine runD_V 60 ?_
  simp (disch := first | omega | (simp only [List.length_append, List.length_cons, List.length_nil, List.length_set, List.length_map, List.length_take, List.length_drop]; omega)) only [stdh, goK_s2b, dgoK_s2b, isEff_s2b, isPure_s2b, goK_b2s, dgoK_b2s, isEff_b2s, isPure_b2s, evalOp_s2b, s2bR, goK_mark, dgoK_mark, isEff_mark, isPure_mark, evalOp_mark, markA_slc, markB, ↓reduceIte, Nat.reduceEqDiff, Int.reduceToNat, Int.reducePow, Nat.reduceAdd, Nat.reduceLeDiff, Nat.reduceMul, Nat.reduceBEq, reduceCtorEq, wc_len, wc_get0]
  refine callD_fn (wbits_ok _ (hw1 _) _ ?_)
  refine ⟨by simp (disch := first | omega | (simp only [List.length_append, List.length_cons, List.length_nil, List.length_set, List.length_map, List.length_take, List.length_drop]; omega)) only [stdh, goK_s2b, dgoK_s2b, isEff_s2b, isPure_s2b, goK_b2s, dgoK_b2s, isEff_b2s, isPure_b2s, evalOp_s2b, s2bR, goK_mark, dgoK_mark, isEff_mark, isPure_mark, evalOp_mark, markA_slc, markB, ↓reduceIte, Nat.reduceEqDiff, Int.reduceToNat, Int.reducePow, Nat.reduceAdd, Nat.reduceLeDiff, Nat.reduceMul, Nat.reduceBEq, reduceCtorEq, wc_len, implies_true, Nat.zero_lt_succ, Nat.reduceLT], ?_⟩
  refine runD_V 60 ?_
  simp (disch := first | omega | (simp only [List.length_append, List.length_cons, List.length_nil, List.length_set, List.length_map, List.length_take, List.length_drop]; omega)) only [stdh, goK_s2b, dgoK_s2b, isEff_s2b, isPure_s2b, goK_b2s, dgoK_b2s, isEff_b2s, isPure_b2s, evalOp_s2b, s2bR, goK_mark, dgoK_mark, isEff_mark, isPure_mark, evalOp_mark, markA_slc, markB, ↓reduceIte, Nat.reduceEqDiff, Int.reduceToNat, Int.reducePow, Nat.reduceAdd, Nat.reduceLeDiff, Nat.reduceMul, Nat.reduceBEq, reduceCtorEq, wc_len, wc_take]
  refine callD_fn (rbits_ok _ hw.2.2 _ ?_)
  refine ⟨by simp (disch := first | omega | (simp only [List.length_append, List.length_cons, List.length_nil, List.length_set, List.length_map, List.length_take, List.length_drop]; omega)) only [stdh, goK_s2b, dgoK_s2b, isEff_s2b, isPure_s2b, goK_b2s, dgoK_b2s, isEff_b2s, isPure_b2s, evalOp_s2b, s2bR, goK_mark, dgoK_mark, isEff_mark, isPure_mark, evalOp_mark, markA_slc, markB, ↓reduceIte, Nat.reduceEqDiff, Int.reduceToNat, Int.reducePow, Nat.reduceAdd, Nat.reduceLeDiff, Nat.reduceMul, Nat.reduceBEq, reduceCtorEq, wc_len, implies_true, Nat.zero_lt_succ, Nat.reduceLT], ?_⟩
  refine runD_V 60 ?_
  simp (disch := first | omega | (simp only [List.length_append, List.length_cons, List.length_nil, List.length_set, List.length_map, List.length_take, List.length_drop]; omega)) only [stdh, goK_s2b, dgoK_s2b, isEff_s2b, isPure_s2b, goK_b2s, dgoK_b2s, isEff_b2s, isPure_b2s, evalOp_s2b, s2bR, goK_mark, dgoK_mark, isEff_mark, isPure_mark, evalOp_mark, markA_slc, markB, ↓reduceIte, Nat.reduceEqDiff, Int.reduceToNat, Int.reducePow, Nat.reduceAdd, Nat.reduceLeDiff, Nat.reduceMul, Nat.reduceBEq, reduceCtorEq]
  refine callK_fn (come_ok _ (hw1 _) _ ?_)
  refine runL_V 60 ?_
  simp (disch := first | omega | (simp only [List.length_append, List.length_cons, List.length_nil, List.length_set, List.length_map, List.length_take, List.length_drop]; omega)) only [stdh, goK_s2b, dgoK_s2b, isEff_s2b, isPure_s2b, goK_b2s, dgoK_b2s, isEff_b2s, isPure_b2s, evalOp_s2b, s2bR, goK_mark, dgoK_mark, isEff_mark, isPure_mark, evalOp_mark, markA_slc, markB, ↓reduceIte, Nat.reduceEqDiff, Int.reduceToNat, Int.reducePow, Nat.reduceAdd, Nat.reduceLeDiff, Nat.reduceMul, Nat.reduceBEq, reduceCtorEq, eqA]
  have g0 : (H ++ [ABlk.cells (wc top fun j => bts.testBit j) T.cuneiformref11_W, ABlk.cells [AVal.int IntKind.i64 0] T.int, ABlk.cells [AVal.bool true] T.bool])[H.length]? = some (.cells (wc top fun j => bts.testBit j) T.cuneiformref11_W) := at_0
  have g1 : (H ++ [ABlk.cells (wc top fun j => bts.testBit j) T.cuneiformref11_W, ABlk.cells [AVal.int IntKind.i64 0] T.int, ABlk.cells [AVal.bool true] T.bool])[H.length + 1]? = some (.cells [.int .i64 ((posn (fun j => bts.testBit j) 64 0 : Nat) : Int)] T.int) := at_k
  have g2 : (H ++ [ABlk.cells (wc top fun j => bts.testBit j) T.cuneiformref11_W, ABlk.cells [AVal.int IntKind.i64 0] T.int, ABlk.cells [AVal.bool true] T.bool])[H.length + 2]? = some (.cells [.bool true] T.bool) := at_k
  have hw2 := hw1 [ABlk.cells (wc top fun j => bts.testBit j) T.cuneiformref11_W, ABlk.cells [AVal.int IntKind.i64 0] T.int, ABlk.cells [AVal.bool true] T.bool]
  have hk2 := keeps_append H [ABlk.cells (wc top fun j => bts.testBit j) T.cuneiformref11_W, ABlk.cells [AVal.int IntKind.i64 0] T.int, ABlk.cells [AVal.bool true] T.bool]
  have hl2 : (H ++ [ABlk.cells (wc top fun j => bts.testBit j) T.cuneiformref11_W, ABlk.cells [AVal.int IntKind.i64 0] T.int, ABlk.cells [AVal.bool true] T.bool]).length = H.length + 3 := by simp
  clear hw1
  generalize H ++ [ABlk.cells (wc top fun j => bts.testBit j) T.cuneiformref11_W, ABlk.cells [AVal.int IntKind.i64 0] T.int, ABlk.cells [AVal.bool true] T.bool] = H2 at *
  refine range_varsW (g := F.window_Window_Come_1) (first := []) (captured := [cell (.ptr p 0)]) rfl (by intro n hn; cases hn) (item := comeItem top bts) (len := (comeJ bts 64).length) (fun j => rfl)
    [(H.length + 1, T.int, fun k => [.int .i64 ((posn (fun j => bts.testBit j) 64 k : Nat) : Int)]), (H.length + 2, T.bool, fun _ => [.bool true])] (fun _ => none) (varsN_cons g1 (varsN_cons g2 varsN_nil)) [p] (by
      intro m hm
      simp only [List.mem_singleton] at hm
      subst hm
      exact ⟨by omega, by simp; omega⟩) ?_ (fun H1 h1 h2 => come1_iter ⟨(h2 p (by omega)).trans hw2.1, hw.2⟩) ?_ (fun _ _ _ _ _ _ hh => by cases hh)
  · intro a' b' j H1 hj hst hl hkp hrec hv
    have q0 := (hkp H.length (by omega) (by simp) (by simp; omega)).trans g0
    have q1 : H1[H.length + 1]? = some (.cells [.int .i64 ((posn (fun j => bts.testBit j) 64 j : Nat) : Int)] T.int) := hv.get (c := H.length + 1) (T := T.int) (f := fun k => [.int .i64 ((posn (fun j => bts.testBit j) 64 k : Nat) : Int)]) (by simp)
    have q2 : H1[H.length + 2]? = some (.cells [.bool true] T.bool) := hv.get (c := H.length + 2) (T := T.bool) (f := fun _ => [.bool true]) (by simp)
    obtain ⟨m1, m2, m3⟩ := filt_at_mem (p := fun i => bts.testBit i) (m := 64) hj
    have hgap := fun x hx1 hx2 => filt_gap (p := fun i => bts.testBit i) (m := 64) (k := j) (i := x) hx1 (by omega) (fun _ => hx2) (by exact Nat.le_of_lt hj)
    rw [hl2] at hrec hl ⊢
    have hpos : posn (fun i => bts.testBit i) 64 (j + 1) = (comeJ bts 64).getD j 0 + 1 := by unfold posn; rw [if_neg (by omega)]; rfl
    have hit : comeItem top bts j = [.int .u32 (addN top (0 - (((comeJ bts 64).getD j 0 : Nat) : Int)) : Nat)] := rfl
    change (comeJ bts 64).getD j 0 < 64 at m1
    change (fun i => bts.testBit i) ((comeJ bts 64).getD j 0) = true at m2
    change posn (fun i => bts.testBit i) 64 j ≤ (comeJ bts 64).getD j 0 at m3
    replace hgap : ∀ x, posn (fun i => bts.testBit i) 64 j ≤ x → x < (comeJ bts 64).getD j 0 → (fun i => bts.testBit i) x = false := hgap
    rw [hit]
    generalize (comeJ bts 64).getD j 0 = cc at *
    generalize hpj : posn (fun i => bts.testBit i) 64 j = pj at *
    refine run_V0 60 ?_
    simp (disch := first | omega | (simp only [List.length_append, List.length_cons, List.length_nil, List.length_set, List.length_map, List.length_take, List.length_drop]; omega)) only [stdh, goK_s2b, dgoK_s2b, isEff_s2b, isPure_s2b, goK_b2s, dgoK_b2s, isEff_b2s, isPure_b2s, evalOp_s2b, s2bR, goK_mark, dgoK_mark, isEff_mark, isPure_mark, evalOp_mark, markA_slc, markB, ↓reduceIte, Nat.reduceEqDiff, Int.reduceToNat, Int.reducePow, Nat.reduceAdd, Nat.reduceLeDiff, Nat.reduceMul, Nat.reduceBEq, reduceCtorEq, cuneiformlaw11_Alike.a2, cuneiformlaw11_Alike.b2, hrec, q0, q1, q2, List.zip_cons_cons, List.zip_nil_left, List.reverse_cons, List.reverse_nil, List.getElem?_set_self, List.getElem?_set_ne, at_low]
    refine al_inner _ _ m1 m2 _ _ pj _ rfl m3 hgap (by rw [List.getElem?_set_ne (by omega)]; exact q0) (by rw [List.getElem?_set_ne (by omega)]; exact q1) ?_
    intro r' f3 f5 f6 f8
    refine run_V0 60 ?_
    simp (disch := first | omega | (simp only [List.length_append, List.length_cons, List.length_nil, List.length_set, List.length_map, List.length_take, List.length_drop]; omega)) only [stdh, goK_s2b, dgoK_s2b, isEff_s2b, isPure_s2b, goK_b2s, dgoK_b2s, isEff_b2s, isPure_b2s, evalOp_s2b, s2bR, goK_mark, dgoK_mark, isEff_mark, isPure_mark, evalOp_mark, markA_slc, markB, ↓reduceIte, Nat.reduceEqDiff, Int.reduceToNat, Int.reducePow, Nat.reduceAdd, Nat.reduceLeDiff, Nat.reduceMul, Nat.reduceBEq, reduceCtorEq, f3, f5, f6, f8, q0, q1, q2, wc_len, wc_get0, List.getElem?_set_self, List.getElem?_set_ne]
    refine callK_fn (radd_ok _ _ _ hw.2.1 (by omega) _ ?_)
    refine runL_V 60 ?_
    simp (disch := first | omega | (simp only [List.length_append, List.length_cons, List.length_nil, List.length_set, List.length_map, List.length_take, List.length_drop]; omega)) only [stdh, goK_s2b, dgoK_s2b, isEff_s2b, isPure_s2b, goK_b2s, dgoK_b2s, isEff_b2s, isPure_b2s, evalOp_s2b, s2bR, goK_mark, dgoK_mark, isEff_mark, isPure_mark, evalOp_mark, markA_slc, markB, ↓reduceIte, Nat.reduceEqDiff, Int.reduceToNat, Int.reducePow, Nat.reduceAdd, Nat.reduceLeDiff, Nat.reduceMul, Nat.reduceBEq, reduceCtorEq, f3, f5, f6, f8, q0, q1, q2, wc_len, wc_get0, List.getElem?_set_self, List.getElem?_set_ne]
    refine round_fin (n := H.length + 3) rfl (by simp (disch := first | omega | (simp only [List.length_append, List.length_cons, List.length_nil, List.length_set, List.length_map, List.length_take, List.length_drop]; omega)) only [List.getElem?_set_ne, List.getElem?_set_self, List.length_set, ne_eq, not_false_eq_true]; rfl) ?_
    refine varsNQ_mk rfl (by (first | omega | (simp only [List.length_append, List.length_cons, List.length_nil, List.length_set, List.length_map, List.length_take, List.length_drop]; omega))) (fun m m1 m2 m3 => ?_) ?_ ?_
    · simp only [List.map_cons, List.map_nil, List.mem_cons, List.not_mem_nil, or_false, not_or] at m3
      rw [List.getElem?_set_ne (by omega), List.getElem?_set_ne (by omega), List.getElem?_set_ne (by omega), List.getElem?_set_ne (by omega), List.getElem?_set_ne (by omega)]
    · refine varsN_cons ?_ (varsN_cons ?_ varsN_nil)
      · show _ = some (ABlk.cells [AVal.int .i64 ((posn (fun j => bts.testBit j) 64 (j + 1) : Nat) : Int)] T.int)
        rw [hpos]
        simp (disch := first | omega | (simp only [List.length_append, List.length_cons, List.length_nil, List.length_set, List.length_map, List.length_take, List.length_drop]; omega)) only [List.getElem?_set_ne, List.getElem?_set_self, List.length_set, ne_eq, not_false_eq_true]
        rfl
      · simp (disch := first | omega | (simp only [List.length_append, List.length_cons, List.length_nil, List.length_set, List.length_map, List.length_take, List.length_drop]; omega)) only [List.getElem?_set_ne, List.getElem?_set_self, List.length_set, ne_eq, not_false_eq_true]
    · simp (disch := first | omega | (simp only [List.length_append, List.length_cons, List.length_nil, List.length_set, List.length_map, List.length_take, List.length_drop]; omega)) only [List.getElem?_set_ne, List.getElem?_set_self, List.length_set, ne_eq, not_false_eq_true]
      rfl
  · intro H' hl hkp _ hv
    have q0 := (hkp H.length (by omega) (by simp)).trans g0
    have q1 : H'[H.length + 1]? = some (.cells [.int .i64 ((posn (fun j => bts.testBit j) 64 (comeJ bts 64).length : Nat) : Int)] T.int) := hv.get (c := H.length + 1) (T := T.int) (f := fun k => [.int .i64 ((posn (fun j => bts.testBit j) 64 k : Nat) : Int)]) (by simp)
    have q2 : H'[H.length + 2]? = some (.cells [.bool true] T.bool) := hv.get (c := H.length + 2) (T := T.bool) (f := fun _ => [.bool true]) (by simp)
    have hkk : Keeps H H' := ⟨by omega, fun m hm => (hkp m (by omega) (by simp; omega)).trans (hk2.2 m hm)⟩
    have hple : posn (fun j => bts.testBit j) 64 (comeJ bts 64).length ≤ 64 := by
      have hc0 : comeJ bts 64 = filt (fun i => bts.testBit i) 64 := rfl
      rw [hc0]
      unfold posn
      split
      · omega
      · have := (filt_at_mem (p := fun i => bts.testBit i) (m := 64) (k := (filt (fun i => bts.testBit i) 64).length - 1) (by omega)).1
        omega
    have hgap := fun x hx1 hx2 => filt_gap (p := fun i => bts.testBit i) (m := 64) (k := (comeJ bts 64).length) (i := x) hx1 hx2 (fun hh => by unfold comeJ at hh; omega) (by unfold comeJ; omega)
    refine run_V0 60 ?_
    simp (disch := first | omega | (simp only [List.length_append, List.length_cons, List.length_nil, List.length_set, List.length_map, List.length_take, List.length_drop]; omega)) only [stdh, goK_s2b, dgoK_s2b, isEff_s2b, isPure_s2b, goK_b2s, dgoK_b2s, isEff_b2s, isPure_b2s, evalOp_s2b, s2bR, goK_mark, dgoK_mark, isEff_mark, isPure_mark, evalOp_mark, markA_slc, markB, ↓reduceIte, Nat.reduceEqDiff, Int.reduceToNat, Int.reducePow, Nat.reduceAdd, Nat.reduceLeDiff, Nat.reduceMul, Nat.reduceBEq, reduceCtorEq]
    refine al_rest _ _ _ _ H' _ rfl rfl rfl rfl rfl hple hgap q0 q1 q2 ?_
    intro r' H3 e1 e2 f0 f3 f6
    have q0' := (e2 H.length (by omega)).trans q0
    have q2' := (e2 (H.length + 2) (by omega)).trans q2
    have hkk3 : Keeps H H3 := ⟨by omega, fun m hm => (e2 m (by omega)).trans (hkk.2 m hm)⟩
    have hw3 : WinAt H3 p top bts := ⟨(hkk3.2 p hp).trans hw.1, hw.2⟩
    refine run_V0 60 ?_
    simp (disch := first | omega | (simp only [List.length_append, List.length_cons, List.length_nil, List.length_set, List.length_map, List.length_take, List.length_drop]; omega)) only [stdh, goK_s2b, dgoK_s2b, isEff_s2b, isPure_s2b, goK_b2s, dgoK_b2s, isEff_b2s, isPure_b2s, evalOp_s2b, s2bR, goK_mark, dgoK_mark, isEff_mark, isPure_mark, evalOp_mark, markA_slc, markB, ↓reduceIte, Nat.reduceEqDiff, Int.reduceToNat, Int.reducePow, Nat.reduceAdd, Nat.reduceLeDiff, Nat.reduceMul, Nat.reduceBEq, reduceCtorEq, f0, f3, f6]
    refine callK_fn (missing_ok _ hw3 _ ?_)
    refine runL_V 60 ?_
    simp (disch := first | omega | (simp only [List.length_append, List.length_cons, List.length_nil, List.length_set, List.length_map, List.length_take, List.length_drop]; omega)) only [stdh, goK_s2b, dgoK_s2b, isEff_s2b, isPure_s2b, goK_b2s, dgoK_b2s, isEff_b2s, isPure_b2s, evalOp_s2b, s2bR, goK_mark, dgoK_mark, isEff_mark, isPure_mark, evalOp_mark, markA_slc, markB, ↓reduceIte, Nat.reduceEqDiff, Int.reduceToNat, Int.reducePow, Nat.reduceAdd, Nat.reduceLeDiff, Nat.reduceMul, Nat.reduceBEq, reduceCtorEq, f0, f3, f6]
    have hbk := al_back [AItem.code ((ACode.region
                [{ dst := some 101, op := AOp.load none (AOpd.tmp 6), guard := none },
                  { dst := some 102, op := AOp.mov (AOpd.tmp 101), guard := none },
                  { dst := some 103, op := AOp.mov (AOpd.tmp 10), guard := some (102, true) },
                  { dst := some 104, op := AOp.mov (AOpd.tmp 9), guard := some (102, true) },
                  { dst := some 105, op := AOp.len LKind.slice (AOpd.tmp 104), guard := some (102, true) },
                  { dst := some 106, op := AOp.bin BinOp.eql (AOpd.tmp 103) (AOpd.tmp 105), guard := some (102, true) },
                  { dst := some 107, op := AOp.pick (AOpd.tmp 102) (AOpd.tmp 106) (AOpd.const (AVal.bool false)), guard := none },
                  { dst := some 4, op := AOp.mov (AOpd.tmp 107), guard := none }] [4]).seq ACode.ret)] (IceQ H Q) hw.2.1 H3 q0' q2' ?_ 64 (by omega)
    · rw [Nat.sub_self] at hbk
      exact hbk
    · intro r2 k6 k9 k10
      refine run_V0 60 ?_
      have hsl : slen (nums .u32 false (lackL top bts 64).reverse) = some (lackL top bts 64).length := by rw [slen_nums, List.length_reverse]
      simp (disch := first | omega | (simp only [List.length_append, List.length_cons, List.length_nil, List.length_set, List.length_map, List.length_take, List.length_drop]; omega)) only [stdh, goK_s2b, dgoK_s2b, isEff_s2b, isPure_s2b, goK_b2s, dgoK_b2s, isEff_b2s, isPure_b2s, evalOp_s2b, s2bR, goK_mark, dgoK_mark, isEff_mark, isPure_mark, evalOp_mark, markA_slc, markB, ↓reduceIte, Nat.reduceEqDiff, Int.reduceToNat, Int.reducePow, Nat.reduceAdd, Nat.reduceLeDiff, Nat.reduceMul, Nat.reduceBEq, reduceCtorEq, k6, k9, k10, q2', hsl]
      exact ice_keeps hkk3 trivial h
end Go.Proofs.Ytiklfnjmadcgfaa
