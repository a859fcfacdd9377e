/-
  Lemmas on the way to the statements of this seat. By an AI agent. No person has read it.
-/
import Derived.Test.YtamcfgdnhgmkpaaTABB
import Derived.Test.YtamcfgdnhgmkpaaIT
import Derived.Test.YtamcfgdnhgmkpaaAm6
set_option linter.unusedSimpArgs false
set_option linter.unusedVariables false

namespace Go.Proofs.Ytamcfgdnhgmkpaa
open Go Go.Am
set_option linter.unusedSimpArgs false
set_option linter.unusedVariables false

theorem ice_tupagg {H H' : AHeap} {Q : AVal → AHeap → Prop} (l : List (AVal × AVal)) {e : AVal} (he : closed H.length e) (hk : Keeps H H') (hf : ∀ p ∈ l, Fin H H' p.1 p.2) (hq : Q (.tup [.agg (l.map (·.2)), e]) H) : IceQ H Q (.tup [.agg (l.map (·.1)), e]) H' := by
  have hf2 : ∀ p ∈ l ++ [(e, e)], Fin H H' p.1 p.2 := by
    intro p hp
    rw [List.mem_append, List.mem_singleton] at hp
    rcases hp with hp | rfl
    · exact hf p hp
    · exact Fin.same he
  refine ⟨hk, icesOf H.length (l ++ [(e, e)]), .tup [.agg (l.map (·.2)), e], ice_many hf2, ?_, hq⟩
  simp only [mv, mvs, mvs_map, List.map_map]
  refine Sees.tup ⟨by simp, fun i h1 h2 => ?_⟩
  rcases i with _ | _ | i
  · simp only [List.getElem_cons_zero]
    refine Sees.agg ⟨by simp, fun i h1 h2 => ?_⟩
    simp only [List.getElem_map, Function.comp]
    exact ice_fin1 hf2 (List.mem_append_left _ (List.getElem_mem (by simpa using h1)))
  · simp only [List.getElem_cons_zero, List.getElem_cons_succ]
    exact ice_fin1 hf2 (by simp)
  · simp at h2
    omega

theorem frs_all (fs : List Fr) : (fs.flatMap encFr).all AVal.cellish = true := by
  rw [List.all_eq_true]
  intro x hx
  obtain ⟨f, _, hf⟩ := List.mem_flatMap.1 hx
  simp only [encFr, List.mem_cons, List.not_mem_nil, or_false] at hf
  rcases hf with rfl | rfl | rfl | rfl | rfl | rfl <;> rfl

theorem frs_closeds (L : Nat) (fs : List Fr) : closeds L (fs.flatMap encFr) := by
  refine closeds_all fun x hx => ?_
  obtain ⟨f, _, hf⟩ := List.mem_flatMap.1 hx
  simp only [encFr, List.mem_cons, List.not_mem_nil, or_false] at hf
  rcases hf with rfl | rfl | rfl | rfl | rfl | rfl <;> first | trivial | exact closed_nums _ _ _
theorem frs_closed (L : Nat) (t : Bool) (fs : List Fr) : closed L (recs encFr t fs) := frs_closeds L fs

theorem frs_flat : ∀ (fs : List Fr), (fs.flatMap encFr).length = fs.length * 6
  | [] => rfl
  | f :: fs => by rw [List.flatMap_cons, List.length_append, frs_flat fs, encFr_len, List.length_cons]; omega

theorem app_el {H L : AHeap} {m n k : Nat} {cs ys : List AVal} {x : AVal} (hb : (H ++ L)[m]? = some (.vec cs T.cuneiformref08_F 6)) (hcs : cs.length = n * 6) (h1 : srcLen x = some k) (h2 : srcCells (H ++ L) x = some ys) (hy : ys.length = k * 6) (hl : n + k ≤ 10000) (hc : ys.all AVal.cellish = true) :
    ∃ P, appendA (H ++ L) T.cuneiformref08_F 6 64 (.slc m 0 n 6) x = some (P, .slc (H.length + L.length) 0 (n + k) 6, (H ++ L).set m .dead ++ [.vec (cs ++ ys) T.cuneiformref08_F 6]) ∧ P := by
  refine ⟨_, by simp only [appendA, h1, h2, hb, List.length_append]; rfl, ?_⟩
  exact ⟨hy, by omega, by omega, by omega, trivial, trivial, trivial, trivial, hcs, hc⟩

theorem encS_put {h : Hd} {fs : List Fr} (f : Fr) : [AVal.int .i64 h.v, .int .i64 h.k, .int .u32 h.s, .int .i64 h.i, .int .i64 h.c, .imm (fs.flatMap encFr ++ encFr f) (fs.length + 1) false] = encS h (fs ++ [f]) := by
  simp [encS, recs]

section
variable {h : Hd} {fs : List Fr}

theorem rnew_ok (H : AHeap) (h : Hd) (Q : AVal → AHeap → Prop) (hq : Q (.agg [.int .i64 h.v, .int .i64 h.k, .int .u32 h.s, .int .i64 0, .int .i64 h.c, .nils]) H) : FunOK Try.prog F.cuneiformref13_New [.agg (encHd h)] H Q := by
  refine fun_iced cuneiformref13_New_code fun _ => ?_
  refine fun_V 60 cuneiformref13_New_code rfl ?_
  simp (disch := first | omega | (simp only [lnx]; omega)) only [stdh, stdx, ↓reduceIte, seval, cuneiformref13_New, cuneiformref13_New.body, encHd]
  exact ice_none (by simp [closed, closeds]) hq

set_option maxRecDepth 10000 in
set_option maxHeartbeats 8000000 in
theorem rput_no (H : AHeap) (f : Fr) (hlen : fs.length ≤ 1000) (hfl : f.b.length ≤ 1000) (hsz : sizeFs fs ≤ 192) (he : putE h fs f ≠ 0) (Q : AVal → AHeap → Prop) (hq : Q (.tup [.agg (encS h fs), .int .i64 (putE h fs f : Nat)]) H) : FunOK Try.prog F.cuneiformref13_Put [.agg (encS h fs), .agg (encFr f)] H Q := by
  have hcl : ∀ e : Int, closed H.length (.tup [.agg (encS h fs), .int .i64 e]) := fun e => by simp [closed, closeds, encS, frs_closed]
  refine fun_iced cuneiformref13_Put_code fun _ => ?_
  refine fun_V 100 cuneiformref13_Put_code rfl ?_
  simp (disch := first | omega | (simp only [lnx]; omega)) only [stdh, stdx, ↓reduceIte, seval, cuneiformref13_Put, cuneiformref13_Put.body, encFr, encS]
  refine callK_fn (rmates_ok _ f.h h _ ?_)
  refine runL_V 100 ?_
  unfold putE at he hq
  by_cases h1 : mates f.h h = false
  · rw [if_pos h1] at hq
    simp (disch := first | omega | (simp only [lnx]; omega)) only [stdh, stdx, ↓reduceIte, seval, h1]
    exact ice_none (hcl _) hq
  rw [if_neg h1] at he hq
  have h1' : mates f.h h = true := by simpa using h1
  by_cases h2 : f.h.i < 0 ∨ h.c ≤ f.h.i
  · rw [if_pos h2] at hq
    by_cases h2a : f.h.i < 0
    · have d1 : decide (f.h.i < 0) = true := decide_eq_true h2a
      simp (disch := first | omega | (simp only [lnx]; omega)) only [stdh, stdx, ↓reduceIte, seval, h1', d1]
      exact ice_none (hcl _) hq
    · have d1 : decide (f.h.i < 0) = false := decide_eq_false h2a
      have d2 : decide (f.h.i ≥ h.c) = true := decide_eq_true (by omega)
      have d3 : decide (h.c ≤ f.h.i) = true := decide_eq_true (by omega)
      simp (disch := first | omega | (simp only [lnx]; omega)) only [stdh, stdx, ↓reduceIte, seval, h1', d1, d2, d3]
      exact ice_none (hcl _) hq
  rw [if_neg h2] at he hq
  have d1 : decide (f.h.i < 0) = false := decide_eq_false (by omega)
  have d2 : decide (h.c ≤ f.h.i) = false := decide_eq_false (by omega)
  by_cases h3 : f.b = []
  · rw [if_pos h3] at hq
    have d3 : decide ((f.b.length : Int) = 0) = true := decide_eq_true (by rw [h3]; rfl)
    simp (disch := first | omega | (simp only [lnx]; omega)) only [stdh, stdx, ↓reduceIte, seval, h1', d1, d2, d3]
    exact ice_none (hcl _) hq
  rw [if_neg h3] at he hq
  have h3' : 0 < f.b.length := List.length_pos_iff.2 h3
  have d3 : decide ((f.b.length : Int) = 0) = false := decide_eq_false (by omega)
  simp (disch := first | omega | (simp only [lnx]; omega)) only [stdh, stdx, ↓reduceIte, seval, h1', d1, d2, d3]
  refine callK_fn (rhas_ok _ hlen _ fun r hr => ?_)
  refine runL_V 100 ?_
  have e1 := hr.iff.1
  have e2 := hr.iff.2
  by_cases h4 : hasF fs f.h.i = true
  · rw [if_pos h4] at hq
    rw [h4] at e1 e2
    simp (disch := first | omega | (simp only [lnx]; omega)) only [stdh, stdx, ↓reduceIte, seval, e1, e2]
    exact ice_none (hcl _) hq
  rw [if_neg h4] at he hq
  have h4' : hasF fs f.h.i = false := by simpa using h4
  rw [h4'] at e1 e2
  simp (disch := first | omega | (simp only [lnx]; omega)) only [stdh, stdx, ↓reduceIte, seval, e1, e2, cuneiformref13_Put.d0]
  refine callD_fn (rsize_ok _ hlen (by omega) _ ?_)
  refine ⟨by simp (disch := first | omega | (simp only [lnx]; omega)) only [stdh, stdx, ↓reduceIte, seval], ?_⟩
  refine runD_V 60 ?_
  by_cases h5 : 192 < sizeFs fs + f.b.length
  · rw [if_pos h5] at hq
    have d4 : decide (((sizeFs fs : Nat) : Int) + (f.b.length : Nat) > 192) = true := decide_eq_true (by omega)
    have d5 : decide (192 < ((sizeFs fs : Nat) : Int) + (f.b.length : Nat)) = true := decide_eq_true (by omega)
    simp (disch := first | omega | (simp only [lnx]; omega)) only [stdh, stdx, ↓reduceIte, seval, d4, d5]
    exact ice_none (hcl _) hq
  · rw [if_neg h5] at he
    exact absurd rfl he

set_option maxRecDepth 10000 in
set_option maxHeartbeats 8000000 in
theorem rput_yes (H : AHeap) (f : Fr) (hlen : fs.length ≤ 1000) (hsz : sizeFs fs ≤ 192) (he : putE h fs f = 0) (Q : AVal → AHeap → Prop) (hq : Q (.tup [.agg (encS h (fs ++ [f])), .int .i64 0]) H) : FunOK Try.prog F.cuneiformref13_Put [.agg (encS h fs), .agg (encFr f)] H Q := by
  refine fun_iced cuneiformref13_Put_code fun _ => ?_
  refine fun_V 100 cuneiformref13_Put_code rfl ?_
  obtain ⟨h1, h2, h3, h4, h5, h6⟩ := putE_zero he
  have h3' : 0 < f.b.length := List.length_pos_iff.2 h4
  have d1 : decide (f.h.i < 0) = false := decide_eq_false (by omega)
  have d2 : decide (h.c ≤ f.h.i) = false := decide_eq_false (by omega)
  have d3 : decide ((f.b.length : Int) = 0) = false := decide_eq_false (by omega)
  have d5 : decide (192 < ((sizeFs fs : Nat) : Int) + (f.b.length : Nat)) = false := decide_eq_false (by omega)
  simp (disch := first | omega | (simp only [lnx]; omega)) only [stdh, stdx, ↓reduceIte, seval, cuneiformref13_Put, cuneiformref13_Put.body, encFr, encS]
  refine callK_fn (rmates_ok _ f.h h _ ?_)
  refine runL_V 100 ?_
  simp (disch := first | omega | (simp only [lnx]; omega)) only [stdh, stdx, ↓reduceIte, seval, h1, d1, d2, d3]
  refine callK_fn (rhas_ok _ hlen _ fun r hr => ?_)
  refine runL_V 100 ?_
  have e1 := hr.iff.1
  have e2 := hr.iff.2
  have h4' : hasF fs f.h.i = false := by simp [hasF, h5]
  rw [h4'] at e1 e2
  simp (disch := first | omega | (simp only [lnx]; omega)) only [stdh, stdx, ↓reduceIte, seval, e1, e2, cuneiformref13_Put.d0]
  refine callD_fn (rsize_ok _ hlen (by omega) _ ?_)
  refine ⟨by simp (disch := first | omega | (simp only [lnx]; omega)) only [stdh, stdx, ↓reduceIte, seval], ?_⟩
  refine runD_V 8 ?_
  simp (disch := first | omega | (simp only [lnx]; omega)) only [stdh, stdx, ↓reduceIte, seval, d5]
  have hsc : ∀ L, srcCells (H ++ L) (recs encFr false fs) = some (fs.flatMap encFr) := fun _ => rfl
  have hsf : ∀ L m, (H ++ L)[m]? = some (.vec (encFr f) T.cuneiformref08_F 6) → srcCells (H ++ L) (.slc m 0 1 6) = some (encFr f) := fun L m hm => by simp [srcCells, view, content, hm, encFr]
  have hfl : (fs.flatMap encFr).length = fs.length * 6 := frs_flat fs
  have hfa : (encFr f).all AVal.cellish = true := rfl
  have fin : ∀ (L : AHeap), L.length = 6 → IceQ H Q (.tup [.agg [.int .i64 h.v, .int .i64 h.k, .int .u32 h.s, .int .i64 h.i, .int .i64 h.c, .slc (H.length + 6) 0 (fs.length + 1) 6], .int .i64 0]) (H ++ (L ++ [.vec (fs.flatMap encFr ++ encFr f) T.cuneiformref08_F 6])) := by
    intro L hL
    refine ice_tupagg [(.int .i64 h.v, .int .i64 h.v), (.int .i64 h.k, .int .i64 h.k), (.int .u32 h.s, .int .u32 h.s), (.int .i64 h.i, .int .i64 h.i), (.int .i64 h.c, .int .i64 h.c), (.slc (H.length + 6) 0 (fs.length + 1) 6, .imm (fs.flatMap encFr ++ encFr f) (fs.length + 1) false)] trivial (keeps_append _ _) ?_ (by simp only [List.map_cons, List.map_nil]; rw [encS_put]; exact hq)
    intro q hq'
    simp only [List.mem_cons, List.not_mem_nil, or_false] at hq'
    rcases hq' with rfl | rfl | rfl | rfl | rfl | rfl
    · exact Fin.same trivial
    · exact Fin.same trivial
    · exact Fin.same trivial
    · exact Fin.same trivial
    · exact Fin.same trivial
    · refine Fin.own (w := 6) (el := T.cuneiformref08_F) ⟨?_, .inr ⟨H.length + 6, by omega, rfl, ?_⟩⟩ (closeds_append (frs_closeds _ _) ?_)
      · rw [List.length_append, hfl, encFr_len]; omega
      · rw [at_k, List.getElem?_append_right (by omega), hL]; rfl
      · simp [closeds, closed, encFr, closed_nums]
  refine ⟨?_, fun s hs => ?_⟩
  · obtain ⟨P1, a1, p1⟩ := app_el (H := H) (L := [.cells (encS h fs) T.cuneiformref13_S, .cells (encFr f) T.cuneiformref08_F, .cells [.int .i64 0, .int .i64 0, .int .u32 0, .int .i64 0, .int .i64 0, .nils] T.cuneiformref13_S, .vec [] T.cuneiformref08_F 6]) (m := H.length + 3) (n := 0) (cs := []) (x := recs encFr false fs) at_k rfl rfl (hsc _) hfl (by omega) (frs_all _)
    obtain ⟨P2, a2, p2⟩ := app_el (H := H) (L := [.cells (encS h fs) T.cuneiformref13_S, .cells (encFr f) T.cuneiformref08_F, .cells [.int .i64 0, .int .i64 0, .int .u32 0, .int .i64 0, .int .i64 0, .nils] T.cuneiformref13_S, .dead, .vec (fs.flatMap encFr) T.cuneiformref08_F 6, .vec (encFr f) T.cuneiformref08_F 6]) (m := H.length + 4) (n := fs.length) (cs := fs.flatMap encFr) (x := .slc (H.length + 5) 0 1 6) at_k hfl rfl (hsf _ _ at_k) rfl (by omega) hfa
    simp [set_k, encS, encFr] at a1 a2
    refine runD_V 60 ?_
    simp (disch := first | omega | (simp only [lnx]; omega)) only [stdh, stdx, ↓reduceIte, seval, cuneiformref13_Put.d1, a1, p1, a2, p2]
    exact fin [_, _, _, _, _, _] rfl
  · simp only [List.mem_cons, List.not_mem_nil, or_false] at hs
    rcases hs with rfl | rfl
    · obtain ⟨P1, a1, p1⟩ := app_el (H := H) (L := [.cells (encS h fs) T.cuneiformref13_S, .cells (encFr f) T.cuneiformref08_F, .cells [.int .i64 0, .int .i64 0, .int .u32 0, .int .i64 0, .int .i64 0, .nils] T.cuneiformref13_S, .vec [] T.cuneiformref08_F 6, .vec (encFr f) T.cuneiformref08_F 6]) (m := H.length + 3) (n := 0) (cs := []) (x := recs encFr false fs) at_k rfl rfl (hsc _) hfl (by omega) (frs_all _)
      obtain ⟨P2, a2, p2⟩ := app_el (H := H) (L := [.cells (encS h fs) T.cuneiformref13_S, .cells (encFr f) T.cuneiformref08_F, .cells [.int .i64 0, .int .i64 0, .int .u32 0, .int .i64 0, .int .i64 0, .nils] T.cuneiformref13_S, .dead, .vec (encFr f) T.cuneiformref08_F 6, .vec (fs.flatMap encFr) T.cuneiformref08_F 6]) (m := H.length + 5) (n := fs.length) (cs := fs.flatMap encFr) (x := .slc (H.length + 4) 0 1 6) at_k hfl rfl (hsf _ _ at_k) rfl (by omega) hfa
      simp [set_k, encS, encFr] at a1 a2
      refine runD_V 60 ?_
      simp (disch := first | omega | (simp only [lnx]; omega)) only [stdh, stdx, ↓reduceIte, seval, cuneiformref13_Put.d1, a1, p1, a2, p2]
      exact fin [_, _, _, _, _, _] rfl
    · obtain ⟨P1, a1, p1⟩ := app_el (H := H) (L := [.cells (encS h fs) T.cuneiformref13_S, .cells (encFr f) T.cuneiformref08_F, .cells [.int .i64 0, .int .i64 0, .int .u32 0, .int .i64 0, .int .i64 0, .nils] T.cuneiformref13_S, .vec (encFr f) T.cuneiformref08_F 6, .vec [] T.cuneiformref08_F 6]) (m := H.length + 4) (n := 0) (cs := []) (x := recs encFr false fs) at_k rfl rfl (hsc _) hfl (by omega) (frs_all _)
      obtain ⟨P2, a2, p2⟩ := app_el (H := H) (L := [.cells (encS h fs) T.cuneiformref13_S, .cells (encFr f) T.cuneiformref08_F, .cells [.int .i64 0, .int .i64 0, .int .u32 0, .int .i64 0, .int .i64 0, .nils] T.cuneiformref13_S, .vec (encFr f) T.cuneiformref08_F 6, .dead, .vec (fs.flatMap encFr) T.cuneiformref08_F 6]) (m := H.length + 5) (n := fs.length) (cs := fs.flatMap encFr) (x := .slc (H.length + 3) 0 1 6) at_k hfl rfl (hsf _ _ at_k) rfl (by omega) hfa
      simp [set_k, encS, encFr] at a1 a2
      refine runD_V 60 ?_
      simp (disch := first | omega | (simp only [lnx]; omega)) only [stdh, stdx, ↓reduceIte, seval, cuneiformref13_Put.d1, a1, p1, a2, p2]
      exact fin [_, _, _, _, _, _] rfl
end
end Go.Proofs.Ytamcfgdnhgmkpaa

namespace Go.Proofs.Ytamcfgdnhgmkpaa
open Go Go.Am
set_option linter.unusedSimpArgs false
set_option linter.unusedVariables false

theorem iterP_of {g : FuncId} {args : List AVal} {n : Nat} {item : Nat → List AVal} {len : Nat} {own : List Nat} {H G : AHeap} (ho : ∀ m ∈ own, m < H.length ∧ H[m]? = G[m]?) (h : Iter Try.prog g args n item len own H) : IterP Try.prog g args n item len own (fun _ _ m => G[m]?) H := by
  intro I hI fp hi hown
  refine (h I hI fp hi hown).mono ?_
  rintro av H' ⟨b, j, fp', h1, h2, h3, h4⟩
  exact ⟨b, j, fp', h1, fun m a b _ => h2 m a b, h3, h4, fun m hm => (h2 m (ho m hm).1 (hown m hm)).trans (ho m hm).2⟩

/-! Whether the two slots are alike. -/

def missP (L : List Nat) (j : Nat) : Nat := if j = 0 then 0 else L.getD (j - 1) 0 + 1
theorem miss_gap (fs : List Fr) : ∀ k : Nat, (∀ j, j < (missTo fs k).length → missP (missTo fs k) j ≤ (missTo fs k).getD j 0 ∧ (missTo fs k).getD j 0 < k ∧ hasF fs ((missTo fs k).getD j 0 : Nat) = false ∧ ∀ i, missP (missTo fs k) j ≤ i → i < (missTo fs k).getD j 0 → hasF fs (i : Nat) = true) ∧
    missP (missTo fs k) (missTo fs k).length ≤ k ∧ ∀ i, missP (missTo fs k) (missTo fs k).length ≤ i → i < k → hasF fs (i : Nat) = true
  | 0 => by simp [missTo, missP]
  | k + 1 => by
    obtain ⟨h1, h2, h3⟩ := miss_gap fs k
    rw [missTo]
    split
    · rename_i hk
      refine ⟨fun j hj => ?_, by omega, fun i a b => ?_⟩
      · obtain ⟨a, b, c, d⟩ := h1 j hj
        exact ⟨a, by omega, c, d⟩
      · by_cases hi : i = k
        · subst hi; exact hk
        · exact h3 i a (by omega)
    · rename_i hk
      have hp : ∀ j, j ≤ (missTo fs k).length → missP (missTo fs k ++ [k]) j = missP (missTo fs k) j := by
        intro j hj
        unfold missP
        split
        · rfl
        · simp only [List.getD_eq_getElem?_getD]
          rw [List.getElem?_append_left (by omega)]
      refine ⟨fun j hj => ?_, ?_, ?_⟩
      · simp only [List.length_append, List.length_cons, List.length_nil] at hj
        rw [hp j (by omega)]
        by_cases hjl : j = (missTo fs k).length
        · subst hjl
          rw [show (missTo fs k ++ [k]).getD (missTo fs k).length 0 = k by simp [List.getD_eq_getElem?_getD]]
          exact ⟨h2, by omega, by simpa using hk, h3⟩
        · rw [show (missTo fs k ++ [k]).getD j 0 = (missTo fs k).getD j 0 by simp only [List.getD_eq_getElem?_getD]; rw [List.getElem?_append_left (by omega)]]
          obtain ⟨a, b, c, d⟩ := h1 j (by omega)
          exact ⟨a, by omega, c, d⟩
      · simp [missP, List.getD_eq_getElem?_getD]
      · simp [missP, List.getD_eq_getElem?_getD]
        intro i a b
        omega

theorem fr_len {fs : List Fr} (h : ∀ f ∈ fs, f.b ≠ []) : fs.length ≤ sizeFs fs := by
  induction fs with
  | nil => exact Nat.zero_le _
  | cons f fs ih =>
    have h1 := ih fun g hg => h g (by simp [hg])
    have h2 := List.length_pos_iff.2 (h f (by simp))
    simp only [sizeFs, List.map_cons, List.sum_cons, List.length_cons] at *
    omega
theorem SlotW.len {h : Hd} {fs : List Fr} (hw : SlotW h fs) : fs.length ≤ 192 := Nat.le_trans (fr_len fun f hf => (hw.at' f hf).2.2) hw.size
theorem SlotW.count {h : Hd} {fs : List Fr} (hw : SlotW h fs) : ∃ k : Nat, h.c = (k : Nat) ∧ 0 < k ∧ k ≤ 255 := by
  have := hw.c
  unfold checkOf at this
  refine ⟨h.c.toNat, ?_⟩
  have hb : bads h 2 = false := by
    refine Classical.byContradiction fun hh => ?_
    rw [Bool.not_eq_false] at hh
    rw [hh] at this
    simp at this
    split at this <;> try split at this
    all_goals omega
  simp [bads] at hb
  omega

section
variable {H0 : AHeap} {h : Hd} {fs : List Fr} {n pm ci co : Nat}

theorem al_loop (hlen : fs.length ≤ 1000) {k x : Nat} (hc : h.c = (k : Nat)) (hkl : k ≤ 1000) (hx : x < k) (hno : hasF fs (x : Nat) = false) (v : AVal) (K : List AItem) (Q : AVal → AHeap → Prop)
    (hpm : pm ≠ ci) (hK : ∀ r H, H.length = H0.length → (∀ m, m ≠ ci → H[m]? = H0[m]?) → H[ci]? = some (.cells [.int .i64 (x : Nat)] T.int) → Run Try.prog ⟨F.cuneiformlaw13_Alike, 118, [], some n⟩ K ((3, AVal.ptr pm 0) :: (8, AVal.ptr ci 0) :: (9, AVal.ptr co 0) :: (11, v) :: r) H Q) :
    ∀ (z i : Nat) (H : AHeap), x - i = z → i ≤ x → (∀ m, i ≤ m → m < x → hasF fs (m : Nat) = true) → H.length = H0.length → (∀ m, m ≠ ci → H[m]? = H0[m]?) → H0[pm]? = some (.cells (encS h fs) T.cuneiformref13_S) → H[ci]? = some (.cells [.int .i64 (i : Nat)] T.int) →
    Rounds Try.prog ⟨F.cuneiformlaw13_Alike, 118, [], some n⟩ cuneiformlaw13_Alike.b1 [.inBlock 2] K [(3, .ptr pm 0), (8, .ptr ci 0), (9, .ptr co 0), (11, v)] H Q
  | z, i, H, h1, h2, hh, hl, hk, hp0, hi => by
    refine loop_V 100 cuneiformlaw13_Alike.b1.eq_1 ?_
    have hp := (hk pm hpm).trans hp0
    simp only [encS] at hp
    have d : decide ((i : Int) < h.c) = true := decide_eq_true (by omega)
    have hcast : (i : Int) + 1 = ((i + 1 : Nat) : Int) := by omega
    simp (disch := first | omega | (simp only [lnx]; omega)) only [stdh, stdx, ↓reduceIte, seval, hp, hi, d, encS]
    refine callK_fn (rhas_ok _ hlen _ fun r hr => ?_)
    refine runL_V 100 ?_
    have e1 := hr.iff.1
    have e2 := hr.iff.2
    by_cases hix : i < x
    · rw [hh i (Nat.le_refl _) hix] at e1 e2
      simp (disch := first | omega | (simp only [lnx]; omega)) only [stdh, stdx, ↓reduceIte, seval, hi, e1, e2]
      rw [hcast]
      have hil : ci < H.length := (List.getElem?_eq_some_iff.1 hi).1
      refine al_loop hlen hc hkl hx hno v K Q hpm hK _ (i + 1) _ rfl (by omega) (fun m a b => hh m (by omega) b) (by simpa using hl) (fun m hm => ?_) hp0 (List.getElem?_set_self hil)
      rw [List.getElem?_set_ne (fun e => hm e.symm)]
      exact hk m hm
    · have hix2 : i = x := by omega
      subst hix2
      rw [hno] at e1 e2
      simp (disch := first | omega | (simp only [lnx]; omega)) only [stdh, stdx, ↓reduceIte, seval, hi, e1, e2]
      exact hK [(85, .bool false)] H hl hk hi
  termination_by z => z

theorem al_tail (hlen : fs.length ≤ 1000) {k : Nat} (hc : h.c = (k : Nat)) (hkl : k ≤ 1000) (K : List AItem) (Q : AVal → AHeap → Prop)
    (hpm : pm ≠ ci) (hpo : pm ≠ co) (hio : ci ≠ co) (hK : ∀ r H, H.length = H0.length → (∀ m, m ≠ ci → m ≠ co → H[m]? = H0[m]?) → H[co]? = some (.cells [.bool true] T.bool) → Run Try.prog ⟨F.cuneiformlaw13_Alike, 118, [.tmp 4], none⟩ K ((3, AVal.ptr pm 0) :: (8, AVal.ptr ci 0) :: (9, AVal.ptr co 0) :: r) H Q) :
    ∀ (z i : Nat) (H : AHeap) (rs : Regs), rget rs 3 = .ptr pm 0 → rget rs 8 = .ptr ci 0 → rget rs 9 = .ptr co 0 → k - i = z → i ≤ k → (∀ m, i ≤ m → m < k → hasF fs (m : Nat) = true) → H.length = H0.length → (∀ m, m ≠ ci → m ≠ co → H[m]? = H0[m]?) → H0[pm]? = some (.cells (encS h fs) T.cuneiformref13_S) → H[ci]? = some (.cells [.int .i64 (i : Nat)] T.int) → H[co]? = some (.cells [.bool true] T.bool) →
    Rounds Try.prog ⟨F.cuneiformlaw13_Alike, 118, [.tmp 4], none⟩ cuneiformlaw13_Alike.b3 [.inBlock 4] K rs H Q
  | z, i, H, rs, r3, r8, r9, h1, h2, hh, hl, hk, hp0, hi, ho => by
    refine loop_V 100 cuneiformlaw13_Alike.b3.eq_1 ?_
    have hp := (hk pm hpm hpo).trans hp0
    simp only [encS] at hp
    have hcast : (i : Int) + 1 = ((i + 1 : Nat) : Int) := by omega
    by_cases hik : i < k
    · have d : decide ((i : Int) < h.c) = true := decide_eq_true (by omega)
      simp (disch := first | omega | (simp only [lnx]; omega)) only [stdh, stdx, ↓reduceIte, seval, r3, r8, r9, hp, hi, ho, d, encS]
      refine callK_fn (rhas_ok _ hlen _ fun r hr => ?_)
      refine runL_V 100 ?_
      have e1 := hr.iff.1
      have e2 := hr.iff.2
      rw [hh i (Nat.le_refl _) hik] at e1 e2
      have hil : ci < H.length := (List.getElem?_eq_some_iff.1 hi).1
      have hol : co < H.length := (List.getElem?_eq_some_iff.1 ho).1
      simp (disch := first | omega | (simp only [lnx]; omega)) only [stdh, stdx, ↓reduceIte, seval, hi, ho, e1, e2, List.getElem?_set_ne, List.getElem?_set_self]
      rw [hcast]
      refine al_tail hlen hc hkl K Q hpm hpo hio hK _ (i + 1) _ _ rfl rfl rfl rfl (by omega) (fun m a b => hh m (by omega) b) (by simpa using hl) (fun m hm hm2 => ?_) hp0 (List.getElem?_set_self (by simpa using hil)) ?_
      · rw [List.getElem?_set_ne (fun e => hm e.symm), List.getElem?_set_ne (fun e => hm2 e.symm)]
        exact hk m hm hm2
      · rw [List.getElem?_set_ne hio]
        exact List.getElem?_set_self hol
    · have d : decide ((i : Int) < h.c) = false := decide_eq_false (by omega)
      simp (disch := first | omega | (simp only [lnx]; omega)) only [stdh, stdx, ↓reduceIte, seval, r3, r8, r9, hp, hi, d]
      exact hK [(107, .bool false)] H hl hk ho
  termination_by z => z

end
section
variable {H : AHeap} {S M : Nat} {h : Hd} {fs : List Fr}

set_option maxRecDepth 10000 in
set_option maxHeartbeats 8000000 in
theorem alike_rest (hs : SlotS H S M h fs) (hw : SlotW h fs) {k : Nat} (hc : h.c = (k : Nat)) (hk : k ≤ 255) {Q : AVal → AHeap → Prop} (hq : Q (.bool true) H) :
    Run Try.prog ⟨F.cuneiformlaw13_Alike, 118, [.tmp 4], none⟩
    [.code (.range (.tmp 73) [74] cuneiformlaw13_Alike.a2 cuneiformlaw13_Alike.b2), .inBlock 0,
      .code (.seq (.block 4 (.loop cuneiformlaw13_Alike.b3)) (.seq (.region [⟨some 117, .load none (.tmp 9), none⟩, ⟨some 4, .mov (.tmp 117), none⟩] [4]) .ret))]
    [(3, .ptr H.length 0), (4, .bool false), (8, .ptr (H.length + 1) 0), (9, .ptr (H.length + 2) 0), (73, .fn F.slot_Slot_Missing_1 [] [cell (.ptr S 0)])]
    (H ++ [ABlk.cells [.int .i64 h.v, .int .i64 h.k, .int .u32 h.s, .int .i64 h.i, .int .i64 h.c, recs encFr false fs] T.cuneiformref13_S, .cells [.int .i64 0] T.int, .cells [.bool true] T.bool]) (IceQ H Q) := by
  have hlen := hw.len
  have hk2 : Keeps H (H ++ [ABlk.cells [.int .i64 h.v, .int .i64 h.k, .int .u32 h.s, .int .i64 h.i, .int .i64 h.c, recs encFr false fs] T.cuneiformref13_S, .cells [.int .i64 0] T.int, .cells [.bool true] T.bool]) := keeps_append _ _
  have hl2 : (H ++ [ABlk.cells [.int .i64 h.v, .int .i64 h.k, .int .u32 h.s, .int .i64 h.i, .int .i64 h.c, recs encFr false fs] T.cuneiformref13_S, .cells [.int .i64 0] T.int, .cells [.bool true] T.bool]).length = H.length + 3 := by simp
  have g0 : (H ++ [ABlk.cells [.int .i64 h.v, .int .i64 h.k, .int .u32 h.s, .int .i64 h.i, .int .i64 h.c, recs encFr false fs] T.cuneiformref13_S, .cells [.int .i64 0] T.int, .cells [.bool true] T.bool])[H.length]? = some (.cells (encS h fs) T.cuneiformref13_S) := at_0
  have g1 : (H ++ [ABlk.cells [.int .i64 h.v, .int .i64 h.k, .int .u32 h.s, .int .i64 h.i, .int .i64 h.c, recs encFr false fs] T.cuneiformref13_S, .cells [.int .i64 0] T.int, .cells [.bool true] T.bool])[H.length + 1]? = some (.cells [.int .i64 (missP (missTo fs k) 0 : Nat)] T.int) := at_k
  have g2 : (H ++ [ABlk.cells [.int .i64 h.v, .int .i64 h.k, .int .u32 h.s, .int .i64 h.i, .int .i64 h.c, recs encFr false fs] T.cuneiformref13_S, .cells [.int .i64 0] T.int, .cells [.bool true] T.bool])[H.length + 2]? = some (.cells [.bool true] T.bool) := at_k
  generalize (H ++ [ABlk.cells [.int .i64 h.v, .int .i64 h.k, .int .u32 h.s, .int .i64 h.i, .int .i64 h.c, recs encFr false fs] T.cuneiformref13_S, .cells [.int .i64 0] T.int, .cells [.bool true] T.bool]) = H2 at *
  have hs2 := hs.keep hk2
  have hSl := hs.lt.1
  have hMl := hs.lt.2
  obtain ⟨gap, gap2, gap3⟩ := miss_gap fs k
  refine range_varsP (g := F.slot_Slot_Missing_1) (first := []) (captured := [cell (.ptr S 0)]) rfl (by intro n hn; cases hn) (item := missItem fs k) (len := (missTo fs k).length) (fun j => rfl)
    [(H.length + 1, T.int, fun j => [.int .i64 (missP (missTo fs k) j : Nat)]), (H.length + 2, T.bool, fun _ => [.bool true])] (fun _ => none) (varsN_cons g1 (varsN_cons g2 varsN_nil)) [S, M] (fun _ _ m => H2[m]?) (by
      intro m hm
      simp only [List.mem_cons, List.not_mem_nil, or_false] at hm
      rcases hm with rfl | rfl
      · exact ⟨by omega, by simp; omega⟩
      · exact ⟨by omega, by simp; omega⟩) ?_ (fun H1 h1 h2 => iterP_of (by
        intro m hm
        simp only [List.mem_cons, List.not_mem_nil, or_false] at hm
        rcases hm with rfl | rfl
        · exact ⟨by omega, h2 _ (by omega)⟩
        · exact ⟨by omega, h2 _ (by omega)⟩) (miss_iter ⟨(h2 S (by omega)).trans hs2.s, (h2 M (by omega)).trans hs2.m⟩ hc (by omega))) ?_ (fun _ _ _ _ _ _ _ hh => by cases hh)
  · intro a' b' j H1 hj hst hl hkp hrec hv
    have q1 : H1[H.length + 1]? = some (.cells [.int .i64 (missP (missTo fs k) j : Nat)] T.int) := hv.get (c := H.length + 1) (T := T.int) (f := fun j => [.int .i64 (missP (missTo fs k) j : Nat)]) (by simp)
    have q2 : H1[H.length + 2]? = some (.cells [.bool true] T.bool) := hv.get (c := H.length + 2) (T := T.bool) (f := fun _ => [.bool true]) (by simp)
    have q0 := (hkp H.length (by omega) (by simp) (by simp; omega)).trans g0
    obtain ⟨e1, e2, e3, e4⟩ := gap j hj
    have e5 : missP (missTo fs k) (j + 1) = (missTo fs k).getD j 0 + 1 := by simp [missP]
    rw [hl2] at hrec hl ⊢
    have hit : missItem fs k j = [.int .i64 ((missTo fs k).getD j 0 : Nat)] := rfl
    rw [hit]
    generalize (missTo fs k).getD j 0 = x at *
    refine run_V0 60 ?_
    simp (disch := first | omega | (simp only [lnx]; omega)) only [stdh, stdx, ↓reduceIte, seval, cuneiformlaw13_Alike.a2, cuneiformlaw13_Alike.b2, hrec, List.zip_cons_cons, List.zip_nil_left, List.reverse_cons, List.reverse_nil]
    refine al_loop (by omega) hc (by omega) e2 e3 _ _ _ (by omega) ?_ _ (missP (missTo fs k) j) _ rfl e1 e4 rfl (fun _ _ => rfl) (by rw [List.getElem?_set_ne (by omega)]; exact q0) (by rw [List.getElem?_set_ne (by omega)]; exact q1)
    intro r G w1 w2 w3
    rw [List.length_set] at w1
    have p0 := (w2 H.length (by omega)).trans ((List.getElem?_set_ne (by omega)).trans q0)
    have p2 := (w2 (H.length + 2) (by omega)).trans ((List.getElem?_set_ne (by omega)).trans q2)
    have p3 := (w2 (H.length + 3) (by omega)).trans (List.getElem?_set_self (by omega))
    have p5 : ∀ m, m ≠ H.length + 3 → m ≠ H.length + 1 → G[m]? = H1[m]? := fun m m1 m2 => (w2 m m2).trans (List.getElem?_set_ne (fun e => m1 e.symm))
    clear w2
    have d : decide ((x : Int) < h.c) = true := decide_eq_true (by omega)
    have hcast : (x : Int) + 1 = ((x + 1 : Nat) : Int) := by omega
    simp only [encS] at p0
    refine run_V0 60 ?_
    simp (disch := first | omega | (simp only [lnx]; omega)) only [stdh, stdx, ↓reduceIte, seval, p0, p2, w3, d, List.getElem?_set_ne, List.getElem?_set_self]
    rw [hcast]
    refine round_fin (n := H.length + 3) rfl (by simp (disch := first | omega | (simp only [lnx]; omega)) only [List.getElem?_set_ne, List.getElem?_set_self, List.length_set, ne_eq, not_false_eq_true]; exact p3) ?_
    refine varsNQ_mk rfl (by (first | omega | (simp only [lnx]; omega))) (fun m m1 m2 m3 => ?_) ?_ ?_
    · simp only [List.map_cons, List.map_nil, List.mem_cons, List.not_mem_nil, or_false, not_or] at m3
      rw [List.getElem?_set_ne (by omega), List.getElem?_set_ne (by omega), List.getElem?_set_ne (by omega), p5 m m2 m3.1]
    · refine varsN_cons ?_ (varsN_cons ?_ varsN_nil)
      · rw [List.getElem?_set_ne (by omega), List.getElem?_set_self (by (first | omega | (simp only [lnx]; omega))), e5]
      · rw [List.getElem?_set_ne (by omega), List.getElem?_set_ne (by omega), List.getElem?_set_self (by (first | omega | (simp only [lnx]; omega)))]
    · rw [List.getElem?_set_self (by (first | omega | (simp only [lnx]; omega)))]
      rfl
  · intro H' hl hkp hcn _ hv
    have q1 : H'[H.length + 1]? = some (.cells [.int .i64 (missP (missTo fs k) (missTo fs k).length : Nat)] T.int) := hv.get (c := H.length + 1) (T := T.int) (f := fun j => [.int .i64 (missP (missTo fs k) j : Nat)]) (by simp)
    have q2 : H'[H.length + 2]? = some (.cells [.bool true] T.bool) := hv.get (c := H.length + 2) (T := T.bool) (f := fun _ => [.bool true]) (by simp)
    have q0 := (hkp H.length (by omega) (by simp) (by simp; omega)).trans g0
    have hkk : ∀ m, m < H.length → H'[m]? = H[m]? := fun m hm => by
      refine Eq.trans ?_ (hk2.2 m hm)
      by_cases hms : m = S
      · exact hcn m (by simp [hms])
      by_cases hmm : m = M
      · exact hcn m (by simp [hmm])
      exact hkp m (by omega) (by simp; omega) (by simp [hms, hmm])
    refine run_V0 60 ?_
    simp (disch := first | omega | (simp only [lnx]; omega)) only [stdh, stdx, ↓reduceIte, seval]
    refine al_tail (by omega) hc (by omega) _ _ (by omega) (by omega) (by omega) ?_ _ _ _ _ rfl rfl rfl rfl gap2 gap3 rfl (fun _ _ _ => rfl) q0 q1 q2
    intro r G w1 w2 w3
    refine run_V0 60 ?_
    simp (disch := first | omega | (simp only [lnx]; omega)) only [stdh, stdx, ↓reduceIte, seval, w3]
    refine ice_keeps ⟨by omega, fun m hm => ?_⟩ trivial hq
    rw [w2 m (by omega) (by omega), hkk m hm]

set_option maxRecDepth 10000 in
set_option maxHeartbeats 8000000 in
theorem alike_ok (hs : SlotS H S M h fs) (hw : SlotW h fs) (Q : AVal → AHeap → Prop) (hq : Q (.bool true) H) : FunOK Try.prog F.cuneiformlaw13_Alike [.ptr S 0, .agg (encS h fs)] H Q := by
  obtain ⟨k, hc, hk0, hk⟩ := hw.count
  have hlen := hw.len
  have hsz := hw.size
  refine fun_iced cuneiformlaw13_Alike_code fun _ => ?_
  refine fun_V 60 cuneiformlaw13_Alike_code rfl ?_
  simp (disch := first | omega | (simp only [lnx]; omega)) only [stdh, stdx, ↓reduceIte, seval, cuneiformlaw13_Alike, cuneiformlaw13_Alike.body, encS]
  have hs1 : SlotS (H ++ [.cells (encS h fs) T.cuneiformref13_S]) S M h fs := hs.keep (keeps_append _ _)
  simp only [encS] at hs1
  by_cases hfull : fs.length = k
  refine callK_fn (sbytes_yes hs1 hsz hc (by omega) hfull _ ?_)
  refine runL_V 60 ?_
  simp (disch := first | omega | (simp only [lnx]; omega)) only [stdh, stdx, ↓reduceIte, seval, encS]
  refine callK_fn (rfull_ok _ (by omega) (by omega) _ ?_)
  rw [decide_eq_true (by omega)]
  refine runL_V 60 ?_
  simp (disch := first | omega | (simp only [lnx]; omega)) only [stdh, stdx, ↓reduceIte, seval, cuneiformlaw13_Alike.d0]
  refine callD_fn (shead_ok hs1 _ ?_)
  refine ⟨by simp (disch := first | omega | (simp only [lnx]; omega)) only [stdh, stdx, ↓reduceIte, seval], ?_⟩
  refine runD_V 60 ?_
  simp (disch := first | omega | (simp only [lnx]; omega)) only [stdh, stdx, ↓reduceIte, seval, encHd, eqA]
  refine callD_fn (shave_ok hs1 _ ?_)
  refine ⟨by simp (disch := first | omega | (simp only [lnx]; omega)) only [stdh, stdx, ↓reduceIte, seval], ?_⟩
  refine runD_V 60 ?_
  simp (disch := first | omega | (simp only [lnx]; omega)) only [stdh, stdx, ↓reduceIte, seval, encS]
  refine callD_fn (ssize_ok hs1 _ ?_)
  refine ⟨by simp (disch := first | omega | (simp only [lnx]; omega)) only [stdh, stdx, ↓reduceIte, seval], ?_⟩
  refine runD_V 60 ?_
  simp (disch := first | omega | (simp only [lnx]; omega)) only [stdh, stdx, ↓reduceIte, seval, encS]
  refine callD_fn (rsize_ok _ (by omega) (by omega) _ ?_)
  refine ⟨by simp (disch := first | omega | (simp only [lnx]; omega)) only [stdh, stdx, ↓reduceIte, seval], ?_⟩
  refine runD_V 60 ?_
  simp (disch := first | omega | (simp only [lnx]; omega)) only [stdh, stdx, ↓reduceIte, seval]
  refine callD_fn (sfull_ok hs1 _ ?_)
  refine ⟨by simp (disch := first | omega | (simp only [lnx]; omega)) only [stdh, stdx, ↓reduceIte, seval], ?_⟩
  refine runD_V 60 ?_
  simp (disch := first | omega | (simp only [lnx]; omega)) only [stdh, stdx, ↓reduceIte, seval, show decide ((fs.length : Int) = h.c) = true from decide_eq_true (by omega), encS]
  refine callD_fn (rbytes_ok _ hc (by omega) (by omega) hsz _ ?_)
  refine ⟨by simp (disch := first | omega | (simp only [lnx]; omega)) only [stdh, stdx, ↓reduceIte, seval], ?_⟩
  refine runD_V 60 ?_
  simp (disch := first | omega | (simp only [lnx]; omega)) only [stdh, stdx, ↓reduceIte, seval]
  refine callD_fn (same_ok _ (nums_nats _ _ _ _) (nums_nats _ _ _ _) (by have := bytesTo_le fs k; omega) _ ?_)
  rw [decide_eq_true rfl]
  refine ⟨by simp (disch := first | omega | (simp only [lnx]; omega)) only [stdh, stdx, ↓reduceIte, seval], ?_⟩
  refine runD_V 60 ?_
  simp (disch := first | omega | (simp only [lnx]; omega)) only [stdh, stdx, ↓reduceIte, seval]
  rotate_left
  refine callK_fn (sbytes_no hs1 (by omega) _ ?_)
  refine runL_V 60 ?_
  simp (disch := first | omega | (simp only [lnx]; omega)) only [stdh, stdx, ↓reduceIte, seval, encS]
  refine callK_fn (rfull_ok _ (by omega) (by omega) _ ?_)
  rw [decide_eq_false (by omega)]
  refine runL_V 60 ?_
  simp (disch := first | omega | (simp only [lnx]; omega)) only [stdh, stdx, ↓reduceIte, seval, cuneiformlaw13_Alike.d0]
  refine callD_fn (shead_ok hs1 _ ?_)
  refine ⟨by simp (disch := first | omega | (simp only [lnx]; omega)) only [stdh, stdx, ↓reduceIte, seval], ?_⟩
  refine runD_V 60 ?_
  simp (disch := first | omega | (simp only [lnx]; omega)) only [stdh, stdx, ↓reduceIte, seval, encHd, eqA]
  refine callD_fn (shave_ok hs1 _ ?_)
  refine ⟨by simp (disch := first | omega | (simp only [lnx]; omega)) only [stdh, stdx, ↓reduceIte, seval], ?_⟩
  refine runD_V 60 ?_
  simp (disch := first | omega | (simp only [lnx]; omega)) only [stdh, stdx, ↓reduceIte, seval, encS]
  refine callD_fn (ssize_ok hs1 _ ?_)
  refine ⟨by simp (disch := first | omega | (simp only [lnx]; omega)) only [stdh, stdx, ↓reduceIte, seval], ?_⟩
  refine runD_V 60 ?_
  simp (disch := first | omega | (simp only [lnx]; omega)) only [stdh, stdx, ↓reduceIte, seval, encS]
  refine callD_fn (rsize_ok _ (by omega) (by omega) _ ?_)
  refine ⟨by simp (disch := first | omega | (simp only [lnx]; omega)) only [stdh, stdx, ↓reduceIte, seval], ?_⟩
  refine runD_V 60 ?_
  simp (disch := first | omega | (simp only [lnx]; omega)) only [stdh, stdx, ↓reduceIte, seval]
  refine callD_fn (sfull_ok hs1 _ ?_)
  refine ⟨by simp (disch := first | omega | (simp only [lnx]; omega)) only [stdh, stdx, ↓reduceIte, seval], ?_⟩
  refine runD_V 60 ?_
  simp (disch := first | omega | (simp only [lnx]; omega)) only [stdh, stdx, ↓reduceIte, seval, show decide ((fs.length : Int) = h.c) = false from decide_eq_false (by omega), encS]
  all_goals
    refine callK_fn (missing_ok (hs.keep (keeps_append _ _)) _ ?_)
    refine runL_V 60 ?_
    simp (disch := first | omega | (simp only [lnx]; omega)) only [stdh, stdx, ↓reduceIte, seval]
    exact alike_rest hs hw hc hk hq
end
end Go.Proofs.Ytamcfgdnhgmkpaa

namespace Go.Am
open Go

def shHead : Sh := .struct [.int .i64, .int .i64, .int .u32, .int .i64, .int .i64]
def shFrame : Sh := .struct [shHead, .slice (.int .u8)]

/-- A frame that is handed in. -/
theorem frame_fits {a : AVal} (h : FitsA shFrame a) : ∃ (v k s i c : Int) (bs : List Nat), Sees a (.agg [.int .i64 v, .int .i64 k, .int .u32 s, .int .i64 i, .int .i64 c, nums .u8 false bs]) ∧
    (Lit.int .i64 v).wf = true ∧ (Lit.int .i64 k).wf = true ∧ (Lit.int .u32 s).wf = true ∧ (Lit.int .i64 i).wf = true ∧ (Lit.int .i64 c).wf = true ∧ (∀ b ∈ bs, (Lit.int .u8 (b : Int)).wf = true) ∧ bs.length ≤ 9223372036854775807 := by
  obtain ⟨l, rfl, h⟩ := h
  obtain ⟨l1, l2, rfl, h1, h2⟩ := h
  obtain ⟨l3, l4, rfl, h3, h4⟩ := h2
  have h4' : l4 = [] := h4
  subst h4'
  obtain ⟨_, _, rfl, ⟨v, rfl, b1⟩, h1⟩ := h1
  obtain ⟨_, _, rfl, ⟨k, rfl, b2⟩, h1⟩ := h1
  obtain ⟨_, _, rfl, ⟨s, rfl, b3⟩, h1⟩ := h1
  obtain ⟨_, _, rfl, ⟨i, rfl, b4⟩, h1⟩ := h1
  obtain ⟨_, _, rfl, ⟨c, rfl, b5⟩, h1⟩ := h1
  have h1' : _ = ([] : List AVal) := h1
  subst h1'
  have h5 : ∃ x, l3 = [x] := by
    rcases h3 with rfl | ⟨gs, t, _, rfl, _⟩
    · exact ⟨_, rfl⟩
    · exact ⟨_, rfl⟩
  obtain ⟨x, rfl⟩ := h5
  obtain ⟨bs, q1, q2, q3⟩ := nums_fits (k := .u8) rfl (show FitsA (.slice (.int .u8)) x from h3)
  exact ⟨v, k, s, i, c, bs, Sees.agg (SeesL.cons (Sees.refl _) (SeesL.cons (Sees.refl _) (SeesL.cons (Sees.refl _) (SeesL.cons (Sees.refl _) (SeesL.cons (Sees.refl _) (SeesL.cons q1 SeesL.nil)))))), b1, b2, b3, b4, b5, q2, q3⟩
end Go.Am

namespace Go.Proofs.Ytamcfgdnhgmkpaa
open Go Go.Am
set_option linter.unusedSimpArgs false
set_option linter.unusedVariables false

theorem slice_one {s : Sh} {l : List AVal} (h : Fits (.slice s) l) : ∃ p : AVal, l = [p] ∧ Fits (.slice s) [p] := by
  rcases h with rfl | ⟨gs, t, hg, rfl, hl⟩
  · exact ⟨_, rfl, .inl rfl⟩
  · exact ⟨_, rfl, .inr ⟨gs, t, hg, rfl, hl⟩⟩

theorem fr_fits {g : List AVal} (h : Fits shFrame g) : ∃ x : Fr, SeesL g (encFr x) := by
  obtain ⟨l1, l2, rfl, h1, h2⟩ := h
  obtain ⟨l3, l4, rfl, h3, h4⟩ := h2
  have h4' : l4 = [] := h4
  subst h4'
  obtain ⟨_, _, rfl, ⟨v, rfl, b1⟩, h1⟩ := h1
  obtain ⟨_, _, rfl, ⟨k, rfl, b2⟩, h1⟩ := h1
  obtain ⟨_, _, rfl, ⟨s, rfl, b3⟩, h1⟩ := h1
  obtain ⟨_, _, rfl, ⟨i, rfl, b4⟩, h1⟩ := h1
  obtain ⟨_, _, rfl, ⟨c, rfl, b5⟩, h1⟩ := h1
  have h1' : _ = ([] : List AVal) := h1
  subst h1'
  obtain ⟨x, rfl, hx⟩ := slice_one h3
  obtain ⟨bs, q1, q2, q3⟩ := nums_fits (k := .u8) rfl (show FitsA (.slice (.int .u8)) x from hx)
  exact ⟨⟨⟨v, k, s, i, c⟩, bs⟩, SeesL.cons (Sees.refl _) (SeesL.cons (Sees.refl _) (SeesL.cons (Sees.refl _) (SeesL.cons (Sees.refl _) (SeesL.cons (Sees.refl _) (SeesL.cons q1 SeesL.nil)))))⟩

theorem frs_fits {a : AVal} (h : FitsA (.slice shFrame) a) : ∃ fs : List Fr, Sees a (recs encFr false fs) := by
  rcases h with h | ⟨gs, t, hg, h, hl⟩
  · cases h
    exact ⟨[], Sees.nils false⟩
  · cases h
    have : ∃ fs : List Fr, SeesL gs.flatten (fs.flatMap encFr) ∧ fs.length = gs.length := by
      clear hl
      induction gs with
      | nil => exact ⟨[], SeesL.nil, rfl⟩
      | cons g gs ih =>
        obtain ⟨fs, h1, h2⟩ := ih fun x hx => hg x (by simp [hx])
        obtain ⟨x, hs⟩ := fr_fits (hg g (by simp))
        refine ⟨x :: fs, ?_, by simp [h2]⟩
        rw [List.flatten_cons, List.flatMap_cons]; exact SeesL.append hs h1
    obtain ⟨fs, h1, h2⟩ := this
    refine ⟨fs, ?_⟩
    have : recs encFr false fs = .imm (fs.flatMap encFr) gs.length false := by simp [recs, h2]
    rw [this]
    exact (Sees.imm h1 _ _).trans (Sees.loose _ _ _)
set_option linter.unusedSimpArgs false
set_option linter.unusedVariables false

theorem rcheck_ok (H : AHeap) (h : Hd) (Q : AVal → AHeap → Prop) (hq : Q (.int .i64 (checkOf h : Nat)) H) : FunOK Try.prog F.cuneiformref07_Check [.agg (encHd h)] H Q := by
  refine fun_iced cuneiformref07_Check_code fun _ => ?_
  refine fun_V 150 cuneiformref07_Check_code rfl ?_
  have hce : (encHd h).all AVal.cellish = true := rfl
  have e0 : h.v = 1 ∨ h.v = 2 → bads h 0 = false := fun hh => by simp [bads]; omega
  have e1 : ¬ (h.k < 1 ∨ 5 < h.k) → bads h 1 = false := fun hh => by simp [bads]; omega
  have fin : ∀ n, checkOf h = n → ∀ L, IceQ H Q (.int .i64 (n : Nat)) (H ++ L) := fun n hn L => ice_none trivial (by rw [← hn]; exact hq)
  by_cases v1 : h.v = 1 ∨ h.v = 2
  · have b0 := e0 v1
    rcases v1 with v1 | v1
    all_goals
      by_cases k1 : h.k < 1 ∨ 5 < h.k
      · have b1 : bads h 1 = true := by simp [bads, k1]
        have hc : checkOf h = 9 := by simp [checkOf, b0, b1]
        by_cases k2 : h.k < 1
        · simp (disch := first | omega | (simp only [lnx]; omega)) only [stdh, stdx, ↓reduceIte, seval, cuneiformref07_Check, cuneiformref07_Check.body, encHd]
          exact fin 9 hc _
        · have k3 : 5 < h.k := by omega
          simp (disch := first | omega | (simp only [lnx]; omega)) only [stdh, stdx, ↓reduceIte, seval, cuneiformref07_Check, cuneiformref07_Check.body, encHd]
          exact fin 9 hc _
      · have b1 := e1 k1
        by_cases c1 : h.c < 1 ∨ 255 < h.c ∨ h.i < 0 ∨ h.c ≤ h.i
        · have b2 : bads h 2 = true := by simp [bads, c1]
          have hc : checkOf h = 3 := by simp [checkOf, b0, b1, b2]
          by_cases d1 : h.c < 1
          · simp (disch := first | omega | (simp only [lnx]; omega)) only [stdh, stdx, ↓reduceIte, seval, cuneiformref07_Check, cuneiformref07_Check.body, encHd]
            exact fin 3 hc _
          · by_cases d2 : 255 < h.c
            · simp (disch := first | omega | (simp only [lnx]; omega)) only [stdh, stdx, ↓reduceIte, seval, cuneiformref07_Check, cuneiformref07_Check.body, encHd]
              exact fin 3 hc _
            · by_cases d3 : h.i < 0
              · simp (disch := first | omega | (simp only [lnx]; omega)) only [stdh, stdx, ↓reduceIte, seval, cuneiformref07_Check, cuneiformref07_Check.body, encHd]
                exact fin 3 hc _
              · have d4 : h.c ≤ h.i := by omega
                simp (disch := first | omega | (simp only [lnx]; omega)) only [stdh, stdx, ↓reduceIte, seval, cuneiformref07_Check, cuneiformref07_Check.body, encHd]
                exact fin 3 hc _
        · have b2 : bads h 2 = false := by simp [bads]; omega
          have hc : checkOf h = 0 := by simp [checkOf, b0, b1, b2]
          simp (disch := first | omega | (simp only [lnx]; omega)) only [stdh, stdx, ↓reduceIte, seval, cuneiformref07_Check, cuneiformref07_Check.body, encHd]
          exact fin 0 hc _
  · have b0 : bads h 0 = true := by simp [bads]; omega
    have hc : checkOf h = 10 := by simp [checkOf, b0]
    simp (disch := first | omega | (simp only [lnx]; omega)) only [stdh, stdx, ↓reduceIte, seval, cuneiformref07_Check, cuneiformref07_Check.body, encHd]
    exact fin 10 hc _

theorem rnew2_ok (H : AHeap) (h : Hd) (Q : AVal → AHeap → Prop) (hq : Q (.agg (encS { h with i := 0 } [])) H) : FunOK Try.prog F.cuneiformref13_New [.agg (encHd h)] H Q := by
  refine fun_iced cuneiformref13_New_code fun _ => ?_
  refine fun_V 60 cuneiformref13_New_code rfl ?_
  simp (disch := first | omega | (simp only [lnx]; omega)) only [stdh, stdx, ↓reduceIte, seval, cuneiformref13_New, cuneiformref13_New.body, encHd]
  refine ⟨keeps_append _ _, [], .agg (encS { h with i := 0 } []), by simp, ?_, hq⟩
  simp only [mv, mvs]
  exact Sees.agg (SeesL.cons (Sees.refl _) (SeesL.cons (Sees.refl _) (SeesL.cons (Sees.refl _) (SeesL.cons (Sees.refl _) (SeesL.cons (Sees.refl _) (SeesL.cons (Sees.nils false) SeesL.nil))))))

theorem rput_ok {h : Hd} {fs : List Fr} (H : AHeap) (f : Fr) (hw : SlotW h fs) (hfl : f.b.length ≤ 1000) (Q : AVal → AHeap → Prop) (hq : Q (.tup [.agg (encS h (putFs h fs f)), .int .i64 (putE h fs f : Nat)]) H) : FunOK Try.prog F.cuneiformref13_Put [.agg (encS h fs), .agg (encFr f)] H Q := by
  have hlen := hw.len
  unfold putFs at hq
  split at hq
  · rename_i he
    rw [he] at hq
    exact rput_yes H f (by omega) hw.size he Q hq
  · rename_i he
    exact rput_no H f (by omega) hfl hw.size he Q hq
theorem sput_ok {H : AHeap} {S M : Nat} {h : Hd} {fs : List Fr} (hs : SlotS H S M h fs) (hw : SlotW h fs) (f : Fr) (hfl : f.b.length ≤ 1000) (Q : AVal → AHeap → Prop)
    (hq : ∀ H', H'.length = H.length → (∀ x, x ≠ S → x ≠ M → H'[x]? = H[x]?) → SlotS H' S M h (putFs h fs f) → Q (.int .i64 (putE h fs f : Nat)) H') : FunOK Try.prog F.slot_Slot_Put [.ptr S 0, .agg (encFr f)] H Q := by
  by_cases he : putE h fs f = 0
  · have hp : putFs h fs f = fs ++ [f] := by rw [putFs, if_pos he]
    rw [he, hp] at hq
    exact sput_yes hs f hw.size he Q hq
  · have hp : putFs h fs f = fs := by rw [putFs, if_neg he]
    rw [hp] at hq
    exact sput_no hs f hfl hw.size he Q (hq H rfl (fun _ _ _ => rfl) hs)
theorem cutFr_len (f : Fr) : (cutFr f).b.length ≤ 250 := by
  simp only [cutFr, List.length_take]; omega

end Go.Proofs.Ytamcfgdnhgmkpaa
