/-
  Lemmas on the way to the statements of this seat. By an AI agent. No person has read it.
-/
import Derived.Test.YtebhlclfiiffbaaREF
import Derived.Test.YtebhlclfiiffbaaITP

namespace Go.Proofs.Ytebhlclfiiffbaa
open Go Go.Am
set_option linter.unusedSimpArgs false
set_option linter.unusedVariables false

/-! ### Words -/

def wItem (ys : List Nat) (a s j : Nat) : List AVal := [.int .u32 (leval ((ys.drop (a + j * s)).take s) : Nat)]

abbrev wdC : Ctx := ⟨F.lens_Lens_Words_1, 31, [], none⟩

theorem words_loop {n p a s : Nat} {ys : List Nat} (hb : ∀ b ∈ ys, b < 256) (hlen : ys.length ≤ 1000000) (hs : s = 1 ∨ s = 2 ∨ s = 4) (ha : a ≤ ys.length) {I : Bool → Nat → List Nat → AHeap → Prop} (hI : Fed Try.prog n (wItem ys a s) ((ys.length - a) / s) I) (Q : AVal → AHeap → Prop) {H0 : AHeap} {fp0 : List Nat} (hp0 : p < H0.length) (hpf : p ∉ fp0)
    (K : List AItem)
    (hQ : ∀ b j fp H r, H0.length ≤ H.length → (∀ m, m < H0.length → m ∉ fp0 → m ≠ p → H[m]? = H0[m]?) → (b = true → j = (ys.length - a) / s) → I b j fp H → H[p]? = some (lensB ys (a + j * s) 0) → Run Try.prog wdC K r H Q) :
    ∀ (m j : Nat) (H : AHeap) (fp : List Nat) (r : Regs), rget r 0 = .yld n → rget r 1 = cell (.int .i64 (s : Nat)) → rget r 2 = cell (.ptr p 0) → (ys.length - a) / s - j = m → j ≤ (ys.length - a) / s → H0.length ≤ H.length → (∀ x ∈ fp, x ∈ fp0 ∨ H0.length ≤ x) → (∀ m, m < H0.length → m ∉ fp0 → m ≠ p → H[m]? = H0[m]?) → H[p]? = some (lensB ys (a + j * s) 0) → I true j fp H →
    Rounds Try.prog wdC lens_Lens_Words_1.b1 [.inBlock 0] K r H Q := by
  intro m
  induction m using Nat.strongRecOn with
  | _ m ih =>
    intro j H fp r j0 j1 j2 h1 h2 hle hfeet hkept hp hi
    have hjs : (ys.length - a) / s * s ≤ ys.length - a := Nat.div_mul_le_self _ _
    have hjs2 : j * s ≤ (ys.length - a) / s * s := Nat.mul_le_mul_right _ h2
    have hpl : p < H.length := by omega
    have hpfp : p ∉ fp := fun hh => by
      rcases hfeet p hh with h | h
      · exact hpf h
      · omega
    refine loop_V 100 lens_Lens_Words_1.b1.eq_1 ?_
    have hcond : ∀ X : Prop, (s = 1 ∨ s = 2 ∨ s = 4 → X) → X := fun X h => h hs
    have hsz : s ≤ 4 := by omega
    by_cases hend : ys.length - (a + j * s) < s
    · have hj : j = (ys.length - a) / s := by
        refine Nat.le_antisymm h2 ?_
        refine Classical.byContradiction fun hc => ?_
        have : (j + 1) * s ≤ (ys.length - a) / s * s := Nat.mul_le_mul_right _ (by omega)
        rw [Nat.add_mul, Nat.one_mul] at this
        omega
      have hlt : ((ys.length - (a + j * s) : Nat) : Int) < (s : Nat) := by omega
      rcases hs with rfl | rfl | rfl
      all_goals
        simp (disch := first | omega | (simp only [List.length_append, List.length_cons, List.length_nil, List.length_set, List.length_map, List.length_take, List.length_drop]; omega)) only [stdh, goK_s2b, dgoK_s2b, isEff_s2b, isPure_s2b, goK_b2s, dgoK_b2s, isEff_b2s, isPure_b2s, evalOp_s2b, s2bR, goK_mark, dgoK_mark, isEff_mark, isPure_mark, evalOp_mark, markA_slc, markB, ↓reduceIte, Nat.reduceEqDiff, Int.reduceToNat, Int.reducePow, Nat.reduceAdd, Nat.reduceLeDiff, Nat.reduceMul, Nat.reduceBEq, reduceCtorEq, lens_Lens_Words_1.d0, j0, j1, j2]
        refine callD_fn (err_ok _ hp _ ?_)
        refine ⟨by simp (disch := first | omega | (simp only [List.length_append, List.length_cons, List.length_nil, List.length_set, List.length_map, List.length_take, List.length_drop]; omega)) only [stdh, goK_s2b, dgoK_s2b, isEff_s2b, isPure_s2b, goK_b2s, dgoK_b2s, isEff_b2s, isPure_b2s, evalOp_s2b, s2bR, goK_mark, dgoK_mark, isEff_mark, isPure_mark, evalOp_mark, markA_slc, markB, ↓reduceIte, Nat.reduceEqDiff, Int.reduceToNat, Int.reducePow, Nat.reduceAdd, Nat.reduceLeDiff, Nat.reduceMul, Nat.reduceBEq, reduceCtorEq], ?_⟩
        refine runD_V 60 ?_
        simp (disch := first | omega | (simp only [List.length_append, List.length_cons, List.length_nil, List.length_set, List.length_map, List.length_take, List.length_drop]; omega)) only [stdh, goK_s2b, dgoK_s2b, isEff_s2b, isPure_s2b, goK_b2s, dgoK_b2s, isEff_b2s, isPure_b2s, evalOp_s2b, s2bR, goK_mark, dgoK_mark, isEff_mark, isPure_mark, evalOp_mark, markA_slc, markB, ↓reduceIte, Nat.reduceEqDiff, Int.reduceToNat, Int.reducePow, Nat.reduceAdd, Nat.reduceLeDiff, Nat.reduceMul, Nat.reduceBEq, reduceCtorEq]
        refine callD_fn (leftn_ok _ hp (by omega) hlen _ ?_)
        refine ⟨by simp (disch := first | omega | (simp only [List.length_append, List.length_cons, List.length_nil, List.length_set, List.length_map, List.length_take, List.length_drop]; omega)) only [stdh, goK_s2b, dgoK_s2b, isEff_s2b, isPure_s2b, goK_b2s, dgoK_b2s, isEff_b2s, isPure_b2s, evalOp_s2b, s2bR, goK_mark, dgoK_mark, isEff_mark, isPure_mark, evalOp_mark, markA_slc, markB, ↓reduceIte, Nat.reduceEqDiff, Int.reduceToNat, Int.reducePow, Nat.reduceAdd, Nat.reduceLeDiff, Nat.reduceMul, Nat.reduceBEq, reduceCtorEq], ?_⟩
        refine runD_V 60 ?_
        simp (disch := first | omega | (simp only [List.length_append, List.length_cons, List.length_nil, List.length_set, List.length_map, List.length_take, List.length_drop]; omega)) only [stdh, goK_s2b, dgoK_s2b, isEff_s2b, isPure_s2b, goK_b2s, dgoK_b2s, isEff_b2s, isPure_b2s, evalOp_s2b, s2bR, goK_mark, dgoK_mark, isEff_mark, isPure_mark, evalOp_mark, markA_slc, markB, ↓reduceIte, Nat.reduceEqDiff, Int.reduceToNat, Int.reducePow, Nat.reduceAdd, Nat.reduceLeDiff, Nat.reduceMul, Nat.reduceBEq, reduceCtorEq, hlt]
        exact hQ true j fp H _ hle hkept (fun _ => hj) hi hp
    · have hj : j < (ys.length - a) / s := by
        refine Classical.byContradiction fun hc => ?_
        have hje : j = (ys.length - a) / s := by omega
        have hd := Nat.div_add_mod (ys.length - a) s
        have hm := Nat.mod_lt (ys.length - a) (show 0 < s by omega)
        rw [Nat.mul_comm s, ← hje] at hd
        omega
      have hjs3 : (j + 1) * s ≤ (ys.length - a) / s * s := Nat.mul_le_mul_right _ hj
      have hjs4 : (j + 1) * s = j * s + s := by rw [Nat.add_mul, Nat.one_mul]
      have hlt : ¬ ((ys.length - (a + j * s) : Nat) : Int) < (s : Nat) := by omega
      have hR : lensR 0 ys (a + j * s) 0 (wordSpec s) = (leval ((ys.drop (a + j * s)).take s), a + (j + 1) * s, 0) := by
        rw [hjs4, ← Nat.add_assoc]
        exact lensR_ok (by unfold wordSpec; rw [if_neg (by rw [List.length_drop]; omega)])
      have hstep : ∀ H2 : AHeap, H.length ≤ H2.length → (∀ m, m ≠ p → m < H.length → H2[m]? = H[m]?) → _ := fun H2 hl2 hk2 => hI.step j fp H2 hj ((hI.foot true j).stable _ _ _ hi hl2 fun m hm => hk2 m (by rintro rfl; exact hpfp hm) ((hI.foot true j).lt _ _ hi m hm))
      have hset : (H.set p (lensB ys (a + (j + 1) * s) 0))[p]? = some (lensB ys (a + (j + 1) * s) 0) := List.getElem?_set_self hpl
      have hstep2 := hstep (H.set p (lensB ys (a + (j + 1) * s) 0)) (by simp) (fun m hm _ => by rw [List.getElem?_set_ne (fun e => hm e.symm)])
      simp only [wItem] at hstep2
      have hko : ∀ m, m < H0.length → m ∉ fp0 → m ≠ p → (H.set p (lensB ys (a + (j + 1) * s) 0))[m]? = H0[m]? := fun m a b c => by
        rw [List.getElem?_set_ne (fun e => c e.symm)]; exact hkept m a b c
      have hll : (H.set p (lensB ys (a + (j + 1) * s) 0)).length = H.length := by simp
      have hw := lword_ok (s := s) H hsz hp (by omega) hb hlen
      rw [hR] at hw
      dsimp only at hw
      generalize H.set p (lensB ys (a + (j + 1) * s) 0) = HB at *
      have hafter : ∀ (av : AVal) (H' : AHeap), (∃ fp', Touches fp HB fp' H' ∧ ((av = .bool true ∧ I true (j + 1) fp' H') ∨ (av = .bool false ∧ I false (j + 1) fp' H'))) → ∃ fp', H0.length ≤ H'.length ∧ (∀ x ∈ fp', x ∈ fp0 ∨ H0.length ≤ x) ∧ (∀ m, m < H0.length → m ∉ fp0 → m ≠ p → H'[m]? = H0[m]?) ∧ H'[p]? = some (lensB ys (a + (j + 1) * s) 0) ∧ ((av = .bool true ∧ I true (j + 1) fp' H') ∨ (av = .bool false ∧ I false (j + 1) fp' H')) := by
        rintro av H' ⟨fp', ht, hh⟩
        have hle2 := ht.le
        refine ⟨fp', by omega, ?_, ?_, ?_, hh⟩
        · intro x hx
          rcases ht.feet x hx with h | h
          · exact hfeet x h
          · exact .inr (by omega)
        · intro m m1 m2 m3
          have : m ∉ fp := fun hm => by
            rcases hfeet m hm with h | h
            · exact m2 h
            · omega
          rw [ht.kept m (by omega) this, hko m m1 m2 m3]
        · rw [ht.kept p (by omega) hpfp]; exact hset
      rcases hs with rfl | rfl | rfl
      all_goals
        try rw [Nat.mul_one] at hstep2
        simp (disch := first | omega | (simp only [List.length_append, List.length_cons, List.length_nil, List.length_set, List.length_map, List.length_take, List.length_drop]; omega)) only [stdh, goK_s2b, dgoK_s2b, isEff_s2b, isPure_s2b, goK_b2s, dgoK_b2s, isEff_b2s, isPure_b2s, evalOp_s2b, s2bR, goK_mark, dgoK_mark, isEff_mark, isPure_mark, evalOp_mark, markA_slc, markB, ↓reduceIte, Nat.reduceEqDiff, Int.reduceToNat, Int.reducePow, Nat.reduceAdd, Nat.reduceLeDiff, Nat.reduceMul, Nat.reduceBEq, reduceCtorEq, lens_Lens_Words_1.d0, j0, j1, j2]
        refine callD_fn (err_ok _ hp _ ?_)
        refine ⟨by simp (disch := first | omega | (simp only [List.length_append, List.length_cons, List.length_nil, List.length_set, List.length_map, List.length_take, List.length_drop]; omega)) only [stdh, goK_s2b, dgoK_s2b, isEff_s2b, isPure_s2b, goK_b2s, dgoK_b2s, isEff_b2s, isPure_b2s, evalOp_s2b, s2bR, goK_mark, dgoK_mark, isEff_mark, isPure_mark, evalOp_mark, markA_slc, markB, ↓reduceIte, Nat.reduceEqDiff, Int.reduceToNat, Int.reducePow, Nat.reduceAdd, Nat.reduceLeDiff, Nat.reduceMul, Nat.reduceBEq, reduceCtorEq], ?_⟩
        refine runD_V 60 ?_
        simp (disch := first | omega | (simp only [List.length_append, List.length_cons, List.length_nil, List.length_set, List.length_map, List.length_take, List.length_drop]; omega)) only [stdh, goK_s2b, dgoK_s2b, isEff_s2b, isPure_s2b, goK_b2s, dgoK_b2s, isEff_b2s, isPure_b2s, evalOp_s2b, s2bR, goK_mark, dgoK_mark, isEff_mark, isPure_mark, evalOp_mark, markA_slc, markB, ↓reduceIte, Nat.reduceEqDiff, Int.reduceToNat, Int.reducePow, Nat.reduceAdd, Nat.reduceLeDiff, Nat.reduceMul, Nat.reduceBEq, reduceCtorEq]
        refine callD_fn (leftn_ok _ hp (by omega) hlen _ ?_)
        refine ⟨by simp (disch := first | omega | (simp only [List.length_append, List.length_cons, List.length_nil, List.length_set, List.length_map, List.length_take, List.length_drop]; omega)) only [stdh, goK_s2b, dgoK_s2b, isEff_s2b, isPure_s2b, goK_b2s, dgoK_b2s, isEff_b2s, isPure_b2s, evalOp_s2b, s2bR, goK_mark, dgoK_mark, isEff_mark, isPure_mark, evalOp_mark, markA_slc, markB, ↓reduceIte, Nat.reduceEqDiff, Int.reduceToNat, Int.reducePow, Nat.reduceAdd, Nat.reduceLeDiff, Nat.reduceMul, Nat.reduceBEq, reduceCtorEq], ?_⟩
        refine runD_V 60 ?_
        simp (disch := first | omega | (simp only [List.length_append, List.length_cons, List.length_nil, List.length_set, List.length_map, List.length_take, List.length_drop]; omega)) only [stdh, goK_s2b, dgoK_s2b, isEff_s2b, isPure_s2b, goK_b2s, dgoK_b2s, isEff_b2s, isPure_b2s, evalOp_s2b, s2bR, goK_mark, dgoK_mark, isEff_mark, isPure_mark, evalOp_mark, markA_slc, markB, ↓reduceIte, Nat.reduceEqDiff, Int.reduceToNat, Int.reducePow, Nat.reduceAdd, Nat.reduceLeDiff, Nat.reduceMul, Nat.reduceBEq, reduceCtorEq, hlt]
        refine callD_fn (hw _ ?_)
        refine ⟨by simp (disch := first | omega | (simp only [List.length_append, List.length_cons, List.length_nil, List.length_set, List.length_map, List.length_take, List.length_drop]; omega)) only [stdh, goK_s2b, dgoK_s2b, isEff_s2b, isPure_s2b, goK_b2s, dgoK_b2s, isEff_b2s, isPure_b2s, evalOp_s2b, s2bR, goK_mark, dgoK_mark, isEff_mark, isPure_mark, evalOp_mark, markA_slc, markB, ↓reduceIte, Nat.reduceEqDiff, Int.reduceToNat, Int.reducePow, Nat.reduceAdd, Nat.reduceLeDiff, Nat.reduceMul, Nat.reduceBEq, reduceCtorEq], ?_⟩
        refine runD_V 60 ?_
        simp (disch := first | omega | (simp only [List.length_append, List.length_cons, List.length_nil, List.length_set, List.length_map, List.length_take, List.length_drop]; omega)) only [stdh, goK_s2b, dgoK_s2b, isEff_s2b, isPure_s2b, goK_b2s, dgoK_b2s, isEff_b2s, isPure_b2s, evalOp_s2b, s2bR, goK_mark, dgoK_mark, isEff_mark, isPure_mark, evalOp_mark, markA_slc, markB, ↓reduceIte, Nat.reduceEqDiff, Int.reduceToNat, Int.reducePow, Nat.reduceAdd, Nat.reduceLeDiff, Nat.reduceMul, Nat.reduceBEq, reduceCtorEq]
        refine CallV.mono hstep2 fun av H' hh => ?_
        obtain ⟨fp', q1, q2, q3, q4, hh⟩ := hafter av H' hh
        refine ⟨by simp (disch := first | omega | (simp only [List.length_append, List.length_cons, List.length_nil, List.length_set, List.length_map, List.length_take, List.length_drop]; omega)) only [stdh, goK_s2b, dgoK_s2b, isEff_s2b, isPure_s2b, goK_b2s, dgoK_b2s, isEff_b2s, isPure_b2s, evalOp_s2b, s2bR, goK_mark, dgoK_mark, isEff_mark, isPure_mark, evalOp_mark, markA_slc, markB, ↓reduceIte, Nat.reduceEqDiff, Int.reduceToNat, Int.reducePow, Nat.reduceAdd, Nat.reduceLeDiff, Nat.reduceMul, Nat.reduceBEq, reduceCtorEq], ?_⟩
        refine runD_V 60 ?_
        rcases hh with ⟨rfl, hi'⟩ | ⟨rfl, hi'⟩
        · simp (disch := first | omega | (simp only [List.length_append, List.length_cons, List.length_nil, List.length_set, List.length_map, List.length_take, List.length_drop]; omega)) only [stdh, goK_s2b, dgoK_s2b, isEff_s2b, isPure_s2b, goK_b2s, dgoK_b2s, isEff_b2s, isPure_b2s, evalOp_s2b, s2bR, goK_mark, dgoK_mark, isEff_mark, isPure_mark, evalOp_mark, markA_slc, markB, ↓reduceIte, Nat.reduceEqDiff, Int.reduceToNat, Int.reducePow, Nat.reduceAdd, Nat.reduceLeDiff, Nat.reduceMul, Nat.reduceBEq, reduceCtorEq]
          exact ih ((ys.length - a) / _ - (j + 1)) (by omega) (j + 1) H' fp' _ rfl rfl rfl rfl (by omega) q1 q2 q3 q4 hi'
        · simp (disch := first | omega | (simp only [List.length_append, List.length_cons, List.length_nil, List.length_set, List.length_map, List.length_take, List.length_drop]; omega)) only [stdh, goK_s2b, dgoK_s2b, isEff_s2b, isPure_s2b, goK_b2s, dgoK_b2s, isEff_b2s, isPure_b2s, evalOp_s2b, s2bR, goK_mark, dgoK_mark, isEff_mark, isPure_mark, evalOp_mark, markA_slc, markB, ↓reduceIte, Nat.reduceEqDiff, Int.reduceToNat, Int.reducePow, Nat.reduceAdd, Nat.reduceLeDiff, Nat.reduceMul, Nat.reduceBEq, reduceCtorEq]
          exact hQ false (j + 1) fp' H' _ q1 q3 (fun hh => by cases hh) hi' q4

/-- How many words there are; what is read of them. -/
def wCount (ys : List Nat) (a e : Nat) (z : Int) : Nat := if e = 0 ∧ (z = 1 ∨ z = 2 ∨ z = 4) then (ys.length - a) / z.toNat else 0

theorem words1_iter {H : AHeap} {n p a e : Nat} {ys : List Nat} {z : Int} (hb : ∀ b ∈ ys, b < 256) (hlen : ys.length ≤ 1000000) (ha : a ≤ ys.length) (hp : H[p]? = some (lensB ys a e)) :
    IterP Try.prog F.lens_Lens_Words_1 [.yld n, cell (.int .i64 z), cell (.ptr p 0)] n (wItem ys a z.toNat) (wCount ys a e z) [p] (fun _ j _ => some (lensB ys (a + j * z.toNat) e)) H := by
  intro I hI fp hi hown
  have hpl : p < H.length := (List.getElem?_eq_some_iff.1 hp).1
  have hpf := hown p (by simp)
  refine fun_V 100 lens_Lens_Words_1_code rfl ?_
  simp (disch := first | omega | (simp only [List.length_append, List.length_cons, List.length_nil, List.length_set, List.length_map, List.length_take, List.length_drop]; omega)) only [stdh, goK_s2b, dgoK_s2b, isEff_s2b, isPure_s2b, goK_b2s, dgoK_b2s, isEff_b2s, isPure_b2s, evalOp_s2b, s2bR, goK_mark, dgoK_mark, isEff_mark, isPure_mark, evalOp_mark, markA_slc, markB, ↓reduceIte, Nat.reduceEqDiff, Int.reduceToNat, Int.reducePow, Nat.reduceAdd, Nat.reduceLeDiff, Nat.reduceMul, Nat.reduceBEq, reduceCtorEq, lens_Lens_Words_1, lens_Lens_Words_1.body]
  by_cases hz : z = 1 ∨ z = 2 ∨ z = 4
  · obtain ⟨s, rfl⟩ := Int.eq_ofNat_of_zero_le (show 0 ≤ z by omega)
    have hs : s = 1 ∨ s = 2 ∨ s = 4 := by omega
    simp only [Int.toNat_natCast] at hI hi ⊢
    by_cases he : e = 0
    · subst he
      have hc : wCount ys a 0 (s : Nat) = (ys.length - a) / s := by unfold wCount; rw [if_pos ⟨rfl, hz⟩, Int.toNat_natCast]
      rw [hc] at hI ⊢
      refine words_loop hb hlen hs ha hI _ hpl hpf _ ?_ _ 0 H fp _ rfl rfl rfl rfl (by omega) (Nat.le_refl _) (fun x hx => .inl hx) (fun _ _ _ _ => rfl) (by rw [hp]; simp) hi
      intro b j fp' H' r q1 q2 q3 q4 q5
      refine run_V0 60 ?_
      simp (disch := first | omega | (simp only [List.length_append, List.length_cons, List.length_nil, List.length_set, List.length_map, List.length_take, List.length_drop]; omega)) only [stdh, goK_s2b, dgoK_s2b, isEff_s2b, isPure_s2b, goK_b2s, dgoK_b2s, isEff_b2s, isPure_b2s, evalOp_s2b, s2bR, goK_mark, dgoK_mark, isEff_mark, isPure_mark, evalOp_mark, markA_slc, markB, ↓reduceIte, Nat.reduceEqDiff, Int.reduceToNat, Int.reducePow, Nat.reduceAdd, Nat.reduceLeDiff, Nat.reduceMul, Nat.reduceBEq, reduceCtorEq]
      refine run_fin rfl rfl trivial ?_
      exact ⟨b, j, fp', q1, fun m m1 m2 m3 => q2 m m1 m2 (by simpa using m3), q3, q4, fun m hm => by simp only [List.mem_singleton] at hm; subst hm; exact q5⟩
    · have hc : wCount ys a e (s : Nat) = 0 := by unfold wCount; rw [if_neg (fun h => he h.1)]
      rw [hc] at hI ⊢
      have he' : ¬ ((e : Nat) : Int) = 0 := by omega
      have hfin : ∃ b j fp', H.length ≤ H.length ∧ (∀ m, m < H.length → m ∉ fp → m ∉ [p] → H[m]? = H[m]?) ∧ (b = true → j = 0) ∧ I b j fp' H ∧ ∀ m ∈ [p], H[m]? = some (lensB ys (a + j * s) e) :=
        ⟨true, 0, fp, Nat.le_refl _, fun _ _ _ _ => rfl, fun _ => rfl, hi, fun m hm => by simp only [List.mem_singleton] at hm; subst hm; rw [hp]; simp⟩
      refine loop_V 100 lens_Lens_Words_1.b1.eq_1 ?_
      rcases hs with rfl | rfl | rfl
      all_goals
        simp (disch := first | omega | (simp only [List.length_append, List.length_cons, List.length_nil, List.length_set, List.length_map, List.length_take, List.length_drop]; omega)) only [stdh, goK_s2b, dgoK_s2b, isEff_s2b, isPure_s2b, goK_b2s, dgoK_b2s, isEff_b2s, isPure_b2s, evalOp_s2b, s2bR, goK_mark, dgoK_mark, isEff_mark, isPure_mark, evalOp_mark, markA_slc, markB, ↓reduceIte, Nat.reduceEqDiff, Int.reduceToNat, Int.reducePow, Nat.reduceAdd, Nat.reduceLeDiff, Nat.reduceMul, Nat.reduceBEq, reduceCtorEq, lens_Lens_Words_1.d0]
        refine callD_fn (err_ok _ hp _ ?_)
        refine ⟨by simp (disch := first | omega | (simp only [List.length_append, List.length_cons, List.length_nil, List.length_set, List.length_map, List.length_take, List.length_drop]; omega)) only [stdh, goK_s2b, dgoK_s2b, isEff_s2b, isPure_s2b, goK_b2s, dgoK_b2s, isEff_b2s, isPure_b2s, evalOp_s2b, s2bR, goK_mark, dgoK_mark, isEff_mark, isPure_mark, evalOp_mark, markA_slc, markB, ↓reduceIte, Nat.reduceEqDiff, Int.reduceToNat, Int.reducePow, Nat.reduceAdd, Nat.reduceLeDiff, Nat.reduceMul, Nat.reduceBEq, reduceCtorEq], ?_⟩
        refine runD_V 60 ?_
        simp (disch := first | omega | (simp only [List.length_append, List.length_cons, List.length_nil, List.length_set, List.length_map, List.length_take, List.length_drop]; omega)) only [stdh, goK_s2b, dgoK_s2b, isEff_s2b, isPure_s2b, goK_b2s, dgoK_b2s, isEff_b2s, isPure_b2s, evalOp_s2b, s2bR, goK_mark, dgoK_mark, isEff_mark, isPure_mark, evalOp_mark, markA_slc, markB, ↓reduceIte, Nat.reduceEqDiff, Int.reduceToNat, Int.reducePow, Nat.reduceAdd, Nat.reduceLeDiff, Nat.reduceMul, Nat.reduceBEq, reduceCtorEq, he']
        refine run_V0 20 ?_
        simp (disch := first | omega | (simp only [List.length_append, List.length_cons, List.length_nil, List.length_set, List.length_map, List.length_take, List.length_drop]; omega)) only [stdh, goK_s2b, dgoK_s2b, isEff_s2b, isPure_s2b, goK_b2s, dgoK_b2s, isEff_b2s, isPure_b2s, evalOp_s2b, s2bR, goK_mark, dgoK_mark, isEff_mark, isPure_mark, evalOp_mark, markA_slc, markB, ↓reduceIte, Nat.reduceEqDiff, Int.reduceToNat, Int.reducePow, Nat.reduceAdd, Nat.reduceLeDiff, Nat.reduceMul, Nat.reduceBEq, reduceCtorEq]
        refine run_fin rfl rfl trivial ?_
        first | exact hfin | simpa using hfin
  · have hc : wCount ys a e z = 0 := by unfold wCount; rw [if_neg (fun h => hz h.2)]
    rw [hc] at hI ⊢
    have h1 : ¬ z = 1 := fun h => hz (.inl h)
    have h2 : ¬ z = 2 := fun h => hz (.inr (.inl h))
    have h4 : ¬ z = 4 := fun h => hz (.inr (.inr h))
    refine loop_V 100 lens_Lens_Words_1.b1.eq_1 ?_
    simp (disch := first | omega | (simp only [List.length_append, List.length_cons, List.length_nil, List.length_set, List.length_map, List.length_take, List.length_drop]; omega)) only [stdh, goK_s2b, dgoK_s2b, isEff_s2b, isPure_s2b, goK_b2s, dgoK_b2s, isEff_b2s, isPure_b2s, evalOp_s2b, s2bR, goK_mark, dgoK_mark, isEff_mark, isPure_mark, evalOp_mark, markA_slc, markB, ↓reduceIte, Nat.reduceEqDiff, Int.reduceToNat, Int.reducePow, Nat.reduceAdd, Nat.reduceLeDiff, Nat.reduceMul, Nat.reduceBEq, reduceCtorEq, h1, h2, h4]
    refine run_V0 20 ?_
    simp (disch := first | omega | (simp only [List.length_append, List.length_cons, List.length_nil, List.length_set, List.length_map, List.length_take, List.length_drop]; omega)) only [stdh, goK_s2b, dgoK_s2b, isEff_s2b, isPure_s2b, goK_b2s, dgoK_b2s, isEff_b2s, isPure_b2s, evalOp_s2b, s2bR, goK_mark, dgoK_mark, isEff_mark, isPure_mark, evalOp_mark, markA_slc, markB, ↓reduceIte, Nat.reduceEqDiff, Int.reduceToNat, Int.reducePow, Nat.reduceAdd, Nat.reduceLeDiff, Nat.reduceMul, Nat.reduceBEq, reduceCtorEq]
    refine run_fin rfl rfl trivial ?_
    exact ⟨true, 0, fp, Nat.le_refl _, fun _ _ _ _ => rfl, fun _ => rfl, hi, fun m hm => by simp only [List.mem_singleton] at hm; subst hm; rw [hp]; simp⟩
end Go.Proofs.Ytebhlclfiiffbaa

namespace Go.Proofs.Ytebhlclfiiffbaa
open Go Go.Am
set_option linter.unusedSimpArgs false
set_option linter.unusedVariables false

theorem lalike_ok (H : AHeap) {p : Nat} {ys : List Nat} {a e : Nat} (hp : H[p]? = some (lensB ys a e)) (ha : a ≤ ys.length) (hlen : ys.length ≤ 1000000) (he : e < 1000) (Q : AVal → AHeap → Prop) (h : Q (.bool true) H) : FunOK Try.prog F.cuneiformlaw03_Alike [.ptr p 0, .agg (mL ys a e)] H Q := by
  refine fun_iced cuneiformlaw03_Alike_code fun _ => ?_
  refine fun_V 100 cuneiformlaw03_Alike_code rfl ?_
  have hpl : p < H.length := (List.getElem?_eq_some_iff.1 hp).1
  have hp1 : ∀ L, (H ++ L)[p]? = some (lensB ys a e) := fun L => (at_low hpl).trans hp
  have hl0 : ((ys.length : Nat) : Int) - (a : Nat) = ((ys.length - a : Nat) : Int) := by omega
  by_cases c : e = 0 ∧ a < ys.length
  · obtain ⟨rfl, c1⟩ := c
    simp (disch := first | omega | (simp only [List.length_append, List.length_cons, List.length_nil, List.length_set, List.length_map, List.length_take, List.length_drop]; omega)) only [stdh, goK_s2b, dgoK_s2b, isEff_s2b, isPure_s2b, goK_b2s, dgoK_b2s, isEff_b2s, isPure_b2s, evalOp_s2b, s2bR, goK_mark, dgoK_mark, isEff_mark, isPure_mark, evalOp_mark, markA_slc, markB, ↓reduceIte, Nat.reduceEqDiff, Int.reduceToNat, Int.reducePow, Nat.reduceAdd, Nat.reduceLeDiff, Nat.reduceMul, Nat.reduceBEq, reduceCtorEq, cuneiformlaw03_Alike, cuneiformlaw03_Alike.body, mL, cuneiformlaw03_Alike.d0]
    refine callD_fn (err_ok _ (hp1 _) _ ?_)
    refine ⟨by simp (disch := first | omega | (simp only [List.length_append, List.length_cons, List.length_nil, List.length_set, List.length_map, List.length_take, List.length_drop]; omega)) only [stdh, goK_s2b, dgoK_s2b, isEff_s2b, isPure_s2b, goK_b2s, dgoK_b2s, isEff_b2s, isPure_b2s, evalOp_s2b, s2bR, goK_mark, dgoK_mark, isEff_mark, isPure_mark, evalOp_mark, markA_slc, markB, ↓reduceIte, Nat.reduceEqDiff, Int.reduceToNat, Int.reducePow, Nat.reduceAdd, Nat.reduceLeDiff, Nat.reduceMul, Nat.reduceBEq, reduceCtorEq, mL], ?_⟩
    refine runD_V 60 ?_
    simp (disch := first | omega | (simp only [List.length_append, List.length_cons, List.length_nil, List.length_set, List.length_map, List.length_take, List.length_drop]; omega)) only [stdh, goK_s2b, dgoK_s2b, isEff_s2b, isPure_s2b, goK_b2s, dgoK_b2s, isEff_b2s, isPure_b2s, evalOp_s2b, s2bR, goK_mark, dgoK_mark, isEff_mark, isPure_mark, evalOp_mark, markA_slc, markB, ↓reduceIte, Nat.reduceEqDiff, Int.reduceToNat, Int.reducePow, Nat.reduceAdd, Nat.reduceLeDiff, Nat.reduceMul, Nat.reduceBEq, reduceCtorEq, mL]
    refine callD_fn (place_ok _ (hp1 _) _ ?_)
    refine ⟨by simp (disch := first | omega | (simp only [List.length_append, List.length_cons, List.length_nil, List.length_set, List.length_map, List.length_take, List.length_drop]; omega)) only [stdh, goK_s2b, dgoK_s2b, isEff_s2b, isPure_s2b, goK_b2s, dgoK_b2s, isEff_b2s, isPure_b2s, evalOp_s2b, s2bR, goK_mark, dgoK_mark, isEff_mark, isPure_mark, evalOp_mark, markA_slc, markB, ↓reduceIte, Nat.reduceEqDiff, Int.reduceToNat, Int.reducePow, Nat.reduceAdd, Nat.reduceLeDiff, Nat.reduceMul, Nat.reduceBEq, reduceCtorEq, mL], ?_⟩
    refine runD_V 60 ?_
    simp (disch := first | omega | (simp only [List.length_append, List.length_cons, List.length_nil, List.length_set, List.length_map, List.length_take, List.length_drop]; omega)) only [stdh, goK_s2b, dgoK_s2b, isEff_s2b, isPure_s2b, goK_b2s, dgoK_b2s, isEff_b2s, isPure_b2s, evalOp_s2b, s2bR, goK_mark, dgoK_mark, isEff_mark, isPure_mark, evalOp_mark, markA_slc, markB, ↓reduceIte, Nat.reduceEqDiff, Int.reduceToNat, Int.reducePow, Nat.reduceAdd, Nat.reduceLeDiff, Nat.reduceMul, Nat.reduceBEq, reduceCtorEq, mL]
    refine callD_fn (leftn_ok _ (hp1 _) ha hlen _ ?_)
    refine ⟨by simp (disch := first | omega | (simp only [List.length_append, List.length_cons, List.length_nil, List.length_set, List.length_map, List.length_take, List.length_drop]; omega)) only [stdh, goK_s2b, dgoK_s2b, isEff_s2b, isPure_s2b, goK_b2s, dgoK_b2s, isEff_b2s, isPure_b2s, evalOp_s2b, s2bR, goK_mark, dgoK_mark, isEff_mark, isPure_mark, evalOp_mark, markA_slc, markB, ↓reduceIte, Nat.reduceEqDiff, Int.reduceToNat, Int.reducePow, Nat.reduceAdd, Nat.reduceLeDiff, Nat.reduceMul, Nat.reduceBEq, reduceCtorEq, mL], ?_⟩
    refine runD_V 60 ?_
    simp (disch := first | omega | (simp only [List.length_append, List.length_cons, List.length_nil, List.length_set, List.length_map, List.length_take, List.length_drop]; omega)) only [stdh, goK_s2b, dgoK_s2b, isEff_s2b, isPure_s2b, goK_b2s, dgoK_b2s, isEff_b2s, isPure_b2s, evalOp_s2b, s2bR, goK_mark, dgoK_mark, isEff_mark, isPure_mark, evalOp_mark, markA_slc, markB, ↓reduceIte, Nat.reduceEqDiff, Int.reduceToNat, Int.reducePow, Nat.reduceAdd, Nat.reduceLeDiff, Nat.reduceMul, Nat.reduceBEq, reduceCtorEq, mL, hl0]
    refine callD_fn (end_ok _ (hp1 _) ha hlen _ ?_)
    rw [if_pos ⟨rfl, c1⟩]
    refine ⟨by simp (disch := first | omega | (simp only [List.length_append, List.length_cons, List.length_nil, List.length_set, List.length_map, List.length_take, List.length_drop]; omega)) only [stdh, goK_s2b, dgoK_s2b, isEff_s2b, isPure_s2b, goK_b2s, dgoK_b2s, isEff_b2s, isPure_b2s, evalOp_s2b, s2bR, goK_mark, dgoK_mark, isEff_mark, isPure_mark, evalOp_mark, markA_slc, markB, ↓reduceIte, Nat.reduceEqDiff, Int.reduceToNat, Int.reducePow, Nat.reduceAdd, Nat.reduceLeDiff, Nat.reduceMul, Nat.reduceBEq, reduceCtorEq, mL], ?_⟩
    refine runD_V 60 ?_
    simp (disch := first | omega | (simp only [List.length_append, List.length_cons, List.length_nil, List.length_set, List.length_map, List.length_take, List.length_drop]; omega)) only [stdh, goK_s2b, dgoK_s2b, isEff_s2b, isPure_s2b, goK_b2s, dgoK_b2s, isEff_b2s, isPure_b2s, evalOp_s2b, s2bR, goK_mark, dgoK_mark, isEff_mark, isPure_mark, evalOp_mark, markA_slc, markB, ↓reduceIte, Nat.reduceEqDiff, Int.reduceToNat, Int.reducePow, Nat.reduceAdd, Nat.reduceLeDiff, Nat.reduceMul, Nat.reduceBEq, reduceCtorEq, mL]
    exact ice_none trivial h
  · by_cases c0 : e = 0
    · subst c0
      have c1 : ¬ a < ys.length := fun hh => c ⟨rfl, hh⟩
      simp (disch := first | omega | (simp only [List.length_append, List.length_cons, List.length_nil, List.length_set, List.length_map, List.length_take, List.length_drop]; omega)) only [stdh, goK_s2b, dgoK_s2b, isEff_s2b, isPure_s2b, goK_b2s, dgoK_b2s, isEff_b2s, isPure_b2s, evalOp_s2b, s2bR, goK_mark, dgoK_mark, isEff_mark, isPure_mark, evalOp_mark, markA_slc, markB, ↓reduceIte, Nat.reduceEqDiff, Int.reduceToNat, Int.reducePow, Nat.reduceAdd, Nat.reduceLeDiff, Nat.reduceMul, Nat.reduceBEq, reduceCtorEq, cuneiformlaw03_Alike, cuneiformlaw03_Alike.body, mL, cuneiformlaw03_Alike.d0]
      refine callD_fn (err_ok _ (hp1 _) _ ?_)
      refine ⟨by simp (disch := first | omega | (simp only [List.length_append, List.length_cons, List.length_nil, List.length_set, List.length_map, List.length_take, List.length_drop]; omega)) only [stdh, goK_s2b, dgoK_s2b, isEff_s2b, isPure_s2b, goK_b2s, dgoK_b2s, isEff_b2s, isPure_b2s, evalOp_s2b, s2bR, goK_mark, dgoK_mark, isEff_mark, isPure_mark, evalOp_mark, markA_slc, markB, ↓reduceIte, Nat.reduceEqDiff, Int.reduceToNat, Int.reducePow, Nat.reduceAdd, Nat.reduceLeDiff, Nat.reduceMul, Nat.reduceBEq, reduceCtorEq, mL], ?_⟩
      refine runD_V 60 ?_
      simp (disch := first | omega | (simp only [List.length_append, List.length_cons, List.length_nil, List.length_set, List.length_map, List.length_take, List.length_drop]; omega)) only [stdh, goK_s2b, dgoK_s2b, isEff_s2b, isPure_s2b, goK_b2s, dgoK_b2s, isEff_b2s, isPure_b2s, evalOp_s2b, s2bR, goK_mark, dgoK_mark, isEff_mark, isPure_mark, evalOp_mark, markA_slc, markB, ↓reduceIte, Nat.reduceEqDiff, Int.reduceToNat, Int.reducePow, Nat.reduceAdd, Nat.reduceLeDiff, Nat.reduceMul, Nat.reduceBEq, reduceCtorEq, mL]
      refine callD_fn (place_ok _ (hp1 _) _ ?_)
      refine ⟨by simp (disch := first | omega | (simp only [List.length_append, List.length_cons, List.length_nil, List.length_set, List.length_map, List.length_take, List.length_drop]; omega)) only [stdh, goK_s2b, dgoK_s2b, isEff_s2b, isPure_s2b, goK_b2s, dgoK_b2s, isEff_b2s, isPure_b2s, evalOp_s2b, s2bR, goK_mark, dgoK_mark, isEff_mark, isPure_mark, evalOp_mark, markA_slc, markB, ↓reduceIte, Nat.reduceEqDiff, Int.reduceToNat, Int.reducePow, Nat.reduceAdd, Nat.reduceLeDiff, Nat.reduceMul, Nat.reduceBEq, reduceCtorEq, mL], ?_⟩
      refine runD_V 60 ?_
      simp (disch := first | omega | (simp only [List.length_append, List.length_cons, List.length_nil, List.length_set, List.length_map, List.length_take, List.length_drop]; omega)) only [stdh, goK_s2b, dgoK_s2b, isEff_s2b, isPure_s2b, goK_b2s, dgoK_b2s, isEff_b2s, isPure_b2s, evalOp_s2b, s2bR, goK_mark, dgoK_mark, isEff_mark, isPure_mark, evalOp_mark, markA_slc, markB, ↓reduceIte, Nat.reduceEqDiff, Int.reduceToNat, Int.reducePow, Nat.reduceAdd, Nat.reduceLeDiff, Nat.reduceMul, Nat.reduceBEq, reduceCtorEq, mL]
      refine callD_fn (leftn_ok _ (hp1 _) ha hlen _ ?_)
      refine ⟨by simp (disch := first | omega | (simp only [List.length_append, List.length_cons, List.length_nil, List.length_set, List.length_map, List.length_take, List.length_drop]; omega)) only [stdh, goK_s2b, dgoK_s2b, isEff_s2b, isPure_s2b, goK_b2s, dgoK_b2s, isEff_b2s, isPure_b2s, evalOp_s2b, s2bR, goK_mark, dgoK_mark, isEff_mark, isPure_mark, evalOp_mark, markA_slc, markB, ↓reduceIte, Nat.reduceEqDiff, Int.reduceToNat, Int.reducePow, Nat.reduceAdd, Nat.reduceLeDiff, Nat.reduceMul, Nat.reduceBEq, reduceCtorEq, mL], ?_⟩
      refine runD_V 60 ?_
      simp (disch := first | omega | (simp only [List.length_append, List.length_cons, List.length_nil, List.length_set, List.length_map, List.length_take, List.length_drop]; omega)) only [stdh, goK_s2b, dgoK_s2b, isEff_s2b, isPure_s2b, goK_b2s, dgoK_b2s, isEff_b2s, isPure_b2s, evalOp_s2b, s2bR, goK_mark, dgoK_mark, isEff_mark, isPure_mark, evalOp_mark, markA_slc, markB, ↓reduceIte, Nat.reduceEqDiff, Int.reduceToNat, Int.reducePow, Nat.reduceAdd, Nat.reduceLeDiff, Nat.reduceMul, Nat.reduceBEq, reduceCtorEq, mL, hl0]
      refine callD_fn (end_ok _ (hp1 _) ha hlen _ ?_)
      rw [if_neg c]
      refine ⟨by simp (disch := first | omega | (simp only [List.length_append, List.length_cons, List.length_nil, List.length_set, List.length_map, List.length_take, List.length_drop]; omega)) only [stdh, goK_s2b, dgoK_s2b, isEff_s2b, isPure_s2b, goK_b2s, dgoK_b2s, isEff_b2s, isPure_b2s, evalOp_s2b, s2bR, goK_mark, dgoK_mark, isEff_mark, isPure_mark, evalOp_mark, markA_slc, markB, ↓reduceIte, Nat.reduceEqDiff, Int.reduceToNat, Int.reducePow, Nat.reduceAdd, Nat.reduceLeDiff, Nat.reduceMul, Nat.reduceBEq, reduceCtorEq, mL], ?_⟩
      refine runD_V 60 ?_
      simp (disch := first | omega | (simp only [List.length_append, List.length_cons, List.length_nil, List.length_set, List.length_map, List.length_take, List.length_drop]; omega)) only [stdh, goK_s2b, dgoK_s2b, isEff_s2b, isPure_s2b, goK_b2s, dgoK_b2s, isEff_b2s, isPure_b2s, evalOp_s2b, s2bR, goK_mark, dgoK_mark, isEff_mark, isPure_mark, evalOp_mark, markA_slc, markB, ↓reduceIte, Nat.reduceEqDiff, Int.reduceToNat, Int.reducePow, Nat.reduceAdd, Nat.reduceLeDiff, Nat.reduceMul, Nat.reduceBEq, reduceCtorEq, mL]
      exact ice_none trivial h
    · have c0' : ¬ ((e : Nat) : Int) = 0 := by omega
      simp (disch := first | omega | (simp only [List.length_append, List.length_cons, List.length_nil, List.length_set, List.length_map, List.length_take, List.length_drop]; omega)) only [stdh, goK_s2b, dgoK_s2b, isEff_s2b, isPure_s2b, goK_b2s, dgoK_b2s, isEff_b2s, isPure_b2s, evalOp_s2b, s2bR, goK_mark, dgoK_mark, isEff_mark, isPure_mark, evalOp_mark, markA_slc, markB, ↓reduceIte, Nat.reduceEqDiff, Int.reduceToNat, Int.reducePow, Nat.reduceAdd, Nat.reduceLeDiff, Nat.reduceMul, Nat.reduceBEq, reduceCtorEq, cuneiformlaw03_Alike, cuneiformlaw03_Alike.body, mL, cuneiformlaw03_Alike.d0, c0']
      refine callD_fn (err_ok _ (hp1 _) _ ?_)
      refine ⟨by simp (disch := first | omega | (simp only [List.length_append, List.length_cons, List.length_nil, List.length_set, List.length_map, List.length_take, List.length_drop]; omega)) only [stdh, goK_s2b, dgoK_s2b, isEff_s2b, isPure_s2b, goK_b2s, dgoK_b2s, isEff_b2s, isPure_b2s, evalOp_s2b, s2bR, goK_mark, dgoK_mark, isEff_mark, isPure_mark, evalOp_mark, markA_slc, markB, ↓reduceIte, Nat.reduceEqDiff, Int.reduceToNat, Int.reducePow, Nat.reduceAdd, Nat.reduceLeDiff, Nat.reduceMul, Nat.reduceBEq, reduceCtorEq, mL], ?_⟩
      refine runD_V 60 ?_
      simp (disch := first | omega | (simp only [List.length_append, List.length_cons, List.length_nil, List.length_set, List.length_map, List.length_take, List.length_drop]; omega)) only [stdh, goK_s2b, dgoK_s2b, isEff_s2b, isPure_s2b, goK_b2s, dgoK_b2s, isEff_b2s, isPure_b2s, evalOp_s2b, s2bR, goK_mark, dgoK_mark, isEff_mark, isPure_mark, evalOp_mark, markA_slc, markB, ↓reduceIte, Nat.reduceEqDiff, Int.reduceToNat, Int.reducePow, Nat.reduceAdd, Nat.reduceLeDiff, Nat.reduceMul, Nat.reduceBEq, reduceCtorEq, mL]
      refine callD_fn (place_ok _ (hp1 _) _ ?_)
      refine ⟨by simp (disch := first | omega | (simp only [List.length_append, List.length_cons, List.length_nil, List.length_set, List.length_map, List.length_take, List.length_drop]; omega)) only [stdh, goK_s2b, dgoK_s2b, isEff_s2b, isPure_s2b, goK_b2s, dgoK_b2s, isEff_b2s, isPure_b2s, evalOp_s2b, s2bR, goK_mark, dgoK_mark, isEff_mark, isPure_mark, evalOp_mark, markA_slc, markB, ↓reduceIte, Nat.reduceEqDiff, Int.reduceToNat, Int.reducePow, Nat.reduceAdd, Nat.reduceLeDiff, Nat.reduceMul, Nat.reduceBEq, reduceCtorEq, mL], ?_⟩
      refine runD_V 60 ?_
      simp (disch := first | omega | (simp only [List.length_append, List.length_cons, List.length_nil, List.length_set, List.length_map, List.length_take, List.length_drop]; omega)) only [stdh, goK_s2b, dgoK_s2b, isEff_s2b, isPure_s2b, goK_b2s, dgoK_b2s, isEff_b2s, isPure_b2s, evalOp_s2b, s2bR, goK_mark, dgoK_mark, isEff_mark, isPure_mark, evalOp_mark, markA_slc, markB, ↓reduceIte, Nat.reduceEqDiff, Int.reduceToNat, Int.reducePow, Nat.reduceAdd, Nat.reduceLeDiff, Nat.reduceMul, Nat.reduceBEq, reduceCtorEq, mL]
      refine callD_fn (leftn_ok _ (hp1 _) ha hlen _ ?_)
      refine ⟨by simp (disch := first | omega | (simp only [List.length_append, List.length_cons, List.length_nil, List.length_set, List.length_map, List.length_take, List.length_drop]; omega)) only [stdh, goK_s2b, dgoK_s2b, isEff_s2b, isPure_s2b, goK_b2s, dgoK_b2s, isEff_b2s, isPure_b2s, evalOp_s2b, s2bR, goK_mark, dgoK_mark, isEff_mark, isPure_mark, evalOp_mark, markA_slc, markB, ↓reduceIte, Nat.reduceEqDiff, Int.reduceToNat, Int.reducePow, Nat.reduceAdd, Nat.reduceLeDiff, Nat.reduceMul, Nat.reduceBEq, reduceCtorEq, mL], ?_⟩
      refine runD_V 60 ?_
      simp (disch := first | omega | (simp only [List.length_append, List.length_cons, List.length_nil, List.length_set, List.length_map, List.length_take, List.length_drop]; omega)) only [stdh, goK_s2b, dgoK_s2b, isEff_s2b, isPure_s2b, goK_b2s, dgoK_b2s, isEff_b2s, isPure_b2s, evalOp_s2b, s2bR, goK_mark, dgoK_mark, isEff_mark, isPure_mark, evalOp_mark, markA_slc, markB, ↓reduceIte, Nat.reduceEqDiff, Int.reduceToNat, Int.reducePow, Nat.reduceAdd, Nat.reduceLeDiff, Nat.reduceMul, Nat.reduceBEq, reduceCtorEq, mL, hl0]
      refine callD_fn (end_ok _ (hp1 _) ha hlen _ ?_)
      rw [if_neg c]
      refine ⟨by simp (disch := first | omega | (simp only [List.length_append, List.length_cons, List.length_nil, List.length_set, List.length_map, List.length_take, List.length_drop]; omega)) only [stdh, goK_s2b, dgoK_s2b, isEff_s2b, isPure_s2b, goK_b2s, dgoK_b2s, isEff_b2s, isPure_b2s, evalOp_s2b, s2bR, goK_mark, dgoK_mark, isEff_mark, isPure_mark, evalOp_mark, markA_slc, markB, ↓reduceIte, Nat.reduceEqDiff, Int.reduceToNat, Int.reducePow, Nat.reduceAdd, Nat.reduceLeDiff, Nat.reduceMul, Nat.reduceBEq, reduceCtorEq, mL], ?_⟩
      refine runD_V 60 ?_
      simp (disch := first | omega | (simp only [List.length_append, List.length_cons, List.length_nil, List.length_set, List.length_map, List.length_take, List.length_drop]; omega)) only [stdh, goK_s2b, dgoK_s2b, isEff_s2b, isPure_s2b, goK_b2s, dgoK_b2s, isEff_b2s, isPure_b2s, evalOp_s2b, s2bR, goK_mark, dgoK_mark, isEff_mark, isPure_mark, evalOp_mark, markA_slc, markB, ↓reduceIte, Nat.reduceEqDiff, Int.reduceToNat, Int.reducePow, Nat.reduceAdd, Nat.reduceLeDiff, Nat.reduceMul, Nat.reduceBEq, reduceCtorEq, mL]
      exact ice_none trivial h

theorem ice_clo2r {H L : AHeap} {Q : AVal → AHeap → Prop} {g : FuncId} {a b : AVal} {T T' : TypeId} (ha : closed H.length a) (hb : closed H.length b) (hq : Q (.fn g [] [cell b, cell a]) H) : IceQ H Q (.fn g [] [.ptr (H.length + 1) 0, .ptr H.length 0]) (H ++ .cells [a] T :: .cells [b] T' :: L) := by
  refine ⟨keeps_append _ _, [(H.length, [a]), (H.length + 1, [b])], .fn g [] [cell b, cell a], ?_, ?_, hq⟩
  · intro p hp
    simp only [List.mem_cons, List.not_mem_nil, or_false] at hp
    rcases hp with rfl | rfl
    · have hc : closeds H.length [a] := ⟨ha, trivial⟩
      exact ⟨[a], by simp [content], (mvs_id (L := H.length) (fun _ h => toF_low h) _ hc).symm, colds_of (L := H.length) (fun _ h => toF_low h) _ hc⟩
    · have hc : closeds H.length [b] := ⟨hb, trivial⟩
      exact ⟨[b], by simp [content], (mvs_id (L := H.length) (fun _ h => toF_low h) _ hc).symm, colds_of (L := H.length) (fun _ h => toF_low h) _ hc⟩
  · have h1 : toF H.length [] [(H.length, [a]), (H.length + 1, [b])] H.length = .ice [a] := by simp [toF, findN, findI]
    have h2 : toF H.length [] [(H.length, [a]), (H.length + 1, [b])] (H.length + 1) = .ice [b] := by simp [toF, findN, findI]
    simp only [mv, mvs, h1, h2, mvPtr]
    exact Sees.refl _

theorem lwords_ok (H : AHeap) {p : Nat} {z : Int} (hpl : p < H.length) (Q : AVal → AHeap → Prop) (h : Q (.fn F.lens_Lens_Words_1 [] [cell (.int .i64 z), cell (.ptr p 0)]) H) : FunOK Try.prog F.lens_Lens_Words [.ptr p 0, .int .i64 z] H Q := by
  refine fun_iced lens_Lens_Words_code fun _ => ?_
  refine fun_V 100 lens_Lens_Words_code rfl ?_
  simp (disch := first | omega | (simp only [List.length_append, List.length_cons, List.length_nil, List.length_set, List.length_map, List.length_take, List.length_drop]; omega)) only [stdh, goK_s2b, dgoK_s2b, isEff_s2b, isPure_s2b, goK_b2s, dgoK_b2s, isEff_b2s, isPure_b2s, evalOp_s2b, s2bR, goK_mark, dgoK_mark, isEff_mark, isPure_mark, evalOp_mark, markA_slc, markB, ↓reduceIte, Nat.reduceEqDiff, Int.reduceToNat, Int.reducePow, Nat.reduceAdd, Nat.reduceLeDiff, Nat.reduceMul, Nat.reduceBEq, reduceCtorEq, lens_Lens_Words, lens_Lens_Words.body]
  exact ice_clo2r hpl trivial h

theorem lwfn_ok (H : AHeap) {p : Nat} {ys : List Nat} {a e : Nat} {z : Int} (hp : H[p]? = some (lensB ys a e)) (hb : ∀ b ∈ ys, b < 256) (ha : a ≤ ys.length) (hlen : ys.length ≤ 1000000) (he : e < 1000) (Q : AVal → AHeap → Prop)
    (h : Q (.tup [.agg (mL ys (a + wCount ys a e z * z.toNat) e), .bool true]) (H.set p (lensB ys (a + wCount ys a e z * z.toNat) e))) : FunOK Try.prog F.cuneiformlaw03_words [.ptr p 0, .agg (mL ys a e), .int .i64 z] H Q := by
  refine fun_mut cuneiformlaw03_words_code p fun _ => ?_
  refine fun_V 100 cuneiformlaw03_words_code rfl ?_
  have hpl : p < H.length := (List.getElem?_eq_some_iff.1 hp).1
  simp (disch := first | omega | (simp only [List.length_append, List.length_cons, List.length_nil, List.length_set, List.length_map, List.length_take, List.length_drop]; omega)) only [stdh, goK_s2b, dgoK_s2b, isEff_s2b, isPure_s2b, goK_b2s, dgoK_b2s, isEff_b2s, isPure_b2s, evalOp_s2b, s2bR, goK_mark, dgoK_mark, isEff_mark, isPure_mark, evalOp_mark, markA_slc, markB, ↓reduceIte, Nat.reduceEqDiff, Int.reduceToNat, Int.reducePow, Nat.reduceAdd, Nat.reduceLeDiff, Nat.reduceMul, Nat.reduceBEq, reduceCtorEq, cuneiformlaw03_words, cuneiformlaw03_words.body, mL]
  refine callK_fn (lwords_ok _ (by (first | omega | (simp only [List.length_append, List.length_cons, List.length_nil, List.length_set, List.length_map, List.length_take, List.length_drop]; omega))) _ ?_)
  refine runL_V 60 ?_
  simp (disch := first | omega | (simp only [List.length_append, List.length_cons, List.length_nil, List.length_set, List.length_map, List.length_take, List.length_drop]; omega)) only [stdh, goK_s2b, dgoK_s2b, isEff_s2b, isPure_s2b, goK_b2s, dgoK_b2s, isEff_b2s, isPure_b2s, evalOp_s2b, s2bR, goK_mark, dgoK_mark, isEff_mark, isPure_mark, evalOp_mark, markA_slc, markB, ↓reduceIte, Nat.reduceEqDiff, Int.reduceToNat, Int.reducePow, Nat.reduceAdd, Nat.reduceLeDiff, Nat.reduceMul, Nat.reduceBEq, reduceCtorEq, eqA]
  have g0 : (H ++ [ABlk.cells (mL ys a e) T.cuneiformref03_L, .cells [.int .i64 z] T.int, .cells [.nils, .int .i64 0, .int .i64 0] T.cuneiformref03_L, .cells [.bool true] T.bool])[H.length]? = some (.cells (mL ys (a + 0 * z.toNat) e) T.cuneiformref03_L) := by rw [Nat.zero_mul]; exact at_0
  have g1 : (H ++ [ABlk.cells (mL ys a e) T.cuneiformref03_L, .cells [.int .i64 z] T.int, .cells [.nils, .int .i64 0, .int .i64 0] T.cuneiformref03_L, .cells [.bool true] T.bool])[H.length + 1]? = some (.cells [.int .i64 z] T.int) := at_k
  have g2 : (H ++ [ABlk.cells (mL ys a e) T.cuneiformref03_L, .cells [.int .i64 z] T.int, .cells [.nils, .int .i64 0, .int .i64 0] T.cuneiformref03_L, .cells [.bool true] T.bool])[H.length + 2]? = some (.cells [.nils, .int .i64 0, .int .i64 0] T.cuneiformref03_L) := at_k
  have g3 : (H ++ [ABlk.cells (mL ys a e) T.cuneiformref03_L, .cells [.int .i64 z] T.int, .cells [.nils, .int .i64 0, .int .i64 0] T.cuneiformref03_L, .cells [.bool true] T.bool])[H.length + 3]? = some (.cells [.bool true] T.bool) := at_k
  have hk2 := keeps_append H [ABlk.cells (mL ys a e) T.cuneiformref03_L, .cells [.int .i64 z] T.int, .cells [.nils, .int .i64 0, .int .i64 0] T.cuneiformref03_L, .cells [.bool true] T.bool]
  have hl2 : (H ++ [ABlk.cells (mL ys a e) T.cuneiformref03_L, .cells [.int .i64 z] T.int, .cells [.nils, .int .i64 0, .int .i64 0] T.cuneiformref03_L, .cells [.bool true] T.bool]).length = H.length + 4 := by simp
  rw [show [nums IntKind.u8 false ys, AVal.int IntKind.i64 (a : Nat), AVal.int IntKind.i64 (e : Nat)] = mL ys a e from rfl]
  generalize (H ++ [ABlk.cells (mL ys a e) T.cuneiformref03_L, .cells [.int .i64 z] T.int, .cells [.nils, .int .i64 0, .int .i64 0] T.cuneiformref03_L, .cells [.bool true] T.bool]) = H2 at *
  have hp2 : H2[p]? = some (lensB ys a e) := (hk2.2 p hpl).trans hp
  have hcnt : a + wCount ys a e z * z.toNat ≤ ys.length := by
    unfold wCount
    split
    · have := Nat.div_mul_le_self (ys.length - a) z.toNat; omega
    · omega
  refine range_varsP (g := F.lens_Lens_Words_1) (first := []) (captured := [cell (.int .i64 z), cell (.ptr p 0)]) rfl (by intro n hn; cases hn) (item := wItem ys a z.toNat) (len := wCount ys a e z) (fun j => rfl)
    [(H.length, T.cuneiformref03_L, fun j => mL ys (a + j * z.toNat) e), (H.length + 3, T.bool, fun _ => [.bool true])] (fun _ => none) (varsN_cons g0 (varsN_cons g3 varsN_nil)) [p] (fun _ j _ => some (lensB ys (a + j * z.toNat) e)) (by
      intro m hm
      simp only [List.mem_singleton] at hm
      subst hm
      exact ⟨by omega, by simp; omega⟩) ?_ (fun H1 h1 h2 => words1_iter hb hlen ha ((h2 p (by omega)).trans hp2)) ?_ (fun _ _ _ _ _ _ _ hh => by cases hh)
  · intro a' b' j H1 hj hst hl hkp hrec hv
    have q0 : H1[H.length]? = some (.cells (mL ys (a + j * z.toNat) e) T.cuneiformref03_L) := hv.get (c := H.length) (T := T.cuneiformref03_L) (f := fun j => mL ys (a + j * z.toNat) e) (by simp)
    have q3 : H1[H.length + 3]? = some (.cells [.bool true] T.bool) := hv.get (c := H.length + 3) (T := T.bool) (f := fun _ => [.bool true]) (by simp)
    have q1 := (hkp (H.length + 1) (by omega) (by simp) (by simp; omega)).trans g1
    have hwc : e = 0 ∧ (z = 1 ∨ z = 2 ∨ z = 4) := by
      refine Classical.byContradiction fun hc => ?_
      unfold wCount at hj; rw [if_neg hc] at hj; omega
    obtain ⟨rfl, hz⟩ := hwc
    obtain ⟨s, rfl⟩ := Int.eq_ofNat_of_zero_le (show 0 ≤ z by omega)
    simp only [Int.toNat_natCast] at *
    have hjs : (j + 1) * s ≤ wCount ys a 0 (s : Nat) * s := Nat.mul_le_mul_right _ hj
    have hjs4 : (j + 1) * s = j * s + s := by rw [Nat.add_mul, Nat.one_mul]
    have hR : lensR 0 ys (a + j * s) 0 (wordSpec s) = (leval ((ys.drop (a + j * s)).take s), a + (j + 1) * s, 0) := by
      rw [hjs4, ← Nat.add_assoc]
      exact lensR_ok (by unfold wordSpec; rw [if_neg (by rw [List.length_drop]; omega)])
    have hw := fun H' => rword_ok (s := s) (a := a + j * s) (e := 0) H' hb hlen (by omega) (by omega) (by omega)
    simp only [hR] at hw
    rw [hl2] at hrec hl ⊢
    have hit : wItem ys a s j = [.int .u32 (leval ((ys.drop (a + j * s)).take s) : Nat)] := rfl
    rw [hit]
    generalize leval ((ys.drop (a + j * s)).take s) = w at *
    refine run_V0 60 ?_
    simp (disch := first | omega | (simp only [List.length_append, List.length_cons, List.length_nil, List.length_set, List.length_map, List.length_take, List.length_drop]; omega)) only [stdh, goK_s2b, dgoK_s2b, isEff_s2b, isPure_s2b, goK_b2s, dgoK_b2s, isEff_b2s, isPure_b2s, evalOp_s2b, s2bR, goK_mark, dgoK_mark, isEff_mark, isPure_mark, evalOp_mark, markA_slc, markB, ↓reduceIte, Nat.reduceEqDiff, Int.reduceToNat, Int.reducePow, Nat.reduceAdd, Nat.reduceLeDiff, Nat.reduceMul, Nat.reduceBEq, reduceCtorEq, cuneiformlaw03_words.a0, cuneiformlaw03_words.b0, hrec, q0, q1, q3, List.zip_cons_cons, List.zip_nil_left, List.reverse_cons, List.reverse_nil, List.getElem?_set_self, List.getElem?_set_ne, at_low, mL]
    refine callK_fn (hw _ _ ?_)
    have r0 : (H1.set (H.length + 4) (ABlk.loop (lrec { fn := F.cuneiformlaw03_words, nt := 62, res := [ARes.cell 6 (some 3), ARes.tmp 7], rd := none } [(4, AVal.ptr (List.length H) 0), (5, AVal.ptr (List.length H + 1) 0), (6, AVal.ptr (List.length H + 2) 0), (7, AVal.bool false), (8, AVal.ptr (List.length H + 3) 0), (19, AVal.fn F.lens_Lens_Words_1 [] [cell (AVal.int IntKind.i64 ↑s), cell (AVal.ptr p 0)])] [20] a' b' LoopState.busy (lrec { fn := F.cuneiformlaw03_words, nt := 62, res := [ARes.cell 6 (some 3), ARes.tmp 7], rd := none } [(4, AVal.ptr (List.length H) 0), (5, AVal.ptr (List.length H + 1) 0), (6, AVal.ptr (List.length H + 2) 0), (7, AVal.bool false), (8, AVal.ptr (List.length H + 3) 0), (19, AVal.fn F.lens_Lens_Words_1 [] [cell (AVal.int IntKind.i64 ↑s), cell (AVal.ptr p 0)])] [20] a' b' LoopState.ready none).pending)))[H.length]? = some (.cells (mL ys (a + j * s) 0) T.cuneiformref03_L) := by rw [List.getElem?_set_ne (by omega)]; exact q0
    have r3 : (H1.set (H.length + 4) (ABlk.loop (lrec { fn := F.cuneiformlaw03_words, nt := 62, res := [ARes.cell 6 (some 3), ARes.tmp 7], rd := none } [(4, AVal.ptr (List.length H) 0), (5, AVal.ptr (List.length H + 1) 0), (6, AVal.ptr (List.length H + 2) 0), (7, AVal.bool false), (8, AVal.ptr (List.length H + 3) 0), (19, AVal.fn F.lens_Lens_Words_1 [] [cell (AVal.int IntKind.i64 ↑s), cell (AVal.ptr p 0)])] [20] a' b' LoopState.busy (lrec { fn := F.cuneiformlaw03_words, nt := 62, res := [ARes.cell 6 (some 3), ARes.tmp 7], rd := none } [(4, AVal.ptr (List.length H) 0), (5, AVal.ptr (List.length H + 1) 0), (6, AVal.ptr (List.length H + 2) 0), (7, AVal.bool false), (8, AVal.ptr (List.length H + 3) 0), (19, AVal.fn F.lens_Lens_Words_1 [] [cell (AVal.int IntKind.i64 ↑s), cell (AVal.ptr p 0)])] [20] a' b' LoopState.ready none).pending)))[H.length + 3]? = some (.cells [.bool true] T.bool) := by rw [List.getElem?_set_ne (by omega)]; exact q3
    have r4 : (H1.set (H.length + 4) (ABlk.loop (lrec { fn := F.cuneiformlaw03_words, nt := 62, res := [ARes.cell 6 (some 3), ARes.tmp 7], rd := none } [(4, AVal.ptr (List.length H) 0), (5, AVal.ptr (List.length H + 1) 0), (6, AVal.ptr (List.length H + 2) 0), (7, AVal.bool false), (8, AVal.ptr (List.length H + 3) 0), (19, AVal.fn F.lens_Lens_Words_1 [] [cell (AVal.int IntKind.i64 ↑s), cell (AVal.ptr p 0)])] [20] a' b' LoopState.busy (lrec { fn := F.cuneiformlaw03_words, nt := 62, res := [ARes.cell 6 (some 3), ARes.tmp 7], rd := none } [(4, AVal.ptr (List.length H) 0), (5, AVal.ptr (List.length H + 1) 0), (6, AVal.ptr (List.length H + 2) 0), (7, AVal.bool false), (8, AVal.ptr (List.length H + 3) 0), (19, AVal.fn F.lens_Lens_Words_1 [] [cell (AVal.int IntKind.i64 ↑s), cell (AVal.ptr p 0)])] [20] a' b' LoopState.ready none).pending)))[H.length + 4]? = some _ := List.getElem?_set_self (by omega)
    have ro : ∀ m, m ≠ H.length + 4 → (H1.set (H.length + 4) (ABlk.loop (lrec { fn := F.cuneiformlaw03_words, nt := 62, res := [ARes.cell 6 (some 3), ARes.tmp 7], rd := none } [(4, AVal.ptr (List.length H) 0), (5, AVal.ptr (List.length H + 1) 0), (6, AVal.ptr (List.length H + 2) 0), (7, AVal.bool false), (8, AVal.ptr (List.length H + 3) 0), (19, AVal.fn F.lens_Lens_Words_1 [] [cell (AVal.int IntKind.i64 ↑s), cell (AVal.ptr p 0)])] [20] a' b' LoopState.busy (lrec { fn := F.cuneiformlaw03_words, nt := 62, res := [ARes.cell 6 (some 3), ARes.tmp 7], rd := none } [(4, AVal.ptr (List.length H) 0), (5, AVal.ptr (List.length H + 1) 0), (6, AVal.ptr (List.length H + 2) 0), (7, AVal.bool false), (8, AVal.ptr (List.length H + 3) 0), (19, AVal.fn F.lens_Lens_Words_1 [] [cell (AVal.int IntKind.i64 ↑s), cell (AVal.ptr p 0)])] [20] a' b' LoopState.ready none).pending)))[m]? = H1[m]? := fun m hm => by rw [List.getElem?_set_ne (fun e => hm e.symm)]
    have rl : (H1.set (H.length + 4) (ABlk.loop (lrec { fn := F.cuneiformlaw03_words, nt := 62, res := [ARes.cell 6 (some 3), ARes.tmp 7], rd := none } [(4, AVal.ptr (List.length H) 0), (5, AVal.ptr (List.length H + 1) 0), (6, AVal.ptr (List.length H + 2) 0), (7, AVal.bool false), (8, AVal.ptr (List.length H + 3) 0), (19, AVal.fn F.lens_Lens_Words_1 [] [cell (AVal.int IntKind.i64 ↑s), cell (AVal.ptr p 0)])] [20] a' b' LoopState.busy (lrec { fn := F.cuneiformlaw03_words, nt := 62, res := [ARes.cell 6 (some 3), ARes.tmp 7], rd := none } [(4, AVal.ptr (List.length H) 0), (5, AVal.ptr (List.length H + 1) 0), (6, AVal.ptr (List.length H + 2) 0), (7, AVal.bool false), (8, AVal.ptr (List.length H + 3) 0), (19, AVal.fn F.lens_Lens_Words_1 [] [cell (AVal.int IntKind.i64 ↑s), cell (AVal.ptr p 0)])] [20] a' b' LoopState.ready none).pending))).length = H1.length := by simp
    generalize (H1.set (H.length + 4) (ABlk.loop (lrec { fn := F.cuneiformlaw03_words, nt := 62, res := [ARes.cell 6 (some 3), ARes.tmp 7], rd := none } [(4, AVal.ptr (List.length H) 0), (5, AVal.ptr (List.length H + 1) 0), (6, AVal.ptr (List.length H + 2) 0), (7, AVal.bool false), (8, AVal.ptr (List.length H + 3) 0), (19, AVal.fn F.lens_Lens_Words_1 [] [cell (AVal.int IntKind.i64 ↑s), cell (AVal.ptr p 0)])] [20] a' b' LoopState.busy (lrec { fn := F.cuneiformlaw03_words, nt := 62, res := [ARes.cell 6 (some 3), ARes.tmp 7], rd := none } [(4, AVal.ptr (List.length H) 0), (5, AVal.ptr (List.length H + 1) 0), (6, AVal.ptr (List.length H + 2) 0), (7, AVal.bool false), (8, AVal.ptr (List.length H + 3) 0), (19, AVal.fn F.lens_Lens_Words_1 [] [cell (AVal.int IntKind.i64 ↑s), cell (AVal.ptr p 0)])] [20] a' b' LoopState.ready none).pending))) = G at *
    rw [mL] at r0
    refine runL_V 60 ?_
    simp (disch := first | omega | (simp only [List.length_append, List.length_cons, List.length_nil, List.length_set, List.length_map, List.length_take, List.length_drop]; omega)) only [stdh, goK_s2b, dgoK_s2b, isEff_s2b, isPure_s2b, goK_b2s, dgoK_b2s, isEff_b2s, isPure_b2s, evalOp_s2b, s2bR, goK_mark, dgoK_mark, isEff_mark, isPure_mark, evalOp_mark, markA_slc, markB, ↓reduceIte, Nat.reduceEqDiff, Int.reduceToNat, Int.reducePow, Nat.reduceAdd, Nat.reduceLeDiff, Nat.reduceMul, Nat.reduceBEq, reduceCtorEq, r0, r3, at_low, mL, List.getElem?_set_ne, List.getElem?_set_self, set_low]
    refine round_fin (n := H.length + 4) rfl (by rw [List.getElem?_append_left (by (first | omega | (simp only [List.length_append, List.length_cons, List.length_nil, List.length_set, List.length_map, List.length_take, List.length_drop]; omega)))]; simp (disch := first | omega | (simp only [List.length_append, List.length_cons, List.length_nil, List.length_set, List.length_map, List.length_take, List.length_drop]; omega)) only [List.getElem?_set_ne, List.getElem?_set_self, List.length_set, ne_eq, not_false_eq_true]; exact r4) ?_
    refine varsNQ_mk rfl (by (first | omega | (simp only [List.length_append, List.length_cons, List.length_nil, List.length_set, List.length_map, List.length_take, List.length_drop]; omega))) (fun m m1 m2 m3 => ?_) ?_ ?_
    · simp only [List.map_cons, List.map_nil, List.mem_cons, List.not_mem_nil, or_false, not_or] at m3
      rw [List.getElem?_set_ne (by omega), List.getElem?_append_left (by (first | omega | (simp only [List.length_append, List.length_cons, List.length_nil, List.length_set, List.length_map, List.length_take, List.length_drop]; omega))), List.getElem?_set_ne (by omega), List.getElem?_set_ne (by omega), ro m m2]
    · refine varsN_cons ?_ (varsN_cons ?_ varsN_nil)
      · rw [List.getElem?_set_ne (by omega), List.getElem?_append_left (by (first | omega | (simp only [List.length_append, List.length_cons, List.length_nil, List.length_set, List.length_map, List.length_take, List.length_drop]; omega))), List.getElem?_set_ne (by omega), List.getElem?_set_self (by (first | omega | (simp only [List.length_append, List.length_cons, List.length_nil, List.length_set, List.length_map, List.length_take, List.length_drop]; omega)))]
      · rw [List.getElem?_set_ne (by omega), List.getElem?_append_left (by (first | omega | (simp only [List.length_append, List.length_cons, List.length_nil, List.length_set, List.length_map, List.length_take, List.length_drop]; omega))), List.getElem?_set_self (by (first | omega | (simp only [List.length_append, List.length_cons, List.length_nil, List.length_set, List.length_map, List.length_take, List.length_drop]; omega)))]
    · rw [List.getElem?_set_self (by (first | omega | (simp only [List.length_append, List.length_cons, List.length_nil, List.length_set, List.length_map, List.length_take, List.length_drop]; omega)))]
      rfl
  · intro H' hl hkp hc _ hv
    have q0 : H'[H.length]? = some (.cells (mL ys (a + wCount ys a e z * z.toNat) e) T.cuneiformref03_L) := hv.get (c := H.length) (T := T.cuneiformref03_L) (f := fun j => mL ys (a + j * z.toNat) e) (by simp)
    have q3 : H'[H.length + 3]? = some (.cells [.bool true] T.bool) := hv.get (c := H.length + 3) (T := T.bool) (f := fun _ => [.bool true]) (by simp)
    have q1 := (hkp (H.length + 1) (by omega) (by simp) (by simp; omega)).trans g1
    have q2 := (hkp (H.length + 2) (by omega) (by simp) (by simp; omega)).trans g2
    have qp := hc p (by simp)
    have hkk : ∀ m, m < H.length → m ≠ p → H'[m]? = H[m]? := fun m hm hmp => (hkp m (by omega) (by simp; omega) (by simpa using hmp)).trans (hk2.2 m hm)
    have hfin : z = 1 ∨ z = 2 ∨ z = 4 → e = 0 → ys.length - (a + wCount ys a e z * z.toNat) < z.toNat := by
      rintro hz rfl
      have h0 : wCount ys a 0 z = (ys.length - a) / z.toNat := by unfold wCount; rw [if_pos ⟨rfl, hz⟩]
      rw [h0]
      have hd := Nat.div_add_mod (ys.length - a) z.toNat
      have hm := Nat.mod_lt (ys.length - a) (show 0 < z.toNat by omega)
      rw [Nat.mul_comm z.toNat] at hd
      omega
    generalize a + wCount ys a e z * z.toNat = a2 at *
    rw [mL] at q0
    refine run_V0 100 ?_
    by_cases hz : z = 1 ∨ z = 2 ∨ z = 4
    · have hl0 : ((ys.length : Nat) : Int) - (a2 : Nat) = ((ys.length - a2 : Nat) : Int) := by omega
      by_cases he0 : e = 0
      · subst he0
        have hlt := hfin hz rfl
        rcases hz with rfl | rfl | rfl
        all_goals
          simp (disch := first | omega | (simp only [List.length_append, List.length_cons, List.length_nil, List.length_set, List.length_map, List.length_take, List.length_drop]; omega)) only [stdh, goK_s2b, dgoK_s2b, isEff_s2b, isPure_s2b, goK_b2s, dgoK_b2s, isEff_b2s, isPure_b2s, evalOp_s2b, s2bR, goK_mark, dgoK_mark, isEff_mark, isPure_mark, evalOp_mark, markA_slc, markB, ↓reduceIte, Nat.reduceEqDiff, Int.reduceToNat, Int.reducePow, Nat.reduceAdd, Nat.reduceLeDiff, Nat.reduceMul, Nat.reduceBEq, reduceCtorEq, q0, q1, q2, q3, hl0, cuneiformlaw03_words.d1, List.getElem?_set_ne, List.getElem?_set_self]
          refine mut_mk (by (first | omega | (simp only [List.length_append, List.length_cons, List.length_nil, List.length_set, List.length_map, List.length_take, List.length_drop]; omega))) (fun n h1 h2 => ?_) ?_ (lensB_closed _ _ _) ⟨mL_closed _ _ _, trivial, trivial⟩ h
          · simp (disch := first | omega | (simp only [List.length_append, List.length_cons, List.length_nil, List.length_set, List.length_map, List.length_take, List.length_drop]; omega)) only [List.getElem?_set_ne, List.getElem?_set_self, List.length_set, ne_eq, not_false_eq_true]
            exact hkk n h1 h2
          · simp (disch := first | omega | (simp only [List.length_append, List.length_cons, List.length_nil, List.length_set, List.length_map, List.length_take, List.length_drop]; omega)) only [List.getElem?_set_ne, List.getElem?_set_self, List.length_set, ne_eq, not_false_eq_true]
            exact qp
      · have he' : ¬ ((e : Nat) : Int) = 0 := by omega
        rcases hz with rfl | rfl | rfl
        all_goals
          simp (disch := first | omega | (simp only [List.length_append, List.length_cons, List.length_nil, List.length_set, List.length_map, List.length_take, List.length_drop]; omega)) only [stdh, goK_s2b, dgoK_s2b, isEff_s2b, isPure_s2b, goK_b2s, dgoK_b2s, isEff_b2s, isPure_b2s, evalOp_s2b, s2bR, goK_mark, dgoK_mark, isEff_mark, isPure_mark, evalOp_mark, markA_slc, markB, ↓reduceIte, Nat.reduceEqDiff, Int.reduceToNat, Int.reducePow, Nat.reduceAdd, Nat.reduceLeDiff, Nat.reduceMul, Nat.reduceBEq, reduceCtorEq, q0, q1, q2, q3, hl0, he', cuneiformlaw03_words.d1, List.getElem?_set_ne, List.getElem?_set_self]
          refine mut_mk (by (first | omega | (simp only [List.length_append, List.length_cons, List.length_nil, List.length_set, List.length_map, List.length_take, List.length_drop]; omega))) (fun n h1 h2 => ?_) ?_ (lensB_closed _ _ _) ⟨mL_closed _ _ _, trivial, trivial⟩ h
          · simp (disch := first | omega | (simp only [List.length_append, List.length_cons, List.length_nil, List.length_set, List.length_map, List.length_take, List.length_drop]; omega)) only [List.getElem?_set_ne, List.getElem?_set_self, List.length_set, ne_eq, not_false_eq_true]
            exact hkk n h1 h2
          · simp (disch := first | omega | (simp only [List.length_append, List.length_cons, List.length_nil, List.length_set, List.length_map, List.length_take, List.length_drop]; omega)) only [List.getElem?_set_ne, List.getElem?_set_self, List.length_set, ne_eq, not_false_eq_true]
            exact qp
    · have h1 : ¬ z = 1 := fun h => hz (.inl h)
      have h2 : ¬ z = 2 := fun h => hz (.inr (.inl h))
      have h4 : ¬ z = 4 := fun h => hz (.inr (.inr h))
      simp (disch := first | omega | (simp only [List.length_append, List.length_cons, List.length_nil, List.length_set, List.length_map, List.length_take, List.length_drop]; omega)) only [stdh, goK_s2b, dgoK_s2b, isEff_s2b, isPure_s2b, goK_b2s, dgoK_b2s, isEff_b2s, isPure_b2s, evalOp_s2b, s2bR, goK_mark, dgoK_mark, isEff_mark, isPure_mark, evalOp_mark, markA_slc, markB, ↓reduceIte, Nat.reduceEqDiff, Int.reduceToNat, Int.reducePow, Nat.reduceAdd, Nat.reduceLeDiff, Nat.reduceMul, Nat.reduceBEq, reduceCtorEq, q0, q1, q2, q3, h1, h2, h4, cuneiformlaw03_words.d1, List.getElem?_set_ne, List.getElem?_set_self]
      refine mut_mk (by (first | omega | (simp only [List.length_append, List.length_cons, List.length_nil, List.length_set, List.length_map, List.length_take, List.length_drop]; omega))) (fun n h1 h2 => ?_) ?_ (lensB_closed _ _ _) ⟨mL_closed _ _ _, trivial, trivial⟩ h
      · simp (disch := first | omega | (simp only [List.length_append, List.length_cons, List.length_nil, List.length_set, List.length_map, List.length_take, List.length_drop]; omega)) only [List.getElem?_set_ne, List.getElem?_set_self, List.length_set, ne_eq, not_false_eq_true]
        exact hkk n h1 h2
      · simp (disch := first | omega | (simp only [List.length_append, List.length_cons, List.length_nil, List.length_set, List.length_map, List.length_take, List.length_drop]; omega)) only [List.getElem?_set_ne, List.getElem?_set_self, List.length_set, ne_eq, not_false_eq_true]
        exact qp
end Go.Proofs.Ytebhlclfiiffbaa
