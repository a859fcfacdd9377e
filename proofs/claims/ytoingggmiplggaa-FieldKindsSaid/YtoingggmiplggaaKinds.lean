/-
  Lemmas on the way to the statements of this seat. By an AI agent. No person has read it.
-/
import Derived.Test.YtoingggmiplggaaField

namespace Go.Proofs.Ytoingggmiplggaa
open Go Go.Am
set_option linter.unusedSimpArgs false
set_option linter.unusedVariables false

def kindArgs (j : Nat) : List AVal := [.int .i64 ((j + 1 : Nat) : Int), .str (wordOf ((j + 1 : Nat) : Int))]

abbrev kinds1C : Ctx := ⟨F.field_Kinds_1, 13, [], none⟩

theorem kinds1_loop {n : Nat} {I : Bool → Nat → List Nat → AHeap → Prop} (hI : Fed Try.prog n kindArgs 5 I) (Q : AVal → AHeap → Prop) {H0 : AHeap} {fp0 : List Nat}
    (hQ : ∀ b j fp H, H0.length ≤ H.length → (∀ m, m < H0.length → m ∉ fp0 → H[m]? = H0[m]?) → (b = true → j = 5) → I b j fp H → Q (.tup []) H) :
    ∀ (m j : Nat) (H : AHeap) (fp : List Nat), 5 - j = m → j ≤ 5 → Touches fp0 H0 fp H → I true j fp H →
    Rounds Try.prog kinds1C field_Kinds_1.b0 [.inBlock 0] [] [(0, .yld n), (2, .int .i64 ((j + 1 : Nat) : Int))] H Q
  | m, j, H, fp, h1, h2, ht, hi => by
    refine loop_V 100 field_Kinds_1.b0.eq_1 ?_
    by_cases hj : j < 5
    · simp (disch := first | omega | (simp only [List.length_append, List.length_cons, List.length_nil, List.length_set, List.length_map, List.length_take, List.length_drop]; omega)) only [stdh, ↓reduceIte, Nat.reduceEqDiff, Int.reduceToNat, Int.reducePow, Nat.reduceAdd, Nat.reduceLeDiff, Nat.reduceMul, Nat.reduceBEq, reduceCtorEq]
      refine callK_fn (word_ok _ _ _ ?_)
      refine runL_V 60 ?_
      simp (disch := first | omega | (simp only [List.length_append, List.length_cons, List.length_nil, List.length_set, List.length_map, List.length_take, List.length_drop]; omega)) only [stdh, ↓reduceIte, Nat.reduceEqDiff, Int.reduceToNat, Int.reducePow, Nat.reduceAdd, Nat.reduceLeDiff, Nat.reduceMul, Nat.reduceBEq, reduceCtorEq]
      refine CallV.mono (hI.step j fp H hj hi) fun av H' hh => ?_
      obtain ⟨fp', ht', hh⟩ := hh
      refine runL_V 60 ?_
      rcases hh with ⟨rfl, hi'⟩ | ⟨rfl, hi'⟩
      · simp (disch := first | omega | (simp only [List.length_append, List.length_cons, List.length_nil, List.length_set, List.length_map, List.length_take, List.length_drop]; omega)) only [stdh, ↓reduceIte, Nat.reduceEqDiff, Int.reduceToNat, Int.reducePow, Nat.reduceAdd, Nat.reduceLeDiff, Nat.reduceMul, Nat.reduceBEq, reduceCtorEq]
        rw [show ((j + 1 : Nat) : Int) + 1 = ((j + 1 + 1 : Nat) : Int) by omega]
        exact kinds1_loop hI Q hQ _ (j + 1) H' fp' rfl (by omega) (ht.trans ht') hi'
      · simp (disch := first | omega | (simp only [List.length_append, List.length_cons, List.length_nil, List.length_set, List.length_map, List.length_take, List.length_drop]; omega)) only [stdh, ↓reduceIte, Nat.reduceEqDiff, Int.reduceToNat, Int.reducePow, Nat.reduceAdd, Nat.reduceLeDiff, Nat.reduceMul, Nat.reduceBEq, reduceCtorEq]
        exact hQ false _ fp' H' (ht.trans ht').le (ht.trans ht').kept (fun hh => by cases hh) hi'
    · have : j = 5 := by omega
      simp (disch := first | omega | (simp only [List.length_append, List.length_cons, List.length_nil, List.length_set, List.length_map, List.length_take, List.length_drop]; omega)) only [stdh, ↓reduceIte, Nat.reduceEqDiff, Int.reduceToNat, Int.reducePow, Nat.reduceAdd, Nat.reduceLeDiff, Nat.reduceMul, Nat.reduceBEq, reduceCtorEq]
      refine run_fin rfl rfl trivial ?_
      exact hQ true j fp H ht.le ht.kept (fun _ => this) hi
  termination_by m => m

theorem kinds1_iter {H : AHeap} {n : Nat} : Iter Try.prog F.field_Kinds_1 [.yld n] n kindArgs 5 [] H := by
  intro I hI fp hi hown
  refine fun_V 100 field_Kinds_1_code rfl ?_
  simp (disch := first | omega | (simp only [List.length_append, List.length_cons, List.length_nil, List.length_set, List.length_map, List.length_take, List.length_drop]; omega)) only [stdh, ↓reduceIte, Nat.reduceEqDiff, Int.reduceToNat, Int.reducePow, Nat.reduceAdd, Nat.reduceLeDiff, Nat.reduceMul, Nat.reduceBEq, reduceCtorEq, field_Kinds_1, field_Kinds_1.body]
  refine kinds1_loop hI _ ?_ _ 0 H fp rfl (by omega) (Touches.refl _ _) hi
  intro b j fp' H' h1 h2 h3 h4
  exact ⟨b, j, fp', h1, h2, h3, h4⟩

theorem kinds_ok (H : AHeap) (Q : AVal → AHeap → Prop) (h : Q (.fn F.field_Kinds_1 [] []) H) : FunOK Try.prog F.field_Kinds [] H Q := by
  refine fun_V 40 field_Kinds_code rfl ?_
  simp (disch := first | omega | (simp only [List.length_append, List.length_cons, List.length_nil, List.length_set, List.length_map, List.length_take, List.length_drop]; omega)) only [stdh, ↓reduceIte, Nat.reduceEqDiff, Int.reduceToNat, Int.reducePow, Nat.reduceAdd, Nat.reduceLeDiff, Nat.reduceMul, Nat.reduceBEq, reduceCtorEq, field_Kinds, field_Kinds.body]
  exact h

def kindOf (w : ByteArray) : Nat := if w = wordOf 1 then 1 else if w = wordOf 2 then 2 else if w = wordOf 3 then 3 else if w = wordOf 4 then 4 else if w = wordOf 5 then 5 else 0

def kStop (w : ByteArray) (j : Nat) : Option AJump := if wordOf ((j + 1 : Nat) : Int) = w then some .ret else none
def kVal (w : ByteArray) (j : Nat) : AVal := .int .i64 ((if 0 < j ∧ wordOf (j : Int) = w then j else 0 : Nat) : Int)

theorem words_apart : ∀ i j : Fin 6, wordOf ((i.val : Nat) : Int) = wordOf ((j.val : Nat) : Int) → i = j := by decide +kernel

theorem kindOf_word {w : ByteArray} {j : Nat} (hj : j < 5) (h : wordOf ((j + 1 : Nat) : Int) = w) : kindOf w = j + 1 := by
  subst h
  have : ∀ j : Fin 5, kindOf (wordOf ((j.val + 1 : Nat) : Int)) = j.val + 1 := by decide +kernel
  exact this ⟨j, hj⟩

theorem kindOf_none {w : ByteArray} (h : ∀ j, j < 5 → wordOf ((j + 1 : Nat) : Int) ≠ w) : kindOf w = 0 := by
  have h0 := h 0 (by omega)
  have h1 := h 1 (by omega)
  have h2 := h 2 (by omega)
  have h3 := h 3 (by omega)
  have h4 := h 4 (by omega)
  unfold kindOf
  rw [if_neg (fun e => h0 e.symm), if_neg (fun e => h1 e.symm), if_neg (fun e => h2 e.symm), if_neg (fun e => h3 e.symm), if_neg (fun e => h4 e.symm)]

theorem kind_ok (H : AHeap) (w : ByteArray) (Q : AVal → AHeap → Prop) (h : Q (.int .i64 (kindOf w)) H) : FunOK Try.prog F.field_Kind [.str w] H Q := by
  refine fun_iced field_Kind_code fun _ => ?_
  refine fun_V 60 field_Kind_code rfl ?_
  simp (disch := first | omega | (simp only [List.length_append, List.length_cons, List.length_nil, List.length_set, List.length_map, List.length_take, List.length_drop]; omega)) only [stdh, ↓reduceIte, Nat.reduceEqDiff, Int.reduceToNat, Int.reducePow, Nat.reduceAdd, Nat.reduceLeDiff, Nat.reduceMul, Nat.reduceBEq, reduceCtorEq, field_Kind, field_Kind.body]
  refine callK_fn (kinds_ok _ _ ?_)
  refine runL_V 60 ?_
  simp (disch := first | omega | (simp only [List.length_append, List.length_cons, List.length_nil, List.length_set, List.length_map, List.length_take, List.length_drop]; omega)) only [stdh, ↓reduceIte, Nat.reduceEqDiff, Int.reduceToNat, Int.reducePow, Nat.reduceAdd, Nat.reduceLeDiff, Nat.reduceMul, Nat.reduceBEq, reduceCtorEq]
  have g0 : (H ++ [ABlk.cells [AVal.str w] T.string, ABlk.cells [AVal.int IntKind.i64 0] T.int])[H.length]? = some (.cells [.str w] T.string) := at_0
  have g1 : (H ++ [ABlk.cells [AVal.str w] T.string, ABlk.cells [AVal.int IntKind.i64 0] T.int])[H.length + 1]? = some (.cells [kVal w 0] T.int) := at_k
  have hk := keeps_append H [ABlk.cells [AVal.str w] T.string, ABlk.cells [AVal.int IntKind.i64 0] T.int]
  have hl2 : (H ++ [ABlk.cells [AVal.str w] T.string, ABlk.cells [AVal.int IntKind.i64 0] T.int]).length = H.length + 2 := by simp
  generalize H ++ [ABlk.cells [AVal.str w] T.string, ABlk.cells [AVal.int IntKind.i64 0] T.int] = H2 at *
  refine range_vars (g := F.field_Kinds_1) (first := []) (captured := []) rfl (by intro n hn; cases hn) (item := kindArgs) (len := 5) (fun j => rfl) [(H.length + 1, T.int, kVal w)] (kStop w) (vars_cons g1 vars_nil) ?_ (fun _ _ _ => kinds1_iter) ?_ ?_
  · intro a' b' j H1 hj hst hl hkp hrec hv
    have q0 := (hkp H.length (by omega) (by simp)).trans g0
    have q1 := hv.get (c := H.length + 1) (T := T.int) (f := kVal w) (by simp)
    have hkv : kVal w j = .int .i64 0 := by
      cases j with
      | zero => rfl
      | succ j =>
        have := hst j (by omega)
        unfold kStop at this
        split at this
        · cases this
        · rename_i hne
          simp only [kVal]
          rw [if_neg (fun hh => hne hh.2)]; rfl
    refine run_V0 60 ?_
    by_cases hw : wordOf ((j + 1 : Nat) : Int) = w
    · have hs : kStop w j = some .ret := by simp only [kStop, if_pos hw]
      rw [hs]
      simp (disch := first | omega | (simp only [List.length_append, List.length_cons, List.length_nil, List.length_set, List.length_map, List.length_take, List.length_drop]; omega)) only [stdh, ↓reduceIte, Nat.reduceEqDiff, Int.reduceToNat, Int.reducePow, Nat.reduceAdd, Nat.reduceLeDiff, Nat.reduceMul, Nat.reduceBEq, reduceCtorEq, field_Kind.a0, field_Kind.b0, hrec, q0, q1, hkv, kindArgs, List.zip_cons_cons, List.zip_nil_left, List.reverse_cons, List.reverse_nil, List.getElem?_set_self, List.getElem?_set_ne, hw]
      refine varsQ_mk rfl (by (first | omega | (simp only [List.length_append, List.length_cons, List.length_nil, List.length_set, List.length_map, List.length_take, List.length_drop]; omega))) (fun m m1 m2 m3 => ?_) (vars_cons ?_ vars_nil) (by simp (disch := first | omega | (simp only [List.length_append, List.length_cons, List.length_nil, List.length_set, List.length_map, List.length_take, List.length_drop]; omega)) only [List.getElem?_set_ne, List.getElem?_set_self, List.length_set, ne_eq, not_false_eq_true]; rfl)
      · simp only [List.map_cons, List.map_nil, List.mem_cons, List.not_mem_nil, or_false] at m3
        simp (disch := first | omega | (simp only [List.length_append, List.length_cons, List.length_nil, List.length_set, List.length_map, List.length_take, List.length_drop]; omega)) only [List.getElem?_set_ne, List.getElem?_set_self, List.length_set, ne_eq, not_false_eq_true]
      · show _ = some (ABlk.cells [kVal w (j + 1)] T.int)
        have : kVal w (j + 1) = .int .i64 ((j + 1 : Nat) : Int) := by
          simp only [kVal]; rw [if_pos ⟨by omega, hw⟩]
        rw [this]; simp (disch := first | omega | (simp only [List.length_append, List.length_cons, List.length_nil, List.length_set, List.length_map, List.length_take, List.length_drop]; omega)) only [List.getElem?_set_ne, List.getElem?_set_self, List.length_set, ne_eq, not_false_eq_true]
    · have hs : kStop w j = none := by simp only [kStop, if_neg hw]
      rw [hs]
      simp (disch := first | omega | (simp only [List.length_append, List.length_cons, List.length_nil, List.length_set, List.length_map, List.length_take, List.length_drop]; omega)) only [stdh, ↓reduceIte, Nat.reduceEqDiff, Int.reduceToNat, Int.reducePow, Nat.reduceAdd, Nat.reduceLeDiff, Nat.reduceMul, Nat.reduceBEq, reduceCtorEq, field_Kind.a0, field_Kind.b0, hrec, q0, q1, hkv, kindArgs, List.zip_cons_cons, List.zip_nil_left, List.reverse_cons, List.reverse_nil, List.getElem?_set_self, List.getElem?_set_ne, hw]
      refine round_fin (n := H2.length) (L := lrec _ _ _ a' b' .busy none) rfl (by simp (disch := first | omega | (simp only [List.length_append, List.length_cons, List.length_nil, List.length_set, List.length_map, List.length_take, List.length_drop]; omega)) only [List.getElem?_set_ne, List.getElem?_set_self, List.length_set, ne_eq, not_false_eq_true]; rfl) ?_
      refine varsQ_mk rfl (by (first | omega | (simp only [List.length_append, List.length_cons, List.length_nil, List.length_set, List.length_map, List.length_take, List.length_drop]; omega))) (fun m m1 m2 m3 => ?_) (vars_cons ?_ vars_nil) (by simp (disch := first | omega | (simp only [List.length_append, List.length_cons, List.length_nil, List.length_set, List.length_map, List.length_take, List.length_drop]; omega)) only [List.getElem?_set_ne, List.getElem?_set_self, List.length_set, ne_eq, not_false_eq_true]; rfl)
      · simp only [List.map_cons, List.map_nil, List.mem_cons, List.not_mem_nil, or_false] at m3
        simp (disch := first | omega | (simp only [List.length_append, List.length_cons, List.length_nil, List.length_set, List.length_map, List.length_take, List.length_drop]; omega)) only [List.getElem?_set_ne, List.getElem?_set_self, List.length_set, ne_eq, not_false_eq_true]
      · show _ = some (ABlk.cells [kVal w (j + 1)] T.int)
        have : kVal w (j + 1) = .int .i64 0 := by
          simp only [kVal]; rw [if_neg (fun hh => hw hh.2)]; rfl
        rw [this, ← hkv]; simp (disch := first | omega | (simp only [List.length_append, List.length_cons, List.length_nil, List.length_set, List.length_map, List.length_take, List.length_drop]; omega)) only [List.getElem?_set_ne, List.getElem?_set_self, List.length_set, ne_eq, not_false_eq_true]; exact q1
  · intro H' hl hkp hst hv
    have q1 := hv.get (c := H.length + 1) (T := T.int) (f := kVal w) (by simp)
    refine run_V0 60 ?_
    simp (disch := first | omega | (simp only [List.length_append, List.length_cons, List.length_nil, List.length_set, List.length_map, List.length_take, List.length_drop]; omega)) only [stdh, ↓reduceIte, Nat.reduceEqDiff, Int.reduceToNat, Int.reducePow, Nat.reduceAdd, Nat.reduceLeDiff, Nat.reduceMul, Nat.reduceBEq, reduceCtorEq, q1]
    have hlt : H.length + 1 < H'.length := (List.getElem?_eq_some_iff.1 q1).1
    simp (disch := first | omega | (simp only [List.length_append, List.length_cons, List.length_nil, List.length_set, List.length_map, List.length_take, List.length_drop]; omega)) only [stdh, ↓reduceIte, Nat.reduceEqDiff, Int.reduceToNat, Int.reducePow, Nat.reduceAdd, Nat.reduceLeDiff, Nat.reduceMul, Nat.reduceBEq, reduceCtorEq, List.getElem?_set_self]
    have h0 : kindOf w = 0 := kindOf_none fun j hj => by
      have := hst j hj
      unfold kStop at this
      split at this
      · cases this
      · assumption
    rw [h0] at h
    have hkH : Keeps H H' := ⟨by omega, fun m hm => by rw [hkp m (by omega) (by simp; omega), hk.at_ m hm]⟩
    exact ice_keeps (hkH.set (by omega) _) trivial h
  · intro ap j H' hl hkp hj hs hst hv
    have q1 := hv.get (c := H.length + 1) (T := T.int) (f := kVal w) (by simp)
    have hw : wordOf ((j + 1 : Nat) : Int) = w := by
      refine Classical.byContradiction fun hn => ?_
      simp only [kStop, if_neg hn] at hs
      cases hs
    simp only [kStop, if_pos hw] at hs
    cases hs
    have e1 : kVal w (j + 1) = .int .i64 ((j + 1 : Nat) : Int) := by
      simp only [kVal]; rw [if_pos ⟨by omega, hw⟩]
    rw [e1, ← kindOf_word hj hw] at q1
    refine run_V0 60 ?_
    simp (disch := first | omega | (simp only [List.length_append, List.length_cons, List.length_nil, List.length_set, List.length_map, List.length_take, List.length_drop]; omega)) only [stdh, ↓reduceIte, Nat.reduceEqDiff, Int.reduceToNat, Int.reducePow, Nat.reduceAdd, Nat.reduceLeDiff, Nat.reduceMul, Nat.reduceBEq, reduceCtorEq, jumpItems, q1]
    have hkH : Keeps H H' := ⟨by omega, fun m hm => by rw [hkp m (by omega) (by simp; omega), hk.at_ m hm]⟩
    exact ice_keeps hkH trivial h
end Go.Proofs.Ytoingggmiplggaa
