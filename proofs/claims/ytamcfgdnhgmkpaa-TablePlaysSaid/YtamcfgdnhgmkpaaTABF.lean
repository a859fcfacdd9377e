/-
  Lemmas on the way to the statements of this seat. By an AI agent. No person has read it.
-/
import Derived.Test.YtamcfgdnhgmkpaaTABE
import Derived.Test.YtamcfgdnhgmkpaaIT
set_option linter.unusedSimpArgs false
set_option linter.unusedVariables false

namespace Go.Proofs.Ytamcfgdnhgmkpaa
open Go Go.Am
set_option linter.unusedSimpArgs false
set_option linter.unusedVariables false

/-! The frames of one message, in their order. -/

theorem seqs_upd (ts : Ts) (q : Int) (fs : List Fr) : seqsT (updTs ts q fs) = seqsT ts := by
  unfold seqsT updTs
  rw [List.map_map]
  refine List.map_congr_left fun t _ => ?_
  simp only [Function.comp]
  split <;> rfl
theorem seqs_drop {ts : Ts} {q p : Int} (h : p ∈ seqsT (dropT ts q)) : p ∈ seqsT ts := by
  simp only [seqsT, List.mem_map, dropT] at h ⊢
  obtain ⟨t, ht, e⟩ := h
  exact ⟨t, (List.mem_filter.1 ht).1, e⟩
theorem takeT_seqs {ts : Ts} {o : OutT} {f : Fr} {p : Int} (h : p ∈ seqsT (takeT ts o f).1) : p ∈ seqsT ts := by
  unfold takeT at h
  split at h
  · exact h
  split at h
  · exact seqs_drop h
  · rwa [seqs_upd] at h
theorem putT_seqs {room : Nat} {ts : Ts} {f : Fr} {p : Int} (h : p ∈ seqsT (putT room ts f).1) : p ∈ seqsT ts ∨ p = f.h.s := by
  have app : ∀ {ts : Ts}, p ∈ seqsT (ts ++ [({ f.h with i := 0 }, ([] : List Fr))]) → p ∈ seqsT ts ∨ p = f.h.s := fun {ts} hh => by
    simp only [seqsT, List.map_append, List.map_cons, List.map_nil, List.mem_append, List.mem_singleton] at hh ⊢
    exact hh
  unfold putT at h
  split at h
  · exact .inl h
  split at h
  · exact .inl h
  split at h
  · exact .inl (takeT_seqs h)
  split at h
  · exact .inl h
  split at h
  · exact app (takeT_seqs h)
  split at h
  · exact .inl h
  · rcases app (takeT_seqs h) with hh | hh
    · exact .inl (seqs_drop hh)
    · exact .inr hh
theorem hasT_iff {ts : Ts} {q : Int} : hasT ts q = true ↔ q ∈ seqsT ts := by
  simp only [hasT, List.any_eq_true, decide_eq_true_eq, seqsT, List.mem_map]
theorem hasT_dropped (ts : Ts) (q : Int) : hasT (dropT ts q) q = false := by
  simp only [hasT, List.any_eq_false, dropT, List.mem_filter]
  rintro t ⟨_, h⟩
  simpa using h
theorem hasT_upd (ts : Ts) (q : Int) (fs : List Fr) : hasT (updTs ts q fs) q = hasT ts q := by
  have h1 := hasT_iff (ts := updTs ts q fs) (q := q)
  have h2 := hasT_iff (ts := ts) (q := q)
  rw [seqs_upd, ← h2] at h1
  exact Bool.eq_iff_iff.2 h1
theorem getT_upd {ts : Ts} {q : Int} (h : hasT ts q = true) (fs : List Fr) : getT (updTs ts q fs) q = ((getT ts q).1, fs) := by
  induction ts with
  | nil => simp [hasT] at h
  | cons t ts ih =>
    unfold getT updTs at *
    rw [List.map_cons, List.find?_cons, List.find?_cons]
    by_cases ht : t.1.s = q
    · simp [ht]
    · have h' : hasT ts q = true := by simpa [hasT, ht] using h
      have := ih h'
      simp only [ht, if_false, decide_false]
      exact this
set_option linter.unusedSimpArgs false
set_option linter.unusedVariables false

/-! The document's table. -/

def encT (t : Hd × List Fr) : List AVal := encS t.1 t.2
theorem encT_len (t : Hd × List Fr) : (encT t).length = 6 := rfl
def refA (room : Nat) (ts : Ts) : List AVal := [.int .i64 (room : Nat), recs encT false ts]
theorem ts_closeds (L : Nat) (ts : Ts) : closeds L (ts.flatMap encT) := by
  refine closeds_all fun x hx => ?_
  obtain ⟨t, _, ht⟩ := List.mem_flatMap.1 hx
  simp only [encT, encS, List.mem_cons, List.not_mem_nil, or_false] at ht
  rcases ht with rfl | rfl | rfl | rfl | rfl | rfl <;> first | trivial | exact frs_closed _ _ _
theorem ts_all (ts : Ts) : (ts.flatMap encT).all AVal.cellish = true := by
  rw [List.all_eq_true]
  intro x hx
  obtain ⟨t, _, ht⟩ := List.mem_flatMap.1 hx
  simp only [encT, encS, List.mem_cons, List.not_mem_nil, or_false] at ht
  rcases ht with rfl | rfl | rfl | rfl | rfl | rfl <;> rfl
theorem ts_flat : ∀ (ts : Ts), (ts.flatMap encT).length = ts.length * 6
  | [] => rfl
  | t :: ts => by rw [List.flatMap_cons, List.length_append, ts_flat ts, encT_len, List.length_cons]; omega
theorem refA_closed (L room : Nat) (ts : Ts) : closed L (.agg (refA room ts)) := by
  simp only [refA, closed, closeds, true_and, and_true]
  exact ts_closeds L ts
theorem ts_seq {H : AHeap} {ts : Ts} {j : Nat} (hj : j < ts.length) : loadA H none (.sptr (recs encT false ts) (j * 6 + 2)) = some (True, .int .u32 (ts.getD j default).1.s) := load_rec1 encT_len hj (by omega)
theorem ts_load {H : AHeap} {ts : Ts} {j : Nat} (hj : j < ts.length) : loadA H (some 6) (.sptr (recs encT false ts) (j * 6)) = some (True, .agg (encT (ts.getD j default))) := by
  have := load_recN (H := H) (t := false) (zs := ts) (j := j) (o := 0) (n := 6) encT_len hj (by omega)
  rw [Nat.add_zero] at this
  exact this

/-! The place of a number. -/
def FindR (ts : Ts) (q r : Int) : Prop := (r = -1 ∧ hasT ts q = false) ∨ ∃ j : Nat, r = (j : Nat) ∧ j < ts.length ∧ (ts.getD j default).1.s = q ∧ hasT ts q = true
theorem hasT_at {ts : Ts} {j : Nat} {q : Int} (hj : j < ts.length) (h : (ts.getD j default).1.s = q) : hasT ts q = true := by
  rw [hasT_iff]
  simp only [seqsT, List.mem_map]
  refine ⟨ts.getD j default, ?_, h⟩
  rw [show ts.getD j default = ts[j] by simp [List.getD_eq_getElem?_getD, hj]]
  exact List.getElem_mem hj
theorem hasT_none {ts : Ts} {q : Int} (h : ∀ j, j < ts.length → (ts.getD j default).1.s ≠ q) : hasT ts q = false := by
  simp only [hasT, List.any_eq_false, decide_eq_true_eq]
  intro t ht
  obtain ⟨j, hj, rfl⟩ := List.mem_iff_getElem.1 ht
  have := h j hj
  rwa [show ts.getD j default = ts[j] by simp [List.getD_eq_getElem?_getD, hj]] at this

abbrev rfC : Ctx := ⟨F.cuneiformref14_find, 23, [.tmp 4], none⟩
section
variable {room : Nat} {ts : Ts}
theorem rfind_loop {q : Int} (hlen : ts.length ≤ 1000) (K : List AItem) (Q : AVal → AHeap → Prop) {p : Nat} (H : AHeap) (hp : H[p]? = some (.cells (refA room ts) T.cuneiformref14_T)) (hq : ∀ r, FindR ts q r → r ≠ -1 → Q (.int .i64 r) H) (hK : hasT ts q = false → ∀ r, Run Try.prog rfC K r H Q) :
    ∀ (z j : Nat), ts.length - j = z → j ≤ ts.length → (∀ m, m < j → (ts.getD m default).1.s ≠ q) →
    Rounds Try.prog rfC cuneiformref14_find.b0 [.inBlock 0] K [(1, .int .u32 q), (2, .ptr p 0), (5, .int .i64 (j : Nat))] H Q
  | z, j, h1, h2, hh => by
    refine loop_V 100 cuneiformref14_find.b0.eq_1 ?_
    have hp' := hp
    simp only [refA] at hp'
    have hcast : (j : Int) + 1 = ((j + 1 : Nat) : Int) := by omega
    by_cases hj : j < ts.length
    · have hld := ts_seq (H := H) hj
      by_cases he : (ts.getD j default).1.s = q
      · have d : decide ((ts.getD j default).1.s = q) = true := decide_eq_true he
        simp (disch := first | omega | (simp only [lnx]; omega)) only [stdh, stdx, ↓reduceIte, seval, hp', hld, d]
        exact hq _ (.inr ⟨j, rfl, hj, he, hasT_at hj he⟩) (by omega)
      · have d : decide ((ts.getD j default).1.s = q) = false := decide_eq_false he
        simp (disch := first | omega | (simp only [lnx]; omega)) only [stdh, stdx, ↓reduceIte, seval, hp', hld, d]
        rw [hcast]
        exact rfind_loop hlen K Q H hp hq hK _ (j + 1) rfl (by omega) fun m h3 => by
          by_cases hm : m = j
          · subst hm; exact he
          · exact hh m (by omega)
    · simp (disch := first | omega | (simp only [lnx]; omega)) only [stdh, stdx, ↓reduceIte, seval, hp']
      exact hK (hasT_none fun m hm => hh m (by omega)) _
  termination_by z => z
theorem rfind_ok (H : AHeap) {q : Int} (hlen : ts.length ≤ 1000) (Q : AVal → AHeap → Prop) (hq : ∀ r, FindR ts q r → Q (.int .i64 r) H) : FunOK Try.prog F.cuneiformref14_find [.agg (refA room ts), .int .u32 q] H Q := by
  refine fun_iced cuneiformref14_find_code fun _ => ?_
  refine fun_V 60 cuneiformref14_find_code rfl ?_
  simp (disch := first | omega | (simp only [lnx]; omega)) only [stdh, stdx, ↓reduceIte, seval, cuneiformref14_find, cuneiformref14_find.body, refA]
  refine rfind_loop hlen _ _ (p := H.length) _ at_0 (fun r hr _ => ice_none trivial (hq r hr)) ?_ _ 0 rfl (Nat.zero_le _) (by omega)
  intro hn r
  refine run_V0 60 ?_
  simp (disch := first | omega | (simp only [lnx]; omega)) only [stdh, stdx, ↓reduceIte, seval]
  exact ice_none trivial (hq _ (.inl ⟨rfl, hn⟩))

abbrev rhdC : Ctx := ⟨F.cuneiformref14_Held, 21, [.tmp 2], none⟩
theorem heldT_take {j : Nat} (hj : j < ts.length) : heldT (ts.take (j + 1)) = heldT (ts.take j) + sizeFs (ts.getD j default).2 := by
  rw [List.take_succ_eq_append_getElem hj, show ts.getD j default = ts[j] by simp [List.getD_eq_getElem?_getD, hj]]
  simp only [heldT, List.map_append, List.map_cons, List.map_nil, List.sum_append, List.sum_cons, List.sum_nil, Nat.add_zero]
theorem rheld_loop (hlen : ts.length ≤ 1000) (hw : ∀ t ∈ ts, SlotW t.1 t.2) (hh : ∀ j, heldT (ts.take j) ≤ 1000000) (K : List AItem) (Q : AVal → AHeap → Prop) {p : Nat} (H : AHeap) (hp : H[p]? = some (.cells (refA room ts) T.cuneiformref14_T)) (hK : ∀ r, rget r 3 = .int .i64 (heldT ts : Nat) → Run Try.prog rhdC K r H Q) :
    ∀ (z j : Nat), ts.length - j = z → j ≤ ts.length → Rounds Try.prog rhdC cuneiformref14_Held.b0 [.inBlock 0] K [(1, .ptr p 0), (3, .int .i64 (heldT (ts.take j) : Nat)), (4, .int .i64 (j : Nat))] H Q
  | z, j, h1, h2 => by
    refine loop_V 100 cuneiformref14_Held.b0.eq_1 ?_
    have hp' := hp
    simp only [refA] at hp'
    have hcast : (j : Int) + 1 = ((j + 1 : Nat) : Int) := by omega
    by_cases hj : j < ts.length
    · have hld := ts_load (H := H) hj
      have hwj := hw (ts.getD j default) (by rw [show ts.getD j default = ts[j] by simp [List.getD_eq_getElem?_getD, hj]]; exact List.getElem_mem hj)
      have e5 := heldT_take hj
      have h3 := hh j
      have h4 := hh (j + 1)
      have hsl := hwj.len
      have hsz := hwj.size
      simp (disch := first | omega | (simp only [lnx]; omega)) only [stdh, stdx, ↓reduceIte, seval, hp', hld]
      generalize ts.getD j default = t at *
      refine callK_fn (rsize_ok (h := t.1) (fs := t.2) _ (by omega) (by omega) _ ?_)
      refine runL_V 60 ?_
      simp (disch := first | omega | (simp only [lnx]; omega)) only [stdh, stdx, ↓reduceIte, seval]
      rw [hcast, show ((heldT (ts.take j) : Nat) : Int) + (sizeFs t.2 : Nat) = ((heldT (ts.take (j + 1)) : Nat) : Int) by omega]
      exact rheld_loop hlen hw hh K Q H hp hK _ (j + 1) rfl (by omega)
    · simp (disch := first | omega | (simp only [lnx]; omega)) only [stdh, stdx, ↓reduceIte, seval, hp']
      refine hK _ ?_
      rw [show j = ts.length by omega, List.take_length]
      rfl
  termination_by z => z
theorem held_bound (hw : ∀ t ∈ ts, SlotW t.1 t.2) (j : Nat) : heldT (ts.take j) ≤ 192 * ts.length := by
  have key : ∀ l : Ts, (∀ t ∈ l, SlotW t.1 t.2) → heldT l ≤ 192 * l.length := by
    intro l
    induction l with
    | nil => intro _; simp [heldT]
    | cons x l ih =>
      intro hl
      have h1 := ih fun y hy => hl y (by simp [hy])
      have h2 := (hl x (by simp)).size
      simp only [heldT, List.map_cons, List.sum_cons, List.length_cons] at h1 ⊢
      omega
  have h1 := key (ts.take j) fun t ht => hw t (List.mem_of_mem_take ht)
  rw [List.length_take] at h1
  omega
theorem rheld_ok (H : AHeap) (hlen : ts.length ≤ 1000) (hw : ∀ t ∈ ts, SlotW t.1 t.2) (Q : AVal → AHeap → Prop) (hq : Q (.int .i64 (heldT ts : Nat)) H) : FunOK Try.prog F.cuneiformref14_Held [.agg (refA room ts)] H Q := by
  refine fun_iced cuneiformref14_Held_code fun _ => ?_
  refine fun_V 60 cuneiformref14_Held_code rfl ?_
  simp (disch := first | omega | (simp only [lnx]; omega)) only [stdh, stdx, ↓reduceIte, seval, cuneiformref14_Held, cuneiformref14_Held.body, refA]
  refine rheld_loop hlen hw (fun j => by have := held_bound hw j; omega) _ _ _ (p := H.length) at_0 ?_ _ 0 rfl (Nat.zero_le _)
  intro r hr
  refine run_V0 60 ?_
  simp (disch := first | omega | (simp only [lnx]; omega)) only [stdh, stdx, ↓reduceIte, seval, hr]
  exact ice_none trivial hq

/-! The numbers. -/
abbrev rsqC : Ctx := ⟨F.cuneiformref14_Seqs, 23, [.tmp 2], none⟩
theorem rseqs_loop {H0 : AHeap} (hlen : ts.length ≤ 1000) (K : List AItem) (Q : AVal → AHeap → Prop) {p : Nat} (hp : H0[p]? = some (.cells (refA room ts) T.cuneiformref14_T))
    (hK : ∀ r H a, Keeps H0 H → Own 1 T.uint32 H0.length H a ts.length ((seqsT ts).map (AVal.int .u32)) → rget r 3 = a → Run Try.prog rsqC K r H Q) :
    ∀ (z j : Nat) (H : AHeap) (a : AVal), ts.length - j = z → j ≤ ts.length → Keeps H0 H → Own 1 T.uint32 H0.length H a j ((seqsT (ts.take j)).map (AVal.int .u32)) →
    Rounds Try.prog rsqC cuneiformref14_Seqs.b0 [.inBlock 0] K [(1, .ptr p 0), (3, a), (4, .int .i64 (j : Nat))] H Q
  | z, j, H, a, h1, h2, hk, ho => by
    refine loop_V 100 cuneiformref14_Seqs.b0.eq_1 ?_
    have hp' := hk.get hp
    simp only [refA] at hp'
    have hcast : (j : Int) + 1 = ((j + 1 : Nat) : Int) := by omega
    by_cases hj : j < ts.length
    · have hld := ts_seq (H := H) hj
      have e5 : seqsT (ts.take (j + 1)) = seqsT (ts.take j) ++ [(ts.getD j default).1.s] := by
        rw [List.take_succ_eq_append_getElem hj, show ts.getD j default = ts[j] by simp [List.getD_eq_getElem?_getD, hj]]
        simp only [seqsT, List.map_append, List.map_cons, List.map_nil]
      generalize ts.getD j default = t at *
      have ho2 : Own 1 T.uint32 H0.length (H ++ [ABlk.vec [.int .u32 t.1.s] T.uint32 1]) a j ((seqsT (ts.take j)).map (AVal.int .u32)) := ho.keep (keeps_append _ _)
      obtain ⟨w, H3, pp, a1, hpp, ho3, hk3⟩ := Own.append ho2 (x := .slc H.length 0 1 1) (k := 1) (ys := [.int .u32 t.1.s]) 4 (H0 := H0) (hk.trans (keeps_append _ _)) rfl (by simp [srcCells, view, content]) rfl (by omega) (by omega) (by omega) rfl
      simp (disch := first | omega | (simp only [lnx]; omega)) only [stdh, stdx, ↓reduceIte, seval, hp', hld, a1, hpp]
      rw [hcast]
      refine rseqs_loop hlen K Q hp hK _ (j + 1) H3 w rfl (by omega) hk3 ?_
      rw [e5, List.map_append]
      exact ho3
    · simp (disch := first | omega | (simp only [lnx]; omega)) only [stdh, stdx, ↓reduceIte, seval, hp']
      have hj2 : j = ts.length := by omega
      subst hj2
      rw [List.take_length] at ho
      exact hK _ H a hk ho rfl
  termination_by z => z
theorem rseqs_ok (H : AHeap) (hlen : ts.length ≤ 1000) (Q : AVal → AHeap → Prop) (hq : Q (qsV (seqsT ts)) H) : FunOK Try.prog F.cuneiformref14_Seqs [.agg (refA room ts)] H Q := by
  refine fun_iced cuneiformref14_Seqs_code fun _ => ?_
  refine fun_V 60 cuneiformref14_Seqs_code rfl ?_
  simp (disch := first | omega | (simp only [lnx]; omega)) only [stdh, stdx, ↓reduceIte, seval, cuneiformref14_Seqs, cuneiformref14_Seqs.body, refA]
  refine rseqs_loop hlen _ _ (p := H.length) at_0 ?_ _ 0 _ .nils rfl (Nat.zero_le _) (Keeps.refl _) Own.nil
  intro r H3 a hk3 ho hr
  refine run_V0 60 ?_
  simp (disch := first | omega | (simp only [lnx]; omega)) only [stdh, stdx, ↓reduceIte, seval, hr]
  refine ice_own ((keeps_append _ _).trans hk3) (own_lower ho (by simp)) (closeds_all fun x hx => ?_) ?_
  · obtain ⟨q, _, rfl⟩ := List.mem_map.1 hx
    trivial
  · have : qsV (seqsT ts) = .imm ((seqsT ts).map (AVal.int .u32)) ts.length false := by simp [qsV, seqsT]
    rw [← this]; exact hq
end
end Go.Proofs.Ytamcfgdnhgmkpaa

namespace Go.Proofs.Ytamcfgdnhgmkpaa
open Go Go.Am
set_option linter.unusedSimpArgs false
set_option linter.unusedVariables false

theorem rway_ok (H : AHeap) (a b : Nat) (ha : a < 4294967296) (hb : b < 4294967296) (Q : AVal → AHeap → Prop) (h : Q (.int .u32 (wy a b)) H) : FunOK Try.prog F.cuneiformref10_Way [.int .u32 a, .int .u32 b] H Q := by
  refine fun_V 40 cuneiformref10_Way_code rfl ?_
  have e : ((b : Int) + 4294967296 - (a : Int)).tmod 4294967296 = (wy a b : Nat) := by
    rw [Int.tmod_eq_emod_of_nonneg (by omega)]; unfold wy; omega
  have hl := wy_lt a b
  simp (disch := first | omega | (simp only [lnx]; omega)) only [stdh, stdx, ↓reduceIte, seval, cuneiformref10_Way, cuneiformref10_Way.body, e]
  exact h
theorem raft_ok (H : AHeap) (a b : Nat) (ha : a < 4294967296) (hb : b < 4294967296) (Q : AVal → AHeap → Prop) (h : Q (.bool (aft a b)) H) : FunOK Try.prog F.cuneiformref10_After [.int .u32 a, .int .u32 b] H Q := by
  refine fun_V 40 cuneiformref10_After_code rfl ?_
  simp (disch := first | omega | (simp only [lnx]; omega)) only [stdh, stdx, ↓reduceIte, seval, cuneiformref10_After, cuneiformref10_After.body]
  refine callK_fn (rway_ok _ _ _ hb ha _ ?_)
  refine runL_V 40 ?_
  by_cases h1 : 1 ≤ wy b a
  · have e : decide ((wy b a : Int) < 2147483648) = aft a b := by
      unfold aft
      rw [decide_eq_decide]
      omega
    simp (disch := first | omega | (simp only [lnx]; omega)) only [stdh, stdx, ↓reduceIte, seval]
    refine callK_fn (rway_ok _ _ _ hb ha _ ?_)
    refine runL_V 40 ?_
    simp (disch := first | omega | (simp only [lnx]; omega)) only [stdh, stdx, ↓reduceIte, seval, e]
    exact h
  · have e : aft a b = false := by unfold aft; rw [decide_eq_false_iff_not]; omega
    simp (disch := first | omega | (simp only [lnx]; omega)) only [stdh, stdx, ↓reduceIte, seval]
    rwa [e] at h
theorem raftI_ok (H : AHeap) {a b : Int} (ha : is32 a) (hb : is32 b) (Q : AVal → AHeap → Prop) (h : Q (.bool (aftI a b)) H) : FunOK Try.prog F.cuneiformref10_After [.int .u32 a, .int .u32 b] H Q := by
  obtain ⟨n, rfl⟩ := Int.eq_ofNat_of_zero_le ha.1
  obtain ⟨m, rfl⟩ := Int.eq_ofNat_of_zero_le hb.1
  exact raft_ok H n m (by have := ha.2; omega) (by have := hb.2; omega) Q (by simpa [aftI] using h)

abbrev rbC2 : Ctx := ⟨F.cuneiformref10_Best, 46, [.tmp 4, .tmp 5], none⟩
theorem rbest_loop {qs : List Int} (h32 : ∀ q ∈ qs, is32 q) (hlen : qs.length ≤ 1000) (K : List AItem) (Q : AVal → AHeap → Prop) (H : AHeap) (hK : ∀ r, rget r 6 = .int .u32 (oldest qs) → Run Try.prog rbC2 K r H Q) :
    ∀ (z i : Nat), qs.length - (i + 1) = z → i + 1 ≤ qs.length → Rounds Try.prog rbC2 cuneiformref10_Best.b0 [.inBlock 0] K [(0, qsV qs), (1, .bool false), (6, .int .u32 (oldTo qs i)), (7, .int .i64 ((i + 1 : Nat) : Int))] H Q
  | z, i, h1, h2 => by
    refine loop_V 100 cuneiformref10_Best.b0.eq_1 ?_
    have hcast : (((i + 1 : Nat) : Nat) : Int) + 1 = ((i + 1 + 1 : Nat) : Int) := by omega
    have s1 : slen (qsV qs) = some qs.length := rfl
    have w1 : (view H (qsV qs)).isSome = true := rfl
    by_cases hi : i + 1 < qs.length
    · have hld := load_qs (H := H) hi
      have b1 : is32 (oldTo qs i) := oldTo_is32 h32 (by omega)
      have b2 : is32 (qs.getD (i + 1) 0) := by
        rw [List.getD_eq_getElem?_getD, List.getElem?_eq_getElem (by omega)]
        exact h32 _ (List.getElem_mem _)
      have e5 : oldTo qs (i + 1) = if aftI (oldTo qs i) (qs.getD (i + 1) 0) = true then qs.getD (i + 1) 0 else oldTo qs i := rfl
      have hrec := fun x (e : oldTo qs (i + 1) = x) => by
        have := rbest_loop h32 hlen K Q H hK (qs.length - (i + 1 + 1)) (i + 1) rfl (by omega)
        rw [e] at this
        exact this
      generalize qs.getD (i + 1) 0 = x at *
      simp (disch := first | omega | (simp only [lnx]; omega)) only [stdh, stdx, ↓reduceIte, seval, s1, w1, hld]
      refine callK_fn (raftI_ok _ b1 b2 _ ?_)
      refine runL_V 60 ?_
      by_cases ha : aftI (oldTo qs i) x = true
      · rw [if_pos ha] at e5
        simp (disch := first | omega | (simp only [lnx]; omega)) only [stdh, stdx, ↓reduceIte, seval, ha, s1, w1, hld]
        rw [hcast]
        exact hrec _ e5
      · rw [if_neg ha] at e5
        have ha' : aftI (oldTo qs i) x = false := by simpa using ha
        simp (disch := first | omega | (simp only [lnx]; omega)) only [stdh, stdx, ↓reduceIte, seval, ha']
        rw [hcast]
        exact hrec _ e5
    · simp (disch := first | omega | (simp only [lnx]; omega)) only [stdh, stdx, ↓reduceIte, seval, s1]
      refine hK _ ?_
      rw [oldest, show qs.length - 1 = i by omega]
      rfl
  termination_by z => z
theorem rbest_ok (H : AHeap) {qs : List Int} (h32 : ∀ q ∈ qs, is32 q) (hlen : qs.length ≤ 1000) (h0 : 0 < qs.length) (Q : AVal → AHeap → Prop) (hq : Q (.tup [.int .u32 (oldest qs), .bool true]) H) : FunOK Try.prog F.cuneiformref10_Best [qsV qs, .bool false] H Q := by
  refine fun_V 60 cuneiformref10_Best_code rfl ?_
  have s1 : slen (qsV qs) = some qs.length := rfl
  have w1 : (view H (qsV qs)).isSome = true := rfl
  have hld := load_qs (H := H) h0
  have d : decide ((qs.length : Int) = 0) = false := decide_eq_false (by omega)
  simp (disch := first | omega | (simp only [lnx]; omega)) only [stdh, stdx, ↓reduceIte, seval, cuneiformref10_Best, cuneiformref10_Best.body, s1, w1, hld, d]
  refine rbest_loop h32 hlen _ _ H ?_ _ 0 rfl (by omega)
  intro r hr
  refine run_V0 60 ?_
  simp (disch := first | omega | (simp only [lnx]; omega)) only [stdh, stdx, ↓reduceIte, seval, hr]
  exact hq

/-! A table without a number. -/
theorem own_same3 {w : Nat} {el : TypeId} {B : Nat} {H H' : AHeap} {a : AVal} {n : Nat} {cs : List AVal} (h : Own w el B H a n cs) (hk : ∀ m ∈ a.names, B ≤ m → H'[m]? = H[m]?) : Own w el B H' a n cs := by
  refine ⟨h.len, ?_⟩
  rcases h.is with h | ⟨m, h1, h2, h3⟩
  · exact .inl h
  · exact .inr ⟨m, h1, h2, (hk m (by rw [h2]; simp [AVal.names]) h1).trans h3⟩
abbrev rdrC : Ctx := ⟨F.cuneiformref14_Drop, 34, [.cell 4 (some 2)], none⟩
section
variable {room : Nat} {ts : Ts}
theorem drop_take {q : Int} {j : Nat} (hj : j < ts.length) : dropT (ts.take (j + 1)) q = dropT (ts.take j) q ++ if (ts.getD j default).1.s = q then [] else [ts.getD j default] := by
  rw [List.take_succ_eq_append_getElem hj, show ts.getD j default = ts[j] by simp [List.getD_eq_getElem?_getD, hj]]
  unfold dropT
  rw [List.filter_append]
  congr 1
  by_cases h : ts[j].1.s = q
  · simp [h]
  · simp [h]
theorem dropT_len (ts : Ts) (q : Int) : (dropT ts q).length ≤ ts.length := List.length_filter_le _ _

theorem rdrop_loop {H0 : AHeap} {q : Int} (hlen : ts.length ≤ 1000) (K : List AItem) (Q : AVal → AHeap → Prop) {p p4 : Nat} (hp : H0[p]? = some (.cells (refA room ts) T.cuneiformref14_T))
    (hK : ∀ r H a, Keeps H0 H → Own 6 T.cuneiformref13_S H0.length H a (dropT ts q).length ((dropT ts q).flatMap encT) → rget r 2 = .ptr p 0 → rget r 4 = .ptr p4 0 → rget r 5 = a → Run Try.prog rdrC K r H Q) :
    ∀ (z j : Nat) (H : AHeap) (a : AVal), ts.length - j = z → j ≤ ts.length → Keeps H0 H → Own 6 T.cuneiformref13_S H0.length H a (dropT (ts.take j) q).length ((dropT (ts.take j) q).flatMap encT) →
    Rounds Try.prog rdrC cuneiformref14_Drop.b0 [.inBlock 0] K [(1, .int .u32 q), (2, .ptr p 0), (4, .ptr p4 0), (5, a), (6, .int .i64 (j : Nat))] H Q
  | z, j, H, a, h1, h2, hk, ho => by
    refine loop_V 100 cuneiformref14_Drop.b0.eq_1 ?_
    have hp' := hk.get hp
    simp only [refA] at hp'
    have hcast : (j : Int) + 1 = ((j + 1 : Nat) : Int) := by omega
    by_cases hj : j < ts.length
    · have hld := ts_seq (H := H) hj
      have hld2 := ts_load (H := H) hj
      have e5 := drop_take (q := q) hj
      have hdl := dropT_len (ts.take j) q
      rw [List.length_take] at hdl
      generalize ts.getD j default = t at *
      by_cases he : t.1.s = q
      · have d : decide (t.1.s = q) = true := decide_eq_true he
        rw [if_pos he, List.append_nil] at e5
        simp (disch := first | omega | (simp only [lnx]; omega)) only [stdh, stdx, ↓reduceIte, seval, hp', hld, d]
        rw [hcast]
        refine rdrop_loop hlen K Q hp hK _ (j + 1) H a rfl (by omega) hk ?_
        rw [e5]; exact ho
      · have d : decide (t.1.s = q) = false := decide_eq_false he
        rw [if_neg he] at e5
        have ho2 : Own 6 T.cuneiformref13_S H0.length (H ++ [ABlk.vec (encT t) T.cuneiformref13_S 6]) a (dropT (ts.take j) q).length ((dropT (ts.take j) q).flatMap encT) := ho.keep (keeps_append _ _)
        obtain ⟨w, H3, pp, a1, hpp, ho3, hk3⟩ := Own.append ho2 (x := .slc H.length 0 1 6) (k := 1) (ys := encT t) 64 (H0 := H0) (hk.trans (keeps_append _ _)) rfl (by simp [srcCells, view, content, encT, encS]) rfl (by omega) (by omega) (by omega) rfl
        simp only [encT, encS] at a1 hld2
        simp (disch := first | omega | (simp only [lnx]; omega)) only [stdh, stdx, ↓reduceIte, seval, hp', hld, hld2, d, a1, hpp]
        rw [hcast]
        refine rdrop_loop hlen K Q hp hK _ (j + 1) H3 w rfl (by omega) hk3 ?_
        rw [e5, List.flatMap_append, List.length_append]
        simpa using ho3
    · simp (disch := first | omega | (simp only [lnx]; omega)) only [stdh, stdx, ↓reduceIte, seval, hp']
      have hj2 : j = ts.length := by omega
      subst hj2
      rw [List.take_length] at ho
      exact hK _ H a hk ho rfl rfl rfl
  termination_by z => z
theorem rdrop_ok (H : AHeap) {q : Int} (hlen : ts.length ≤ 1000) (Q : AVal → AHeap → Prop) (hq : Q (.agg (refA room (dropT ts q))) H) : FunOK Try.prog F.cuneiformref14_Drop [.agg (refA room ts), .int .u32 q] H Q := by
  refine fun_iced cuneiformref14_Drop_code fun _ => ?_
  refine fun_V 60 cuneiformref14_Drop_code rfl ?_
  simp (disch := first | omega | (simp only [lnx]; omega)) only [stdh, stdx, ↓reduceIte, seval, cuneiformref14_Drop, cuneiformref14_Drop.body, refA]
  refine rdrop_loop hlen _ _ (p := H.length) (p4 := H.length + 1) at_0 ?_ _ 0 _ .nils rfl (Nat.zero_le _) (Keeps.refl _) Own.nil
  intro r H3 a hk3 ho r2 r4 r5
  have g0 := hk3.get (n := H.length) at_0
  have g1 := hk3.get (n := H.length + 1) at_k
  have hl3 := hk3.1
  simp only [List.length_append, List.length_cons, List.length_nil] at hl3
  have hac : a.cellish = true := by rcases ho.is with ⟨rfl, _⟩ | ⟨m, _, rfl, _⟩ <;> rfl
  have hcl : a.cells = [a] := by rcases ho.is with ⟨rfl, _⟩ | ⟨m, _, rfl, _⟩ <;> rfl
  refine run_V0 60 ?_
  simp (disch := first | omega | (simp only [lnx]; omega)) only [stdh, stdx, ↓reduceIte, seval, r2, r4, r5, g0, g1, hac, hcl, List.getElem?_set_self, List.getElem?_set_ne]
  have hk5 : Keeps H ((H3.set H.length (.cells [.int .i64 (room : Nat), a] T.cuneiformref14_T)).set (H.length + 1) (.cells [.int .i64 (room : Nat), a] T.cuneiformref14_T)) := by
    refine ⟨by simp; omega, fun m hm => ?_⟩
    rw [List.getElem?_set_ne (by omega), List.getElem?_set_ne (by omega), hk3.2 m (by (first | omega | (simp only [lnx]; omega))), at_low hm]
  refine ice_agg [(.int .i64 (room : Nat), .int .i64 (room : Nat)), (a, .imm ((dropT ts q).flatMap encT) (dropT ts q).length false)] hk5 ?_ hq
  intro x hx
  simp only [List.mem_cons, List.not_mem_nil, or_false] at hx
  rcases hx with rfl | rfl
  · exact Fin.same trivial
  · refine Fin.own (w := 6) (el := T.cuneiformref13_S) (own_lower (own_same3 ho fun m hm h1 => ?_) (by simp)) (ts_closeds _ _)
    simp only [List.length_append, List.length_cons, List.length_nil] at h1
    rw [List.getElem?_set_ne (by omega), List.getElem?_set_ne (by omega)]
end
end Go.Proofs.Ytamcfgdnhgmkpaa

namespace Go.Proofs.Ytamcfgdnhgmkpaa
open Go Go.Am
set_option linter.unusedSimpArgs false
set_option linter.unusedVariables false

def allItem (B : Nat) (sl : List Sl) (j : Nat) (args : List AVal) (gv : List Nat) (H : AHeap) : Prop :=
  ∃ S M, args = [.int .u32 (sl.getD j default).h.s, .ptr S 0] ∧ gv = [S, M] ∧ SlotS H S M (sl.getD j default).h (sl.getD j default).fs ∧ B ≤ S ∧ B ≤ M

section
variable {P M room : Nat} {ord : AVal} {sl : List Sl}
set_option maxRecDepth 10000 in
set_option maxHeartbeats 8000000 in
theorem all1_iter {H : AHeap} {n : Nat} (hs : TabS H P M room ord sl) : IterX Try.prog F.table_Table_All_1 [.yld n, cell (.ptr P 0)] n (allItem H.length sl) sl.length (tabF P M ord sl) H := by
  intro I hI fp hi hown
  refine fun_V 100 table_Table_All_1_code rfl ?_
  have hyc : (AVal.yld n).cells = [AVal.yld n] := rfl
  have hyc2 : (AVal.yld n).cellish = true := rfl
  simp (disch := first | omega | (simp only [lnx]; omega)) only [stdh, stdx, ↓reduceIte, seval, table_Table_All_1, table_Table_All_1.body, load_imm, load_immN, hyc, hyc2]
  have hi1 : I true 0 fp (H ++ [ABlk.cells [AVal.yld n] T.func_uint32_p_slot_Slot_bool]) := (hI.foot true 0).stable _ _ _ hi (by simp) fun m hm => List.getElem?_append_left ((hI.foot true 0).lt _ _ hi m hm)
  have hfl := (hI.foot true 0).lt _ _ hi
  have hft := hs.foot
  have hk2 := keeps_append H [ABlk.cells [AVal.yld n] T.func_uint32_p_slot_Slot_bool]
  have hl2 : (H ++ [ABlk.cells [AVal.yld n] T.func_uint32_p_slot_Slot_bool]).length = H.length + 1 := by simp
  have g0 : (H ++ [ABlk.cells [AVal.yld n] T.func_uint32_p_slot_Slot_bool])[H.length]? = some (.cells [.yld n] T.func_uint32_p_slot_Slot_bool) := at_0
  generalize H ++ [ABlk.cells [AVal.yld n] T.func_uint32_p_slot_Slot_bool] = H2 at *
  have hs2 := hs.keeps hk2
  obtain ⟨ap1, ap2, ap3⟩ := hs.apart
  refine callK_fn (each_ok hs2 _ ?_)
  refine runL_V 60 ?_
  simp (disch := first | omega | (simp only [lnx]; omega)) only [stdh, stdx, ↓reduceIte, seval]
  refine range_of (g := F.table_Table_each_1) (first := []) (captured := [cell (.ptr P 0)]) rfl (by intro n hn; cases hn) (item := eachItem sl) (len := sl.length) (fun j => rfl)
    (relayJ I (H.length :: slF sl) H2 id) (relayS I (H.length :: slF sl) H2 .ret) (relayJ_footX hI.foot _ _ _) (relayS_footX hI.foot _ _ _) (fp0 := (H.length :: slF sl) ++ fp) ⟨fp, rfl, fun x hx => ?_, Nat.le_refl _, hi1⟩ ?_ (P :: M :: ord.names) ?_ (fun H1 h1 h2 => each_iter (hs2.keep fun m hm => h2 m (by have := hft m hm; omega))) ?_ ?_
  · rcases List.mem_cons.1 hx with rfl | hx
    · exact ⟨fun hh => by have := hfl _ hh; omega, by omega, rfl⟩
    · exact ⟨hown x (by simp [tabF, hx]), by have := hft x (by simp [tabF, hx]); omega, rfl⟩
  · rintro as' bd' j fp' H1 hj hn hl hrec ⟨fpI, rfl, hc1, hc2, hi'⟩
    have hn' := hn
    simp only [List.mem_append, not_or] at hn'
    have q0 := (hc1 H.length (by simp)).2.2.trans g0
    rw [id] at hi'
    have hxm := getD_mem hj
    have hsx := (hs2.s _ hxm).1
    have k1 := (hc1 (sl.getD j default).s (List.mem_cons_of_mem _ (slF_mem.2 ⟨_, hxm, .inl rfl⟩))).2.2
    have k2 := (hc1 (sl.getD j default).m (List.mem_cons_of_mem _ (slF_mem.2 ⟨_, hxm, .inr rfl⟩))).2.2
    have hs1 : SlotS H1 (sl.getD j default).s (sl.getD j default).m (sl.getD j default).h (sl.getD j default).fs := ⟨k1.trans hsx.s, k2.trans hsx.m⟩
    have hsl := (hs.s _ hxm).1.lt
    have hstep := fun {b : ABlk} {H3 : AHeap} {args : List AVal} {gv : List Nat} => relay_stepX (b := b) (H2 := H3) (args := args) (gv := gv) hI (ks := H.length :: slF sl) (H0 := H2) hj (l := H2.length) (by omega) (Nat.le_refl _) hn'.2 hc1 hi'
    have hit : eachItem sl j = [.int .u32 (sl.getD j default).h.s, .ptr (sl.getD j default).s 0] := rfl
    have hai : ∀ args gv H3, allItem H.length sl j args gv H3 ↔ ∃ S M, args = [.int .u32 (sl.getD j default).h.s, .ptr S 0] ∧ gv = [S, M] ∧ SlotS H3 S M (sl.getD j default).h (sl.getD j default).fs ∧ H.length ≤ S ∧ H.length ≤ M := fun _ _ _ => Iff.rfl
    simp only [hai] at hstep
    rw [hit]
    have hs3 : ∀ X, SlotS (H1.set H2.length X) (sl.getD j default).s (sl.getD j default).m (sl.getD j default).h (sl.getD j default).fs := fun X => ⟨by rw [List.getElem?_set_ne (by omega)]; exact hs1.s, by rw [List.getElem?_set_ne (by omega)]; exact hs1.m⟩
    generalize sl.getD j default = x at *
    refine run_V0 60 ?_
    simp (disch := first | omega | (simp only [lnx]; omega)) only [stdh, stdx, ↓reduceIte, seval, table_Table_All_1.a1, table_Table_All_1.b1, table_Table_All_1.d0, hrec, q0, List.zip_cons_cons, List.zip_nil_left, List.reverse_cons, List.reverse_nil, List.getElem?_set_self, List.getElem?_set_ne]
    refine callD_fn (scopy_ok (hs3 _) _ ?_)
    intro H3 S' M' hk3 hS' hM' hsl'
    have hS'l := hsl'.lt
    rw [List.length_set] at hS' hM'
    have q3 := hk3.get (n := H.length) ((List.getElem?_set_ne (by omega)).trans q0)
    refine ⟨by simp (disch := first | omega | (simp only [lnx]; omega)) only [stdh, stdx, ↓reduceIte, seval, q0, q3, List.getElem?_set_ne, List.getElem?_set_self], ?_⟩
    refine runD_V 60 ?_
    simp (disch := first | omega | (simp only [lnx]; omega)) only [stdh, stdx, ↓reduceIte, seval, q3]
    refine CallV.mono (hstep hk3 ⟨S', M', rfl, rfl, hsl', by omega, by omega⟩ (fun m hm => by
      simp only [List.mem_cons, List.not_mem_nil, or_false] at hm
      rcases hm with rfl | rfl
      · exact ⟨hS', hS'l.1⟩
      · exact ⟨hM', hS'l.2⟩)) fun av H' hh => ?_
    obtain ⟨fp', hr, hh⟩ := hh
    have q4 := (hr.kept H.length (by simp)).2.2.trans g0
    refine ⟨by simp (disch := first | omega | (simp only [lnx]; omega)) only [stdh, stdx, ↓reduceIte, seval, q4], ?_⟩
    refine runD_V 60 ?_
    rcases hh with ⟨rfl, hi'⟩ | ⟨rfl, hi'⟩
    · simp (disch := first | omega | (simp only [lnx]; omega)) only [stdh, stdx, ↓reduceIte, seval]
      refine round_fin (n := H2.length) rfl hr.loop ?_
      exact relay_next hr (Nat.le_refl _) hi'
    · simp (disch := first | omega | (simp only [lnx]; omega)) only [stdh, stdx, ↓reduceIte, seval, hr.loop]
      exact relay_stop hr (Nat.le_refl _) hi'
  · intro m hm
    have hmt : m ∈ tabF P M ord sl := by simp only [tabF, List.mem_cons, List.mem_append] at hm ⊢; rcases hm with h | h | h <;> simp [h]
    have hml := hft m hmt
    refine ⟨by omega, fun hh => ?_⟩
    simp only [List.cons_append, List.mem_cons, List.mem_append] at hh
    rcases hh with hh | hh | hh
    · omega
    · rcases List.mem_cons.1 hm with rfl | hm
      · exact ap2 hh
      · rcases List.mem_cons.1 hm with rfl | hm
        · exact ap3 hh
        · exact (ap1 m hm).2.2 hh
    · exact hown m hmt hh
  · rintro fp' H' hl hk ⟨fpI, rfl, hc1, hc2, hi'⟩
    refine run_V0 60 ?_
    simp (disch := first | omega | (simp only [lnx]; omega)) only [stdh, stdx, ↓reduceIte, seval]
    refine run_fin rfl rfl trivial ?_
    refine ⟨true, _, fpI, by omega, fun m hm hf => ?_, fun _ => rfl, hi'⟩
    by_cases hms : m ∈ slF sl
    · exact (hc1 m (List.mem_cons_of_mem _ hms)).2.2.trans (hk2.2 m hm)
    · rw [hk m (by omega) (by simp only [List.cons_append, List.mem_cons, List.mem_append, not_or]; exact ⟨by omega, hms, hf⟩), hk2.2 m hm]
  · rintro ap j fp' H' hl hk ⟨rfl, k, fpI, rfl, hc1, hc2, hi'⟩
    refine run_V0 60 ?_
    simp (disch := first | omega | (simp only [lnx]; omega)) only [stdh, stdx, ↓reduceIte, seval, jumpItems]
    refine ⟨false, _, fpI, fun m hm hf => ?_, (fun h => by cases h), hi'⟩
    by_cases hms : m ∈ slF sl
    · exact (hc1 m (List.mem_cons_of_mem _ hms)).2.2.trans (hk2.2 m hm)
    · rw [hk m (by omega) (by simp only [List.cons_append, List.mem_cons, List.mem_append, not_or]; exact ⟨by omega, hms, hf⟩), hk2.2 m hm]
theorem all_ok {H : AHeap} (hs : TabS H P M room ord sl) (Q : AVal → AHeap → Prop) (hq : Q (.fn F.table_Table_All_1 [] [cell (.ptr P 0)]) H) : FunOK Try.prog F.table_Table_All [.ptr P 0] H Q := by
  refine fun_iced table_Table_All_code fun _ => ?_
  refine fun_V 40 table_Table_All_code rfl ?_
  simp (disch := first | omega | (simp only [lnx]; omega)) only [stdh, stdx, ↓reduceIte, seval, table_Table_All, table_Table_All.body]
  exact ice_clo1 (by simpa [closed] using hs.foot P (by simp [tabF])) hq
end
end Go.Proofs.Ytamcfgdnhgmkpaa

namespace Go.Proofs.Ytamcfgdnhgmkpaa
open Go Go.Am
set_option linter.unusedSimpArgs false
set_option linter.unusedVariables false

theorem tsOf_getD {sl : List Sl} {j : Nat} (hj : j < sl.length) : (tsOf sl).getD j default = ((sl.getD j default).h, (sl.getD j default).fs) := by
  simp [tsOf, List.getD_eq_getElem?_getD, hj]

section
variable {H : AHeap} {P M room : Nat} {ord : AVal} {sl : List Sl}
theorem troom_ok (h : TabS H P M room ord sl) (Q : AVal → AHeap → Prop) (hq : Q (.int .i64 (room : Nat)) H) : FunOK Try.prog F.table_Table_Room [.ptr P 0] H Q := by
  refine fun_V 60 table_Table_Room_code rfl ?_
  simp (disch := first | omega | (simp only [lnx]; omega)) only [stdh, stdx, ↓reduceIte, seval, table_Table_Room, table_Table_Room.body, eqA, h.p]
  exact hq

set_option maxRecDepth 10000 in
set_option maxHeartbeats 8000000 in
theorem alike14_ok (h : TabS H P M room ord sl) (Q : AVal → AHeap → Prop) (hq : Q (.bool true) H) : FunOK Try.prog F.cuneiformlaw14_Alike [.ptr P 0, .agg (refA room (tsOf sl))] H Q := by
  have hr := h.r
  have hft := h.foot
  have htl : (tsOf sl).length = sl.length := by simp [tsOf]
  have hsq : (seqsT (tsOf sl)).length = sl.length := by simp [seqsT, tsOf]
  have hw : ∀ t ∈ tsOf sl, SlotW t.1 t.2 := fun t ht => by
    obtain ⟨x, hx, rfl⟩ := List.mem_map.1 ht
    exact (h.s x hx).2.1
  have hX : ∀ X, TabS (H ++ X) P M room ord sl := fun X => h.keeps (keeps_append _ _)
  refine fun_iced cuneiformlaw14_Alike_code fun _ => ?_
  refine fun_V 60 cuneiformlaw14_Alike_code rfl ?_
  have s1 : slen (recs encT false (tsOf sl)) = some sl.length := by rw [← htl]; rfl
  simp (disch := first | omega | (simp only [lnx]; omega)) only [stdh, stdx, ↓reduceIte, seval, cuneiformlaw14_Alike, cuneiformlaw14_Alike.body, cuneiformlaw14_Alike.d0, refA]
  refine callD_fn (tseqs_ok (hX _) _ ?_)
  refine ⟨by simp (disch := first | omega | (simp only [lnx]; omega)) only [stdh, stdx, ↓reduceIte, seval, refA], ?_⟩
  refine runD_V 60 ?_
  simp (disch := first | omega | (simp only [lnx]; omega)) only [stdh, stdx, ↓reduceIte, seval]
  refine callD_fn (rseqs_ok (room := room) (ts := tsOf sl) _ (by omega) _ ?_)
  refine ⟨by simp (disch := first | omega | (simp only [lnx]; omega)) only [stdh, stdx, ↓reduceIte, seval, refA], ?_⟩
  refine runD_V 60 ?_
  simp (disch := first | omega | (simp only [lnx]; omega)) only [stdh, stdx, ↓reduceIte, seval]
  refine callD_fn (seqs_ok _ (by omega) (by omega) _ ?_)
  rw [decide_eq_true rfl]
  refine ⟨by simp (disch := first | omega | (simp only [lnx]; omega)) only [stdh, stdx, ↓reduceIte, seval, refA], ?_⟩
  refine runD_V 60 ?_
  simp (disch := first | omega | (simp only [lnx]; omega)) only [stdh, stdx, ↓reduceIte, seval]
  refine callD_fn (held_ok (hX _) _ ?_)
  refine ⟨by simp (disch := first | omega | (simp only [lnx]; omega)) only [stdh, stdx, ↓reduceIte, seval, refA], ?_⟩
  refine runD_V 60 ?_
  simp (disch := first | omega | (simp only [lnx]; omega)) only [stdh, stdx, ↓reduceIte, seval]
  refine callD_fn (rheld_ok (room := room) (ts := tsOf sl) _ (by omega) hw _ ?_)
  refine ⟨by simp (disch := first | omega | (simp only [lnx]; omega)) only [stdh, stdx, ↓reduceIte, seval, refA], ?_⟩
  refine runD_V 60 ?_
  simp (disch := first | omega | (simp only [lnx]; omega)) only [stdh, stdx, ↓reduceIte, seval]
  refine callD_fn (tlen_ok (hX _) _ ?_)
  refine ⟨by simp (disch := first | omega | (simp only [lnx]; omega)) only [stdh, stdx, ↓reduceIte, seval, refA], ?_⟩
  refine runD_V 60 ?_
  simp (disch := first | omega | (simp only [lnx]; omega)) only [stdh, stdx, ↓reduceIte, seval, s1]
  refine callD_fn (troom_ok (hX _) _ ?_)
  refine ⟨by simp (disch := first | omega | (simp only [lnx]; omega)) only [stdh, stdx, ↓reduceIte, seval, refA], ?_⟩
  refine runD_V 60 ?_
  simp (disch := first | omega | (simp only [lnx]; omega)) only [stdh, stdx, ↓reduceIte, seval, s1]
  refine callK_fn (all_ok (hX _) _ ?_)
  refine runL_V 60 ?_
  simp (disch := first | omega | (simp only [lnx]; omega)) only [stdh, stdx, ↓reduceIte, seval]
  have hk2 : Keeps H (H ++ [ABlk.cells [.int .i64 (room : Nat), recs encT false (tsOf sl)] T.cuneiformref14_T, .cells [.int .i64 0] T.int, .cells [.bool true] T.bool]) := keeps_append _ _
  have hl2 : (H ++ [ABlk.cells [.int .i64 (room : Nat), recs encT false (tsOf sl)] T.cuneiformref14_T, .cells [.int .i64 0] T.int, .cells [.bool true] T.bool]).length = H.length + 3 := by simp
  have g0 : (H ++ [ABlk.cells [.int .i64 (room : Nat), recs encT false (tsOf sl)] T.cuneiformref14_T, .cells [.int .i64 0] T.int, .cells [.bool true] T.bool])[H.length]? = some (.cells [.int .i64 (room : Nat), recs encT false (tsOf sl)] T.cuneiformref14_T) := at_0
  have g1 : (H ++ [ABlk.cells [.int .i64 (room : Nat), recs encT false (tsOf sl)] T.cuneiformref14_T, .cells [.int .i64 0] T.int, .cells [.bool true] T.bool])[H.length + 1]? = some (.cells [.int .i64 ((0 : Nat) : Int)] T.int) := at_k
  have g2 : (H ++ [ABlk.cells [.int .i64 (room : Nat), recs encT false (tsOf sl)] T.cuneiformref14_T, .cells [.int .i64 0] T.int, .cells [.bool true] T.bool])[H.length + 2]? = some (.cells [.bool true] T.bool) := at_k
  generalize (H ++ [ABlk.cells [.int .i64 (room : Nat), recs encT false (tsOf sl)] T.cuneiformref14_T, .cells [.int .i64 0] T.int, .cells [.bool true] T.bool]) = H2 at *
  have h2 := h.keeps hk2
  let J : Nat → List Nat → AHeap → Prop := fun j fp H' => fp = [H.length, H.length + 1, H.length + 2] ∧ H'[H.length]? = some (.cells [.int .i64 (room : Nat), recs encT false (tsOf sl)] T.cuneiformref14_T) ∧ H'[H.length + 1]? = some (.cells [.int .i64 (j : Nat)] T.int) ∧ H'[H.length + 2]? = some (.cells [.bool true] T.bool)
  have hJ : ∀ j, Foot (J j) := fun j => {
    lt := by
      rintro fp H' ⟨rfl, a, b, c⟩ m hm
      simp only [List.mem_cons, List.not_mem_nil, or_false] at hm
      rcases hm with rfl | rfl | rfl
      · exact (List.getElem?_eq_some_iff.1 a).1
      · exact (List.getElem?_eq_some_iff.1 b).1
      · exact (List.getElem?_eq_some_iff.1 c).1
    stable := by
      rintro fp H' H2 ⟨rfl, a, b, c⟩ hle hk
      exact ⟨rfl, (hk _ (by simp)).trans a, (hk _ (by simp)).trans b, (hk _ (by simp)).trans c⟩ }
  refine range_ofX (g := F.table_Table_All_1) (first := []) (captured := [cell (.ptr P 0)]) rfl (by intro n hn; cases hn) (item := allItem (H2.length + 1) sl) (len := sl.length) (by rintro j args gv H ⟨S, M, rfl, _⟩; rfl)
    J (fun _ _ _ _ => False) hJ (fun _ _ => ⟨fun _ _ h => h.elim, fun _ _ _ h => h.elim⟩) (fp0 := [H.length, H.length + 1, H.length + 2]) ⟨rfl, g0, g1, g2⟩ ?_ (tabF P M ord sl) (fun m hm => ?_) (fun H1 h1 h2' => by have := all1_iter (n := H2.length) (h2.keep (H' := H1) fun m hm => h2' m (by have := hft m hm; omega)); rw [h1] at this; exact this) ?_ (fun _ _ _ _ _ _ hh => hh.elim)
  · rintro as' bd' j fp H1 args gv hj hn hl hrec ⟨rfl, q0, q1, q2⟩ ⟨S', M', rfl, rfl, hsl, _⟩ hgv
    have hxm := getD_mem hj
    have hwx := (h.s _ hxm).2.1
    have hld := ts_seq (H := H1) (ts := tsOf sl) (j := j) (by omega)
    have hld0 := fun G => ts_seq (H := G) (ts := tsOf sl) (j := j) (by omega)
    have hld2 := fun G => ts_load (H := G) (ts := tsOf sl) (j := j) (by omega)
    rw [tsOf_getD hj] at hld
    simp only [tsOf_getD hj] at hld0 hld2
    generalize sl.getD j default = x at *
    obtain ⟨hS1, hS2, hS3⟩ := hgv S' (by simp)
    obtain ⟨hM1, hM2, hM3⟩ := hgv M' (by simp)
    rw [hl2] at hrec hl hS2 hM2 ⊢
    have hs3 : ∀ X, SlotS (H1.set (H.length + 3) X) S' M' x.h x.fs := fun X => ⟨by rw [List.getElem?_set_ne (fun e => hS2 e.symm)]; exact hsl.s, by rw [List.getElem?_set_ne (fun e => hM2 e.symm)]; exact hsl.m⟩
    have hcast : (j : Int) + 1 = ((j + 1 : Nat) : Int) := by omega
    have hvw : ∀ G, (view G (recs encT false (tsOf sl))).isSome = true := fun _ => rfl
    refine run_V0 60 ?_
    simp (disch := first | omega | (simp only [lnx]; omega)) only [stdh, stdx, ↓reduceIte, seval, cuneiformlaw14_Alike.a1, cuneiformlaw14_Alike.b1, hrec, q0, q1, q2, s1, hld0, hld2, hvw, List.zip_cons_cons, List.zip_nil_left, List.reverse_cons, List.reverse_nil, List.getElem?_set_self, List.getElem?_set_ne]
    refine callK_fn (alike_ok (hs3 _) hwx _ ?_)
    refine runL_V 60 ?_
    simp (disch := first | omega | (simp only [lnx]; omega)) only [stdh, stdx, ↓reduceIte, seval, q0, q1, q2, List.getElem?_set_self, List.getElem?_set_ne]
    rw [hcast]
    refine round_fin (n := H.length + 3) rfl (by simp (disch := first | omega | (simp only [lnx]; omega)) only [List.getElem?_set_ne, List.getElem?_set_self, List.length_set, ne_eq, not_false_eq_true]; first | done | exact List.getElem?_set_self (by omega) | rfl) ?_
    refine ⟨[H.length, H.length + 1, H.length + 2], ⟨by simp, fun m hm => ?_, fun m m1 m2 => ?_⟩, by simp, .inl ⟨rfl, ?_, rfl, ?_, ?_, ?_⟩⟩
    · simp only [List.mem_cons, List.not_mem_nil, or_false] at hm ⊢
      rcases hm with h | h | h | h <;> simp [h]
    · simp only [List.mem_cons, List.mem_append, List.not_mem_nil, or_false, not_or] at m2
      rw [List.getElem?_set_ne (by omega), List.getElem?_set_ne (by omega), List.getElem?_set_ne (by omega), List.getElem?_set_ne (by omega)]
    · rw [List.getElem?_set_self (by (first | omega | (simp only [lnx]; omega)))]; rfl
    · rw [List.getElem?_set_ne (by omega), List.getElem?_set_ne (by omega), List.getElem?_set_ne (by omega), List.getElem?_set_ne (by omega)]; exact q0
    · rw [List.getElem?_set_ne (by omega), List.getElem?_set_self (by (first | omega | (simp only [lnx]; omega)))]
    · rw [List.getElem?_set_ne (by omega), List.getElem?_set_ne (by omega), List.getElem?_set_self (by (first | omega | (simp only [lnx]; omega)))]
  · have := hft m hm
    exact ⟨by omega, by simp; omega⟩
  · rintro fp H' hl hk ⟨rfl, q0, q1, q2⟩
    refine run_V0 60 ?_
    simp (disch := first | omega | (simp only [lnx]; omega)) only [stdh, stdx, ↓reduceIte, seval, q0, q1, q2, s1]
    refine ice_keeps ⟨by omega, fun m hm => ?_⟩ trivial hq
    rw [hk m (by omega) (by simp; omega), hk2.2 m hm]
end
end Go.Proofs.Ytamcfgdnhgmkpaa
