/-
  Lemmas on the way to the statements of this seat. By an AI agent. No person has read it.
-/
import Derived.Test.YtlkadcahjifolaaMSGA
import Derived.Test.YtlkadcahjifolaaMSGB
import Derived.Test.YtlkadcahjifolaaMSGC
set_option linter.unusedSimpArgs false
set_option linter.unusedVariables false

namespace Go.Proofs.Ytlkadcahjifolaa
open Go Go.Am
set_option linter.unusedSimpArgs false
set_option linter.unusedVariables false

/-! Messages whose lists are their own. -/

def encV (m : Mg) (pv cv : AVal) : List AVal := [.int .i64 m.k, .int .i64 m.n0, .int .i64 m.n1, .int .i64 m.n2, .int .i64 m.n3, .int .i64 m.n4, .int .i64 m.n5, pv, cv, .str m.t, .str m.g]
/-- A list of one owner, whatever is in it. -/
def OwnL (w : Nat) (el : TypeId) (H : AHeap) (a : AVal) : Prop := ∃ n cs, n ≤ 1000 ∧ Own w el 0 H a n cs
theorem OwnL.nil {w : Nat} {el : TypeId} {H : AHeap} : OwnL w el H .nils := ⟨0, [], Nat.zero_le _, Own.nil⟩
theorem OwnL.keep {w : Nat} {el : TypeId} {H H' : AHeap} {a : AVal} (h : OwnL w el H a) (hk : Keeps H H') : OwnL w el H' a := by
  obtain ⟨n, cs, hn, h⟩ := h; exact ⟨n, cs, hn, h.keep hk⟩
theorem OwnL.cell {w : Nat} {el : TypeId} {H : AHeap} {a : AVal} (h : OwnL w el H a) : a.cells = [a] ∧ a.cellish = true := by
  obtain ⟨n, cs, _, h⟩ := h; exact h.cell
theorem OwnL.setC {w : Nat} {el : TypeId} {H : AHeap} {a : AVal} (h : OwnL w el H a) {c : Nat} {l : List AVal} {T : TypeId} (hc : H[c]? = some (.cells l T)) (b : ABlk) : OwnL w el (H.set c b) a := by
  obtain ⟨n, cs, hn1, h⟩ := h
  have hn := h.ne hc
  exact ⟨n, cs, hn1, h.moved fun m hm => List.getElem?_set_ne (fun e : c = m => hn (by rw [e]; exact hm))⟩

theorem cloneP_own (H : AHeap) (xs : List (Int × Int)) (hx : xs.length ≤ 1000) (Q : AVal → AHeap → Prop) (h : ∀ H' a, Keeps H H' → OwnL 2 T.msg_Point H' a → Q a H') : FunOK Try.prog F.slices_Clone_msg_Point_msg_Point [pts xs] H Q := by
  refine fun_V 8 slices_Clone_msg_Point_msg_Point_code rfl ?_
  simp (disch := first | omega | (simp only [lnx]; omega)) only [stdh, stdx, ↓reduceIte, seval, slices_Clone_msg_Point_msg_Point, slices_Clone_msg_Point_msg_Point.body]
  refine runL_isnil (cs := xs.flatMap encP) (n := xs.length) (t := false) rfl rfl fun b hb => ?_
  refine runL_V 60 ?_
  cases b
  · have hl := flatMap_length encP_len xs
    obtain ⟨p, a1, hp⟩ := Own.append3 (H := H ++ [ABlk.vec [] T.msg_Point 2]) (a := .slc H.length 0 0 2) (x := pts xs) (w := 2) (el := T.msg_Point) (B := 0) (n := 0) (cs := []) (k := xs.length) (ys := xs.flatMap encP) ⟨rfl, .inr ⟨_, Nat.zero_le _, rfl, at_0⟩⟩ 16 rfl rfl hl (by omega) (by omega) (by omega) (by simp [encP, AVal.cellish])
    simp (disch := first | omega | (simp only [lnx]; omega)) only [stdh, stdx, ↓reduceIte, seval, a1, hp, killA, set_0]
    exact h _ _ (keeps_append _ _) ⟨xs.length, xs.flatMap encP, hx, hl, .inr ⟨H.length + 1, Nat.zero_le _, by simp, by simp⟩⟩
  · simp (disch := first | omega | (simp only [lnx]; omega)) only [stdh, stdx, ↓reduceIte, seval]
    exact h _ _ (Keeps.refl _) OwnL.nil

theorem cloneI_own (H : AHeap) (xs : List Int) (hx : xs.length ≤ 1000) (Q : AVal → AHeap → Prop) (h : ∀ H' a, Keeps H H' → OwnL 1 T.int H' a → Q a H') : FunOK Try.prog F.slices_Clone_int_int [ints false xs] H Q := by
  refine fun_V 8 slices_Clone_int_int_code rfl ?_
  simp (disch := first | omega | (simp only [lnx]; omega)) only [stdh, stdx, ↓reduceIte, seval, slices_Clone_int_int, slices_Clone_int_int.body]
  refine runL_isnil (cs := xs.map fun n : Int => AVal.int .i64 n) (n := xs.length) (t := false) rfl rfl fun b hb => ?_
  refine runL_V 60 ?_
  cases b
  · have hl : (xs.map fun n : Int => AVal.int .i64 n).length = xs.length * 1 := by simp
    obtain ⟨p, a1, hp⟩ := Own.append3 (H := H ++ [ABlk.vec [] T.int 1]) (a := .slc H.length 0 0 1) (x := ints false xs) (w := 1) (el := T.int) (B := 0) (n := 0) (cs := []) (k := xs.length) (ys := xs.map fun n : Int => AVal.int .i64 n) ⟨rfl, .inr ⟨_, Nat.zero_le _, rfl, at_0⟩⟩ 8 rfl rfl hl (by omega) (by omega) (by omega) (by simp [AVal.cellish])
    simp (disch := first | omega | (simp only [lnx]; omega)) only [stdh, stdx, ↓reduceIte, seval, a1, hp, killA, set_0]
    exact h _ _ (keeps_append _ _) ⟨xs.length, _, hx, hl, .inr ⟨H.length + 1, Nat.zero_le _, by simp, by simp⟩⟩
  · simp (disch := first | omega | (simp only [lnx]; omega)) only [stdh, stdx, ↓reduceIte, seval]
    exact h _ _ (Keeps.refl _) OwnL.nil

set_option maxHeartbeats 4000000 in
theorem copy_own (H : AHeap) (m : Mg) (hm : m.small) (Q : AVal → AHeap → Prop) (h : ∀ H' pv cv, Keeps H H' → OwnL 2 T.msg_Point H' pv → OwnL 1 T.int H' cv → Q (.agg (encV m pv cv)) H') : FunOK Try.prog F.msg_Copy [.agg (encM m)] H Q := by
  refine fun_V 60 msg_Copy_code rfl ?_
  simp (disch := first | omega | (simp only [lnx]; omega)) only [stdh, stdx, ↓reduceIte, seval, msg_Copy, msg_Copy.body, msg_Copy.d0, encM]
  refine callD_fn (cloneP_own _ _ hm.p _ fun H1 pv k1 o1 => ?_)
  have e1 : H1[H.length]? = some (ABlk.cells (encM m) T.msg_Msg) := k1.get at_0
  have e2 : H1[H.length + 1]? = some (ABlk.cells [.int .i64 0, .int .i64 0, .int .i64 0, .int .i64 0, .int .i64 0, .int .i64 0, .int .i64 0, .nils, .nils, .str ⟨#[]⟩, .str ⟨#[]⟩] T.msg_Msg) := k1.get at_k
  have e1' : H1[H.length]? = some (ABlk.cells [.int .i64 m.k, .int .i64 m.n0, .int .i64 m.n1, .int .i64 m.n2, .int .i64 m.n3, .int .i64 m.n4, .int .i64 m.n5, recs encP false m.p, ints false m.c, .str m.t, .str m.g] T.msg_Msg) := e1
  refine ⟨by simp (disch := first | omega | (simp only [lnx]; omega)) only [stdh, stdx, ↓reduceIte, seval, e1'], ?_⟩
  refine runD_V 60 ?_
  simp (disch := first | omega | (simp only [lnx]; omega)) only [stdh, stdx, ↓reduceIte, seval]
  refine callD_fn (cloneI_own _ _ hm.c _ fun H2 cv k2 o2 => ?_)
  have f1' : H2[H.length]? = some (ABlk.cells [.int .i64 m.k, .int .i64 m.n0, .int .i64 m.n1, .int .i64 m.n2, .int .i64 m.n3, .int .i64 m.n4, .int .i64 m.n5, recs encP false m.p, ints false m.c, .str m.t, .str m.g] T.msg_Msg) := k2.get e1'
  have f2 := k2.get e2
  have hl2 := (List.getElem?_eq_some_iff.1 f2).1
  refine ⟨by simp (disch := first | omega | (simp only [lnx]; omega)) only [stdh, stdx, ↓reduceIte, seval, f1'], ?_⟩
  refine runD_V 60 ?_
  simp (disch := first | omega | (simp only [lnx]; omega)) only [stdh, stdx, ↓reduceIte, seval, f1', f2, o1.cell.1, o1.cell.2, o2.cell.1, o2.cell.2, List.getElem?_set_self, List.getElem?_set_ne]
  rw [List.set_set]
  have g2 : ∀ b, (H2.set H.length b)[H.length + 1]? = H2[H.length + 1]? := fun b => List.getElem?_set_ne (by omega)
  exact h _ pv cv (((((keeps_append _ _).trans k1).trans k2).set (n := H.length) (Nat.le_refl _) _).set (n := H.length + 1) (by omega) _) (((o1.keep k2).setC f1' _).setC ((g2 _).trans f2) _) ((o2.setC f1' _).setC ((g2 _).trans f2) _)

/-- A message with some of its lists gone, or none. -/
def Less (pv pv' : AVal) : Prop := pv' = pv ∨ pv' = .nils

set_option maxHeartbeats 4000000 in
theorem without_any (H : AHeap) (m : Mg) {pv cv : AVal} (hp : pv.cells = [pv] ∧ pv.cellish = true) (hc : cv.cells = [cv] ∧ cv.cellish = true) (f : Fld) (hf : f.ok) (Q : AVal → AHeap → Prop) (h : ∀ H' m' pv' cv', Keeps H H' → Less pv pv' → Less cv cv' → Q (.agg (encV m' pv' cv')) H') : FunOK Try.prog F.msg_without [.agg (encV m pv cv), .agg (encF f)] H Q := by
  refine fun_V 60 msg_without_code rfl ?_
  have kk := keeps_append H
  by_cases s3 : f.sort = 3
  · simp (disch := first | omega | (simp only [lnx]; omega)) only [stdh, stdx, ↓reduceIte, seval, msg_without, msg_without.body, encF, encV, s3, hp.1, hp.2, hc.1, hc.2]
    exact h _ m .nils cv (kk _) (.inr rfl) (.inl rfl)
  by_cases s4 : f.sort = 4
  · simp (disch := first | omega | (simp only [lnx]; omega)) only [stdh, stdx, ↓reduceIte, seval, msg_without, msg_without.body, encF, encV, s4, hp.1, hp.2, hc.1, hc.2]
    exact h _ m pv .nils (kk _) (.inl rfl) (.inr rfl)
  by_cases s5 : f.sort = 5
  · simp (disch := first | omega | (simp only [lnx]; omega)) only [stdh, stdx, ↓reduceIte, seval, msg_without, msg_without.body, encF, encV, s5, hp.1, hp.2, hc.1, hc.2]
    exact h _ { m with t := ⟨#[]⟩ } pv cv (kk _) (.inl rfl) (.inl rfl)
  by_cases s6 : f.sort = 6
  · simp (disch := first | omega | (simp only [lnx]; omega)) only [stdh, stdx, ↓reduceIte, seval, msg_without, msg_without.body, encF, encV, s6, hp.1, hp.2, hc.1, hc.2]
    exact h _ { m with g := ⟨#[]⟩ } pv cv (kk _) (.inl rfl) (.inl rfl)
  rcases hf with h3 | h3 | h3 | h3 | h3 | h3 | h3 | h3 | h3 | h3
  · exact absurd h3 s3
  · exact absurd h3 s4
  · exact absurd h3 s5
  · exact absurd h3 s6
  · simp (disch := first | omega | (simp only [lnx]; omega)) only [stdh, stdx, ↓reduceIte, seval, msg_without, msg_without.body, encF, encV, s3, s4, s5, s6, h3, hp.1, hp.2, hc.1, hc.2]
    exact h _ { m with n0 := 0 } pv cv (kk _) (.inl rfl) (.inl rfl)
  · simp (disch := first | omega | (simp only [lnx]; omega)) only [stdh, stdx, ↓reduceIte, seval, msg_without, msg_without.body, encF, encV, s3, s4, s5, s6, h3, hp.1, hp.2, hc.1, hc.2]
    exact h _ { m with n1 := 0 } pv cv (kk _) (.inl rfl) (.inl rfl)
  · simp (disch := first | omega | (simp only [lnx]; omega)) only [stdh, stdx, ↓reduceIte, seval, msg_without, msg_without.body, encF, encV, s3, s4, s5, s6, h3, hp.1, hp.2, hc.1, hc.2]
    exact h _ { m with n2 := 0 } pv cv (kk _) (.inl rfl) (.inl rfl)
  · simp (disch := first | omega | (simp only [lnx]; omega)) only [stdh, stdx, ↓reduceIte, seval, msg_without, msg_without.body, encF, encV, s3, s4, s5, s6, h3, hp.1, hp.2, hc.1, hc.2]
    exact h _ { m with n3 := 0 } pv cv (kk _) (.inl rfl) (.inl rfl)
  · simp (disch := first | omega | (simp only [lnx]; omega)) only [stdh, stdx, ↓reduceIte, seval, msg_without, msg_without.body, encF, encV, s3, s4, s5, s6, h3, hp.1, hp.2, hc.1, hc.2]
    exact h _ { m with n4 := 0 } pv cv (kk _) (.inl rfl) (.inl rfl)
  · simp (disch := first | omega | (simp only [lnx]; omega)) only [stdh, stdx, ↓reduceIte, seval, msg_without, msg_without.body, encF, encV, s3, s4, s5, s6, h3, hp.1, hp.2, hc.1, hc.2]
    exact h _ { m with n5 := 0 } pv cv (kk _) (.inl rfl) (.inl rfl)
set_option linter.unusedSimpArgs false
set_option linter.unusedVariables false

theorem Less.own {w : Nat} {el : TypeId} {H : AHeap} {a a' : AVal} (h : Less a a') (ho : OwnL w el H a) : OwnL w el H a' := by
  rcases h with rfl | rfl
  · exact ho
  · exact OwnL.nil

set_option maxRecDepth 10000 in
set_option maxHeartbeats 8000000 in
theorem projX_loop {v : Int} {l : List Fld} (hlen : l.length ≤ 6) (hok : ∀ f ∈ l, f.ok2) (K : List AItem) (Q : AVal → AHeap → Prop) {H0 : AHeap} {c : Nat} (hc : H0.length ≤ c)
    (hQ : ∀ H r m pv cv, Keeps H0 H → H[c]? = some (.cells (encV m pv cv) T.msg_Msg) → H[c + 1]? = some (.cells mgz T.msg_Msg) → OwnL 2 T.msg_Point H pv → OwnL 1 T.int H cv → rget r 2 = .ptr c 0 → rget r 4 = .ptr (c + 1) 0 → Run Try.prog projC K r H Q) :
    ∀ (n i : Nat) (H : AHeap) (m : Mg) (pv cv : AVal), l.length - i = n → i ≤ l.length → Keeps H0 H → H[c]? = some (.cells (encV m pv cv) T.msg_Msg) → H[c + 1]? = some (.cells mgz T.msg_Msg) → OwnL 2 T.msg_Point H pv → OwnL 1 T.int H cv →
    Rounds Try.prog projC msg_Project.b0 [.inBlock 0] K [(1, .int .i64 v), (2, .ptr c 0), (4, .ptr (c + 1) 0), (11, recs encF false l), (12, .int .i64 l.length), (13, .int .i64 i)] H Q
  | n, i, H, m, pv, cv, h1, h2, hk, hh1, hh2, o1, o2 => by
    refine loop_V 100 msg_Project.b0.eq_1 ?_
    have hcl : c + 1 < H.length := (List.getElem?_eq_some_iff.1 hh2).1
    by_cases hil : i < l.length
    · have hld : ∀ H, loadA H (some 7) (.sptr (recs encF false l) (i * 7)) = some (True, .agg (encF (l.getD i fld0))) := fun H => load_recs (enc := encF) (t := false) encF_len hil
      have hfo := hok _ (getD_mem hil)
      generalize hx : l.getD i fld0 = x at *
      have hcast : (i : Int) + 1 = ((i + 1 : Nat) : Int) := by omega
      have e1 : ∀ L, (H ++ L)[c]? = some (ABlk.cells [.int .i64 m.k, .int .i64 m.n0, .int .i64 m.n1, .int .i64 m.n2, .int .i64 m.n3, .int .i64 m.n4, .int .i64 m.n5, pv, cv, .str m.t, .str m.g] T.msg_Msg) := fun L => (at_low (by omega)).trans hh1
      have skip : ∀ b, Rounds Try.prog projC msg_Project.b0 [.inBlock 0] K [(1, .int .i64 v), (2, .ptr c 0), (4, .ptr (c + 1) 0), (11, recs encF false l), (12, .int .i64 l.length), (13, .int .i64 ((i + 1 : Nat) : Int))] (H ++ [b]) Q := fun b =>
        projX_loop hlen hok K Q hc hQ _ (i + 1) _ m pv cv rfl (by omega) (hk.push _) ((at_low (by omega)).trans hh1) ((at_low (by omega)).trans hh2) (o1.keep (keeps_append _ _)) (o2.keep (keeps_append _ _))
      by_cases hv : v = 1
      · have hd1 : decide (v = 1) = true := decide_eq_true hv
        by_cases hs : x.since = 1
        · simp (disch := first | omega | (simp only [lnx]; omega)) only [stdh, stdx, ↓reduceIte, seval, hld, encF, hs, hd1]
          rw [hcast]
          exact skip _
        · simp (disch := first | omega | (simp only [lnx]; omega)) only [stdh, stdx, ↓reduceIte, seval, hld, encF, hs, hd1, at_low, e1]
          refine callK_fn (without_any _ m o1.cell o2.cell x hfo.1 _ fun H' m' pv' cv' k' l1 l2 => ?_)
          refine runL_V 100 ?_
          have o1' := l1.own (o1.keep ((keeps_append H _).trans k'))
          have o2' := l2.own (o2.keep ((keeps_append H _).trans k'))
          have f1 : H'[c]? = some (ABlk.cells [.int .i64 m.k, .int .i64 m.n0, .int .i64 m.n1, .int .i64 m.n2, .int .i64 m.n3, .int .i64 m.n4, .int .i64 m.n5, pv, cv, .str m.t, .str m.g] T.msg_Msg) := k'.get (e1 _)
          have f2 : H'[c + 1]? = some (.cells mgz T.msg_Msg) := k'.get ((at_low (by omega)).trans hh2)
          have fx : H'[H.length]? = some (ABlk.cells [.str x.name, .int .i64 x.sort, .int .i64 x.place, .int .i64 x.least, .int .i64 x.most, .int .i64 x.since, .int .i64 x.absent] T.field_Field) := k'.get at_0
          have hl' : H.length < H'.length := (List.getElem?_eq_some_iff.1 fx).1
          have next : ∀ m2 : Mg, Rounds Try.prog projC msg_Project.b0 [.inBlock 0] K [(1, .int .i64 v), (2, .ptr c 0), (4, .ptr (c + 1) 0), (11, recs encF false l), (12, .int .i64 l.length), (13, .int .i64 ((i + 1 : Nat) : Int))] (H'.set c (.cells (encV m2 pv' cv') T.msg_Msg)) Q := fun m2 =>
            projX_loop hlen hok K Q hc hQ _ (i + 1) _ m2 pv' cv' rfl (by omega) (((hk.push _).trans k').set hc _) (List.getElem?_set_self (by omega)) ((List.getElem?_set_ne (by omega)).trans f2) (o1'.setC f1 _) (o2'.setC f1 _)
          obtain ⟨hfo1, p | p | p | p | p | p | p⟩ := hfo
          · simp (disch := first | omega | (simp only [lnx]; omega)) only [stdh, stdx, ↓reduceIte, seval, encV, fx, f1, p, o1'.cell.1, o1'.cell.2, o2'.cell.1, o2'.cell.2, List.getElem?_set_self, List.getElem?_set_ne]
            rw [hcast]
            exact next m'
          · simp (disch := first | omega | (simp only [lnx]; omega)) only [stdh, stdx, ↓reduceIte, seval, encV, fx, f1, p, o1'.cell.1, o1'.cell.2, o2'.cell.1, o2'.cell.2, List.getElem?_set_self, List.getElem?_set_ne, List.set_set]
            rw [hcast]
            exact next { m' with n0 := x.absent }
          · simp (disch := first | omega | (simp only [lnx]; omega)) only [stdh, stdx, ↓reduceIte, seval, encV, fx, f1, p, o1'.cell.1, o1'.cell.2, o2'.cell.1, o2'.cell.2, List.getElem?_set_self, List.getElem?_set_ne, List.set_set]
            rw [hcast]
            exact next { m' with n1 := x.absent }
          · simp (disch := first | omega | (simp only [lnx]; omega)) only [stdh, stdx, ↓reduceIte, seval, encV, fx, f1, p, o1'.cell.1, o1'.cell.2, o2'.cell.1, o2'.cell.2, List.getElem?_set_self, List.getElem?_set_ne, List.set_set]
            rw [hcast]
            exact next { m' with n2 := x.absent }
          · simp (disch := first | omega | (simp only [lnx]; omega)) only [stdh, stdx, ↓reduceIte, seval, encV, fx, f1, p, o1'.cell.1, o1'.cell.2, o2'.cell.1, o2'.cell.2, List.getElem?_set_self, List.getElem?_set_ne, List.set_set]
            rw [hcast]
            exact next { m' with n3 := x.absent }
          · simp (disch := first | omega | (simp only [lnx]; omega)) only [stdh, stdx, ↓reduceIte, seval, encV, fx, f1, p, o1'.cell.1, o1'.cell.2, o2'.cell.1, o2'.cell.2, List.getElem?_set_self, List.getElem?_set_ne, List.set_set]
            rw [hcast]
            exact next { m' with n4 := x.absent }
          · simp (disch := first | omega | (simp only [lnx]; omega)) only [stdh, stdx, ↓reduceIte, seval, encV, fx, f1, p, o1'.cell.1, o1'.cell.2, o2'.cell.1, o2'.cell.2, List.getElem?_set_self, List.getElem?_set_ne, List.set_set]
            rw [hcast]
            exact next { m' with n5 := x.absent }
      · simp (disch := first | omega | (simp only [lnx]; omega)) only [stdh, stdx, ↓reduceIte, seval, hld, encF, hv]
        rw [hcast]
        exact skip _
    · simp (disch := first | omega | (simp only [lnx]; omega)) only [stdh, stdx, ↓reduceIte, seval]
      exact hQ H _ m pv cv hk hh1 hh2 o1 o2 rfl rfl
  termination_by n => n

set_option maxHeartbeats 4000000 in
theorem project_own (H : AHeap) (m : Mg) (v : Int) (hm : m.small) (Q : AVal → AHeap → Prop) (h : ∀ H' m' pv cv, Keeps H H' → OwnL 2 T.msg_Point H' pv → OwnL 1 T.int H' cv → Q (.agg (encV m' pv cv)) H') : FunOK Try.prog F.msg_Project [.agg (encM m), .int .i64 v] H Q := by
  refine fun_V 100 msg_Project_code rfl ?_
  simp (disch := first | omega | (simp only [lnx]; omega)) only [stdh, stdx, ↓reduceIte, seval, msg_Project, msg_Project.body, encM]
  refine callK_fn (copy_own _ m hm _ fun H1 pv cv k1 o1 o2 => ?_)
  have e1 : H1[H.length]? = some (ABlk.cells [.int .i64 m.k, .int .i64 m.n0, .int .i64 m.n1, .int .i64 m.n2, .int .i64 m.n3, .int .i64 m.n4, .int .i64 m.n5, recs encP false m.p, ints false m.c, .str m.t, .str m.g] T.msg_Msg) := k1.get at_0
  have e2 : H1[H.length + 1]? = some (.cells mgz T.msg_Msg) := k1.get at_k
  have hl1 := (List.getElem?_eq_some_iff.1 e2).1
  refine runL_V 100 ?_
  simp (disch := first | omega | (simp only [lnx]; omega)) only [stdh, stdx, ↓reduceIte, seval, encV, e1, o1.cell.1, o1.cell.2, o2.cell.1, o2.cell.2, List.getElem?_set_self]
  refine callK_fn (of_ok _ _ _ ?_)
  refine runL_V 100 ?_
  simp (disch := first | omega | (simp only [lnx]; omega)) only [stdh, stdx, ↓reduceIte, seval]
  refine projX_loop (fieldsOf_len m.k) (fun f hf => fieldsOf_ok2 f hf) _ _ (H0 := H) (c := H.length) (by omega) ?_ _ 0 _ m pv cv rfl (by omega) ((((keeps_append _ _).trans k1)).set (Nat.le_refl _) _) (List.getElem?_set_self (by omega)) ((List.getElem?_set_ne (by omega)).trans e2) (o1.setC e1 _) (o2.setC e1 _)
  intro H' r m' pv' cv' hk g1 g2 p1 p2 r2 r4
  have hl : H.length + 1 < H'.length := (List.getElem?_eq_some_iff.1 g2).1
  have g1' : H'[H.length]? = some (ABlk.cells [.int .i64 m'.k, .int .i64 m'.n0, .int .i64 m'.n1, .int .i64 m'.n2, .int .i64 m'.n3, .int .i64 m'.n4, .int .i64 m'.n5, pv', cv', .str m'.t, .str m'.g] T.msg_Msg) := g1
  refine run_V0 100 ?_
  simp (disch := first | omega | (simp only [lnx]; omega)) only [stdh, stdx, ↓reduceIte, seval, r2, r4, g1', g2, mgz, p1.cell.1, p1.cell.2, p2.cell.1, p2.cell.2, List.getElem?_set_self]
  exact h _ m' pv' cv' (hk.set (by omega) _) (p1.setC g2 _) (p2.setC g2 _)
set_option linter.unusedSimpArgs false
set_option linter.unusedVariables false

set_option maxHeartbeats 4000000 in
theorem set_own (H : AHeap) (m : Mg) (hm : m.small) (name : ByteArray) (v : Int) (Q : AVal → AHeap → Prop) (h : ∀ H' m' pv cv (b : Bool), Keeps H H' → OwnL 2 T.msg_Point H' pv → OwnL 1 T.int H' cv → Q (.tup [.agg (encV m' pv cv), .bool b]) H') : FunOK Try.prog F.msg_Set [.agg (encM m), .str name, .int .i64 v] H Q := by
  refine fun_V 100 msg_Set_code rfl ?_
  simp (disch := first | omega | (simp only [lnx]; omega)) only [stdh, stdx, ↓reduceIte, seval, msg_Set, msg_Set.body, encM]
  refine callK_fn (copy_own _ m hm _ fun H1 pv cv k1 o1 o2 => ?_)
  have e1 : H1[H.length]? = some (ABlk.cells [.int .i64 m.k, .int .i64 m.n0, .int .i64 m.n1, .int .i64 m.n2, .int .i64 m.n3, .int .i64 m.n4, .int .i64 m.n5, recs encP false m.p, ints false m.c, .str m.t, .str m.g] T.msg_Msg) := k1.get at_0
  have e2 : H1[H.length + 1]? = some (.cells mgz T.msg_Msg) := k1.get at_k
  have hl1 := (List.getElem?_eq_some_iff.1 e2).1
  have e2' : H1[H.length + 1]? = some (ABlk.cells [.int .i64 0, .int .i64 0, .int .i64 0, .int .i64 0, .int .i64 0, .int .i64 0, .int .i64 0, .nils, .nils, .str ⟨#[]⟩, .str ⟨#[]⟩] T.msg_Msg) := e2
  have kk : Keeps H H1 := (keeps_append _ _).trans k1
  refine runL_V 100 ?_
  simp (disch := first | omega | (simp only [lnx]; omega)) only [stdh, stdx, ↓reduceIte, seval, encV, e1, o1.cell.1, o1.cell.2, o2.cell.1, o2.cell.2, List.getElem?_set_self]
  refine callK_fn (ffind_ok _ _ _ _ ?_)
  refine runL_V 100 ?_
  obtain ⟨G, hG⟩ : ∃ G, G = H1.set H.length (ABlk.cells [.int .i64 m.k, .int .i64 m.n0, .int .i64 m.n1, .int .i64 m.n2, .int .i64 m.n3, .int .i64 m.n4, .int .i64 m.n5, pv, cv, .str m.t, .str m.g] T.msg_Msg) := ⟨_, rfl⟩
  rw [← hG]
  have g1 : G[H.length]? = some (ABlk.cells [.int .i64 m.k, .int .i64 m.n0, .int .i64 m.n1, .int .i64 m.n2, .int .i64 m.n3, .int .i64 m.n4, .int .i64 m.n5, pv, cv, .str m.t, .str m.g] T.msg_Msg) := by rw [hG]; exact List.getElem?_set_self (by omega)
  have g2 : G[H.length + 1]? = some (ABlk.cells [.int .i64 0, .int .i64 0, .int .i64 0, .int .i64 0, .int .i64 0, .int .i64 0, .int .i64 0, .nils, .nils, .str ⟨#[]⟩, .str ⟨#[]⟩] T.msg_Msg) := by rw [hG, List.getElem?_set_ne (by omega)]; exact e2'
  have kG : Keeps H G := by rw [hG]; exact kk.set (Nat.le_refl _) _
  have p1 : OwnL 2 T.msg_Point G pv := by rw [hG]; exact o1.setC e1 _
  have p2 : OwnL 1 T.int G cv := by rw [hG]; exact o2.setC e1 _
  have hlG : H.length + 1 < G.length := (List.getElem?_eq_some_iff.1 g2).1
  clear hG e1 e2 e2' hl1 kk k1 o1 o2
  have q1 : ∀ b, (G ++ [b])[H.length]? = G[H.length]? := fun b => at_low (by omega)
  have q2 : ∀ b, (G ++ [b])[H.length + 1]? = G[H.length + 1]? := fun b => at_low (by omega)
  have done1 : ∀ (b : ABlk) (m2 : Mg) (bo : Bool), Q (.tup [.agg (encV m2 pv cv), .bool bo]) ((G ++ [b]).set (H.length + 1) (.cells (encV m2 pv cv) T.msg_Msg)) := fun b m2 bo =>
    h _ m2 pv cv bo ((kG.push _).set (by omega) _) ((p1.keep (keeps_append _ _)).setC ((q2 b).trans g2) _) ((p2.keep (keeps_append _ _)).setC ((q2 b).trans g2) _)
  have done2 : ∀ (b : ABlk) (X : ABlk) (m2 : Mg) (bo : Bool), Q (.tup [.agg (encV m2 pv cv), .bool bo]) (((G ++ [b]).set H.length X).set (H.length + 1) (.cells (encV m2 pv cv) T.msg_Msg)) := fun b X m2 bo =>
    have s2 : ((G ++ [b]).set H.length X)[H.length + 1]? = some (ABlk.cells [.int .i64 0, .int .i64 0, .int .i64 0, .int .i64 0, .int .i64 0, .int .i64 0, .int .i64 0, .nils, .nils, .str ⟨#[]⟩, .str ⟨#[]⟩] T.msg_Msg) := (List.getElem?_set_ne (by omega)).trans ((q2 b).trans g2)
    h _ m2 pv cv bo (((kG.push _).set (Nat.le_refl _) _).set (by omega) _) (((p1.keep (keeps_append _ _)).setC ((q1 b).trans g1) _).setC s2 _) (((p2.keep (keeps_append _ _)).setC ((q1 b).trans g1) _).setC s2 _)
  cases hf : findF m.k name with
  | none =>
    simp (disch := first | omega | (simp only [lnx]; omega)) only [stdh, stdx, ↓reduceIte, seval, Option.getD_none, Option.isSome_none, encF, fld0, q1, q2, g1, g2, p1.cell.1, p1.cell.2, p2.cell.1, p2.cell.2, List.getElem?_set_self, List.getElem?_set_ne, at_low]
    exact done1 _ m false
  | some f =>
    obtain ⟨_, p | p | p | p | p | p | p⟩ := fieldsOf_ok2 f (findF_mem hf)
    all_goals
      simp (disch := first | omega | (simp only [lnx]; omega)) only [stdh, stdx, ↓reduceIte, seval, Option.getD_some, Option.isSome_some, encF, p, q1, q2, g1, g2, p1.cell.1, p1.cell.2, p2.cell.1, p2.cell.2, List.getElem?_set_self, List.getElem?_set_ne, at_low]
    · exact done1 _ m false
    · exact done2 _ _ { m with n0 := v } true
    · exact done2 _ _ { m with n1 := v } true
    · exact done2 _ _ { m with n2 := v } true
    · exact done2 _ _ { m with n3 := v } true
    · exact done2 _ _ { m with n4 := v } true
    · exact done2 _ _ { m with n5 := v } true

/-! Writing to a list of one's own. -/

def OwnN (w : Nat) (el : TypeId) (H : AHeap) (a : AVal) (n : Nat) : Prop := ∃ cs, Own w el 0 H a n cs
theorem OwnN.slen {w : Nat} {el : TypeId} {H : AHeap} {a : AVal} {n : Nat} (h : OwnN w el H a n) : slen a = some n := by obtain ⟨cs, h⟩ := h; exact h.slen
theorem OwnN.isSome {w : Nat} {el : TypeId} {H : AHeap} {a : AVal} {n : Nat} (h : OwnN w el H a n) : (Am.view H a).isSome = true := by obtain ⟨cs, h⟩ := h; exact h.isSome
theorem OwnN.cell {w : Nat} {el : TypeId} {H : AHeap} {a : AVal} {n : Nat} (h : OwnN w el H a n) : a.cells = [a] ∧ a.cellish = true := by obtain ⟨cs, h⟩ := h; exact h.cell

/-- What a write leaves. -/
structure Wrote (H H' : AHeap) : Prop where
  len : H'.length = H.length
  box : ∀ {c : Nat} {l : List AVal} {T : TypeId}, H[c]? = some (.cells l T) → H'[c]? = some (.cells l T)
  own : ∀ {w : Nat} {el : TypeId} {a : AVal} {n : Nat}, OwnN w el H a n → OwnN w el H' a n

theorem own_write {w : Nat} {el : TypeId} {H : AHeap} {a : AVal} {n : Nat} (ho : OwnN w el H a n) {o : Nat} (h1 : o + 1 ≤ n * w) (v : Int) : ∃ (P : Prop) (H' : AHeap), storeA H 1 (.sptr a o) (.int .i64 v) = some (P, H') ∧ P ∧ Wrote H H' := by
  obtain ⟨cs, ho⟩ := ho
  have hcs := ho.len
  rcases ho.is with ⟨rfl, rfl⟩ | ⟨m, _, rfl, hm⟩
  · simp at h1
  have hfl : (fillAt cs (0 + o) [AVal.int .i64 v]).length = cs.length := by simp [fillAt]; try omega
  refine ⟨_, _, by simp only [storeA, hm]; rfl, ?_, ?_⟩
  · exact ⟨h1, by omega, by omega, rfl, rfl⟩
  refine ⟨List.length_set, fun {c l T} hc => ?_, fun {w' el' x k} hx => ?_⟩
  · have hne : m ≠ c := fun e => by rw [e, hc] at hm; cases hm
    rw [List.getElem?_set_ne hne]; exact hc
  · obtain ⟨cs', hx⟩ := hx
    rcases hx.is with ⟨rfl, rfl⟩ | ⟨m2, _, rfl, hm2⟩
    · exact ⟨cs', hx.len, .inl ⟨rfl, rfl⟩⟩
    · by_cases hmm : m = m2
      · subst hmm
        rw [hm] at hm2
        cases hm2
        refine ⟨fillAt cs (0 + o) [AVal.int .i64 v], ?_, .inr ⟨m, Nat.zero_le _, rfl, ?_⟩⟩
        · rw [hfl]; exact hx.len
        · exact List.getElem?_set_self (List.getElem?_eq_some_iff.1 hm).1
      · exact ⟨cs', hx.len, .inr ⟨m2, Nat.zero_le _, rfl, by rw [List.getElem?_set_ne hmm]; exact hm2⟩⟩
set_option linter.unusedSimpArgs false
set_option linter.unusedVariables false

abbrev apC : Ctx := ⟨F.cuneiformlaw17_MsgApart, 94, [.tmp 4], none⟩

theorem minA3 (a b c : Nat) : minA [.int .i64 (a : Nat), .int .i64 (b : Nat), .int .i64 (c : Nat)] = some (.int .i64 ((min (min a b) c : Nat) : Int)) := by
  simp only [minA, minGo]
  simp
  omega

theorem Wrote.refl (H : AHeap) : Wrote H H := ⟨rfl, fun h => h, fun h => h⟩
theorem Wrote.trans {H H1 H2 : AHeap} (h : Wrote H H1) (g : Wrote H1 H2) : Wrote H H2 := ⟨g.len.trans h.len, fun x => g.box (h.box x), fun x => g.own (h.own x)⟩

/-- A message's block. -/
abbrev boxV (G : AHeap) (a : Nat) (m : Mg) (p c : AVal) : Prop := G[a]? = some (ABlk.cells [.int .i64 m.k, .int .i64 m.n0, .int .i64 m.n1, .int .i64 m.n2, .int .i64 m.n3, .int .i64 m.n4, .int .i64 m.n5, p, c, .str m.t, .str m.g] T.msg_Msg)

set_option maxRecDepth 10000 in
set_option maxHeartbeats 8000000 in
theorem ap_loop1 (K : List AItem) (Q : AVal → AHeap → Prop) {m1 m2 m3 : Mg} {a b s : Nat} {pa pb ps ca cb cs : AVal} {na nb ns : Nat} (hna : na ≤ 1000) {H0 : AHeap}
    (hK : ∀ G r, Wrote H0 G → rget r 2 = .ptr 0 0 → rget r 5 = .ptr 1 0 → rget r 6 = .ptr a 0 → rget r 7 = .ptr b 0 → rget r 8 = .ptr s 0 → Run Try.prog apC K r G Q)
    (ba : boxV H0 a m1 pa ca) (bb : boxV H0 b m2 pb cb) (bs : boxV H0 s m3 ps cs) (oa : OwnN 2 T.msg_Point H0 pa na) (ob : OwnN 2 T.msg_Point H0 pb nb) (os : OwnN 2 T.msg_Point H0 ps ns) :
    ∀ (z i : Nat) (G : AHeap), na - i = z → i ≤ na → Wrote H0 G →
    Rounds Try.prog apC cuneiformlaw17_MsgApart.b2 [.inBlock 0] K [(2, .ptr 0 0), (5, .ptr 1 0), (6, .ptr a 0), (7, .ptr b 0), (8, .ptr s 0), (10, .int .i64 (i : Nat))] G Q
  | z, i, G, h1, h2, hw => by
    refine loop_V 100 cuneiformlaw17_MsgApart.b2.eq_1 ?_
    have ga := hw.box ba
    have gb := hw.box bb
    have gs := hw.box bs
    have xa := hw.own oa
    have xb := hw.own ob
    have xs := hw.own os
    have hmin := minA3 na nb ns
    by_cases hi : i < min (min na nb) ns
    · have d0 : decide ((i : Int) < ((min (min na nb) ns : Nat) : Int)) = true := decide_eq_true (by omega)
      obtain ⟨P1, G1, a1, hP1, w1⟩ := own_write xa (o := i * 2 + 0) (by omega) 5
      obtain ⟨P2, G2, a2, hP2, w2⟩ := own_write (w1.own xb) (o := i * 2 + 1) (by omega) 6
      obtain ⟨P3, G3, a3, hP3, w3⟩ := own_write (w2.own (w1.own xs)) (o := i * 2 + 0) (by omega) 7
      have g1b := w1.box gb
      have g1s := w1.box gs
      have g2s := w2.box g1s
      have la : (i : Int) < (na : Int) := by omega
      simp (disch := first | omega | (simp only [lnx]; omega)) only [stdh, stdx, ↓reduceIte, seval, ga, gb, gs, xa.slen, xb.slen, xs.slen, hmin, d0, cuneiformlaw17_MsgApart.d1, xa.isSome, xb.isSome, xs.isSome, (w1.own xb).isSome, (w2.own (w1.own xs)).isSome, a1, hP1, a2, hP2, a3, hP3, g1b, g1s, g2s]
      rw [show (i : Int) + 1 = ((i + 1 : Nat) : Int) by omega]
      exact ap_loop1 K Q hna hK ba bb bs oa ob os _ (i + 1) G3 rfl (by omega) (hw.trans (w1.trans (w2.trans w3)))
    · have d0 : decide ((i : Int) < ((min (min na nb) ns : Nat) : Int)) = false := decide_eq_false (by omega)
      simp (disch := first | omega | (simp only [lnx]; omega)) only [stdh, stdx, ↓reduceIte, seval, ga, gb, gs, xa.slen, xb.slen, xs.slen, hmin, d0]
      exact hK G _ hw rfl rfl rfl rfl rfl
  termination_by z => z
set_option maxRecDepth 10000 in
set_option maxHeartbeats 8000000 in
theorem ap_loop2 (K : List AItem) (Q : AVal → AHeap → Prop) {m1 m2 m3 : Mg} {a b s : Nat} {pa pb ps ca cb cs : AVal} {na nb ns : Nat} (hna : na ≤ 1000) {H0 : AHeap}
    (hK : ∀ G r, Wrote H0 G → rget r 2 = .ptr 0 0 → rget r 5 = .ptr 1 0 → rget r 6 = .ptr a 0 → rget r 7 = .ptr b 0 → rget r 8 = .ptr s 0 → Run Try.prog apC K r G Q)
    (ba : boxV H0 a m1 pa ca) (bb : boxV H0 b m2 pb cb) (bs : boxV H0 s m3 ps cs) (oa : OwnN 1 T.int H0 ca na) (ob : OwnN 1 T.int H0 cb nb) (os : OwnN 1 T.int H0 cs ns) :
    ∀ (z i : Nat) (G : AHeap), na - i = z → i ≤ na → Wrote H0 G →
    Rounds Try.prog apC cuneiformlaw17_MsgApart.b4 [.inBlock 2] K [(2, .ptr 0 0), (5, .ptr 1 0), (6, .ptr a 0), (7, .ptr b 0), (8, .ptr s 0), (11, .int .i64 (i : Nat))] G Q
  | z, i, G, h1, h2, hw => by
    refine loop_V 100 cuneiformlaw17_MsgApart.b4.eq_1 ?_
    have ga := hw.box ba
    have gb := hw.box bb
    have gs := hw.box bs
    have xa := hw.own oa
    have xb := hw.own ob
    have xs := hw.own os
    have hmin := minA3 na nb ns
    by_cases hi : i < min (min na nb) ns
    · have d0 : decide ((i : Int) < ((min (min na nb) ns : Nat) : Int)) = true := decide_eq_true (by omega)
      obtain ⟨P1, G1, a1, hP1, w1⟩ := own_write xa (o := i) (by omega) 5
      obtain ⟨P2, G2, a2, hP2, w2⟩ := own_write (w1.own xb) (o := i) (by omega) 6
      obtain ⟨P3, G3, a3, hP3, w3⟩ := own_write (w2.own (w1.own xs)) (o := i) (by omega) 7
      have g1b := w1.box gb
      have g1s := w1.box gs
      have g2s := w2.box g1s
      have la : (i : Int) < (na : Int) := by omega
      simp (disch := first | omega | (simp only [lnx]; omega)) only [stdh, stdx, ↓reduceIte, seval, ga, gb, gs, xa.slen, xb.slen, xs.slen, hmin, d0, cuneiformlaw17_MsgApart.d3, xa.isSome, xb.isSome, xs.isSome, (w1.own xb).isSome, (w2.own (w1.own xs)).isSome, a1, hP1, a2, hP2, a3, hP3, g1b, g1s, g2s]
      rw [show (i : Int) + 1 = ((i + 1 : Nat) : Int) by omega]
      exact ap_loop2 K Q hna hK ba bb bs oa ob os _ (i + 1) G3 rfl (by omega) (hw.trans (w1.trans (w2.trans w3)))
    · have d0 : decide ((i : Int) < ((min (min na nb) ns : Nat) : Int)) = false := decide_eq_false (by omega)
      simp (disch := first | omega | (simp only [lnx]; omega)) only [stdh, stdx, ↓reduceIte, seval, ga, gb, gs, xa.slen, xb.slen, xs.slen, hmin, d0]
      exact hK G _ hw rfl rfl rfl rfl rfl
  termination_by z => z

theorem run_rest {P : Program} {c : Ctx} {as' : List AOper} {bef scheds : List (List Nat)} {chk : List (Nat × Nat)} {live : List Nat} {k : List AItem} {r : Regs} {H : AHeap} {Q : AVal → AHeap → Prop} {A : Regs → AHeap → Prop} (h1 : ∀ r H, A r H → Run P c k (prune live r) H Q)
    (h2 : (∀ r H, A r H → Run P c k (prune live r) H Q) → ∀ s ∈ scheds, RunD P c as' chk live k [] Q s [] r H) : Run P c (.code (.draw as' bef scheds chk live) :: k) r H Q :=
  run_draw (K := fun r H => Run P c (k ++ []) (prune live r) H Q) (fun r H h => by rwa [List.append_nil] at h) (h2 h1)

/-- What stands when copy and projection are made. -/
def ApD (m : Mg) (r : Regs) (G : AHeap) : Prop := ∃ (a b : Nat) (m1 m2 : Mg) (pa ca pb cb : AVal), rget r 2 = .ptr 0 0 ∧ rget r 5 = .ptr 1 0 ∧ rget r 6 = .ptr a 0 ∧ rget r 7 = .ptr b 0 ∧ G[0]? = some (.cells (encM m) T.msg_Msg) ∧ G[1]? = some (.cells (encM m) T.cuneiformref17_M) ∧ boxV G a m1 pa ca ∧ boxV G b m2 pb cb ∧ OwnL 2 T.msg_Point G pa ∧ OwnL 1 T.int G ca ∧ OwnL 2 T.msg_Point G pb ∧ OwnL 1 T.int G cb

set_option maxHeartbeats 4000000 in
theorem ap_stores {m : Mg} {k : List AItem} {Q : AVal → AHeap → Prop} (rest : ∀ r G, ApD m r G → Run Try.prog apC k (prune [2, 5, 6, 7] r) G Q) {G : AHeap} {r : Regs} {log : Log} {a b : Nat} {m1 m2 : Mg} {pv cv pv2 cv2 : AVal}
    (g0 : G[0]? = some (.cells (encM m) T.msg_Msg)) (g1 : G[1]? = some (.cells (encM m) T.cuneiformref17_M)) (ga : G[a]? = some (.cells mgz T.msg_Msg)) (gb : G[b]? = some (.cells mgz T.msg_Msg)) (hab : 2 ≤ a ∧ 2 ≤ b ∧ a ≠ b)
    (o1 : OwnL 2 T.msg_Point G pv) (p1 : OwnL 1 T.int G cv) (o2 : OwnL 2 T.msg_Point G pv2) (p2 : OwnL 1 T.int G cv2)
    (r2 : rget r 2 = .ptr 0 0) (r5 : rget r 5 = .ptr 1 0) (r6 : rget r 6 = .ptr a 0) (r7 : rget r 7 = .ptr b 0) (r23 : rget r 23 = .agg (encV m1 pv cv)) (r26 : rget r 26 = .agg (encV m2 pv2 cv2)) :
    RunD Try.prog apC cuneiformlaw17_MsgApart.d0 [(1, 2), (5, 0), (5, 2), (6, 0), (6, 2)] [2, 5, 6, 7] k [] Q [7, 8] log r G := by
  obtain ⟨h1, h2, h3⟩ := hab
  have ga' : G[a]? = some (ABlk.cells [.int .i64 0, .int .i64 0, .int .i64 0, .int .i64 0, .int .i64 0, .int .i64 0, .int .i64 0, .nils, .nils, .str ⟨#[]⟩, .str ⟨#[]⟩] T.msg_Msg) := ga
  have gb' : G[b]? = some (ABlk.cells [.int .i64 0, .int .i64 0, .int .i64 0, .int .i64 0, .int .i64 0, .int .i64 0, .int .i64 0, .nils, .nils, .str ⟨#[]⟩, .str ⟨#[]⟩] T.msg_Msg) := gb
  have gb2 : ∀ X, (G.set a X)[b]? = some (ABlk.cells [.int .i64 0, .int .i64 0, .int .i64 0, .int .i64 0, .int .i64 0, .int .i64 0, .int .i64 0, .nils, .nils, .str ⟨#[]⟩, .str ⟨#[]⟩] T.msg_Msg) := fun X => (List.getElem?_set_ne h3).trans gb
  have la := (List.getElem?_eq_some_iff.1 ga).1
  have lb := (List.getElem?_eq_some_iff.1 gb).1
  have c1 := o1.cell
  have c2 := p1.cell
  have c3 := o2.cell
  have c4 := p2.cell
  refine runD_V 2 ?_
  simp (disch := first | omega | (simp only [lnx]; omega)) only [stdh, stdx, ↓reduceIte, seval, cuneiformlaw17_MsgApart.d0, r6, r7, r23, r26, encV, ga', gb2, c1.1, c1.2, c2.1, c2.2, c3.1, c3.2, c4.1, c4.2]
  show Run Try.prog apC (k ++ []) (prune [2, 5, 6, 7] _) _ Q
  rw [List.append_nil]
  refine rest _ _ ⟨a, b, m1, m2, pv, cv, pv2, cv2, r2, r5, r6, r7, ?_, ?_, ?_, ?_, (o1.setC ga _).setC (gb2 _) _, (p1.setC ga _).setC (gb2 _) _, (o2.setC ga _).setC (gb2 _) _, (p2.setC ga _).setC (gb2 _) _⟩
  · rw [List.getElem?_set_ne (by omega), List.getElem?_set_ne (by omega)]; exact g0
  · rw [List.getElem?_set_ne (by omega), List.getElem?_set_ne (by omega)]; exact g1
  · rw [boxV, List.getElem?_set_ne (fun e => h3 e.symm), List.getElem?_set_self la]
  · rw [boxV, List.getElem?_set_self (by rw [List.length_set]; exact lb)]
end Go.Proofs.Ytlkadcahjifolaa
