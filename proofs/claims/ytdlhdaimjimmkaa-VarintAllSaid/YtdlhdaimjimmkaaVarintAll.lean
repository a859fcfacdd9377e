/-
  VarintAllSaid: whatever the bytes and the number, the law VarintAll returns true, and the input reads as it did. No condition. By an AI agent. No person has read it.
-/
import Derived.Test.YtdlhdaimjimmkaaVarint
import Derived.Test.YtdlhdaimjimmkaaAm5
import Derived.OpenShut
import Derived.Test.YtdlhdaimjimmkaaRows

namespace Go.Proofs.Ytdlhdaimjimmkaa
open Go Go.Am
set_option linter.unusedSimpArgs false
set_option linter.unusedVariables false

theorem known_ok' (H : AHeap) (Q : AVal → AHeap → Prop) (h : Q (.bool true) H) : FunOK Try.prog F.cuneiformlaw01_known [] H Q :=
  fun_iced cuneiformlaw01_known_code fun _ => known_ok H _ fun H' hk => ice_keeps hk trivial h

/-- Where a loop that may end at one of the rounds ends. -/
def stopAt (id : Nat) (stop : Int) (j : Nat) : Option AJump := if (j : Int) = stop then some (.exit id) else none

theorem stop_none {id : Nat} {stop : Int} {j : Nat} (h : (j : Int) ≠ stop) : stopAt id stop j = none := by simp [stopAt, h]
theorem stop_some {id : Nat} {stop : Int} {j : Nat} (h : (j : Int) = stop) : stopAt id stop j = some (.exit id) := by simp [stopAt, h]

theorem alllaw_ok (t : Bool) {bs0 : List Nat} (hb0 : ∀ b ∈ bs0, b < 256) (hlen0 : bs0.length ≤ 9223372036854775807) {stop : Int} (h0 : -9223372036854775808 ≤ stop) (h1 : stop < 9223372036854775808) :
    FunOK Try.prog F.cuneiformlaw01_VarintAll [nums .u8 t bs0, .int .i64 stop] [] fun av _ => av = .bool true := by
  refine fun_V 30 cuneiformlaw01_VarintAll_code rfl ?_
  have hmin : (if (60 : Int) < (bs0.length : Int) then (60 : Int) else (bs0.length : Int)) = ((min bs0.length 60 : Nat) : Int) := by split <;> omega
  simp (disch := first | omega | (simp only [List.length_append, List.length_cons, List.length_nil, List.length_set, List.length_map, List.length_take, List.length_drop]; omega)) only [stdh, ↓reduceIte, Nat.reduceEqDiff, Int.reduceToNat, Int.reducePow, Nat.reduceAdd, Nat.reduceLeDiff, Nat.reduceMul, Nat.reduceBEq, reduceCtorEq, cuneiformlaw01_VarintAll, cuneiformlaw01_VarintAll.body, hmin, if_false]
  have hb : ∀ b ∈ bs0.take (min bs0.length 60), b < 256 := fun b h => hb0 b (List.mem_of_mem_take h)
  have hlen : (bs0.take (min bs0.length 60)).length ≤ 60 := by simp; omega
  generalize bs0.take (min bs0.length 60) = bs at *
  generalize (t && decide (min bs0.length 60 = bs0.length)) = t'
  refine callK_fn (rall_ok' _ (nums_nats _ _ _ _) hb (by omega) _ ?_)
  refine runL_V 40 ?_
  generalize hL : (itemsOf (bs.length + 1) 0 bs).1 = L at *
  have hLb : ∀ x ∈ L, x.2 < 18446744073709551616 ∧ x.1 ≤ 0 + bs.length := by rw [← hL]; exact items_lt _ _ _ hb
  have hLl : L.length ≤ bs.length + 1 := by rw [← hL]; exact items_length _ _ _
  simp (disch := first | omega | (simp only [List.length_append, List.length_cons, List.length_nil, List.length_set, List.length_map, List.length_take, List.length_drop]; omega)) only [stdh, ↓reduceIte, Nat.reduceEqDiff, Int.reduceToNat, Int.reducePow, Nat.reduceAdd, Nat.reduceLeDiff, Nat.reduceMul, Nat.reduceBEq, reduceCtorEq]
  refine callK_fn (all_ok _ _ _ _ ?_)
  refine runL_V 40 ?_
  simp (disch := first | omega | (simp only [List.length_append, List.length_cons, List.length_nil, List.length_set, List.length_map, List.length_take, List.length_drop]; omega)) only [stdh, ↓reduceIte, Nat.reduceEqDiff, Int.reduceToNat, Int.reducePow, Nat.reduceAdd, Nat.reduceLeDiff, Nat.reduceMul, Nat.reduceBEq, reduceCtorEq, eqA]
  have hplaces : ∀ j, j < L.length → (L.map (·.1)).getD j 0 = (L.getD j (0, 0)).1 := fun j hj => by simp [List.getD_eq_getElem?_getD, hj]
  have hnumbers : ∀ j, j < L.length → (L.map (·.2)).getD j 0 = (L.getD j (0, 0)).2 := fun j hj => by simp [List.getD_eq_getElem?_getD, hj]
  generalize hH : [ABlk.cells [AVal.int IntKind.i64 stop] T.int, ABlk.cells [AVal.bool false] T.bool, ABlk.cells [nums IntKind.i64 false (List.map (fun x => x.fst) L)] T.sl_int, ABlk.cells [nums IntKind.u64 false (List.map (fun x => x.snd) L)] T.sl_uint64, ABlk.cells [AVal.int IntKind.i64 0] T.int] = H5
  have e0 : H5[0]? = some (.cells [.int .i64 stop] T.int) := by rw [← hH]; rfl
  have e1 : H5[1]? = some (.cells [.bool false] T.bool) := by rw [← hH]; rfl
  have e2 : H5[2]? = some (.cells [nums .i64 false (L.map (·.1))] T.sl_int) := by rw [← hH]; rfl
  have e3 : H5[3]? = some (.cells [nums .u64 false (L.map (·.2))] T.sl_uint64) := by rw [← hH]; rfl
  have e4 : H5[4]? = some (.cells [.int .i64 0] T.int) := by rw [← hH]; rfl
  have e5 : H5.length = 5 := by rw [← hH]; rfl
  clear hH
  refine range_vars (g := F.varint_All_1) (first := []) (captured := [cell (nums .u8 t' bs)]) rfl (by intro n hn; cases hn) (item := itemArgs L) (len := L.length) (fun j => rfl) [(4, T.int, fun j => .int .i64 (j : Nat))] (fun _ => none) (vars_cons e4 vars_nil) ?_ ?_ ?_ (fun _ _ _ _ _ _ hh => by cases hh)
  · intro a' b' j H1 hj _ hl hk hrec hv
    have q2 := (hk 2 (by omega) (by simp)).trans e2
    have q3 := (hk 3 (by omega) (by simp)).trans e3
    have q4 := hv.get (c := 4) (T := T.int) (f := fun j => .int .i64 (j : Nat)) (by simp)
    have hp := hplaces j hj
    have hn := hnumbers j hj
    refine run_V0 60 ?_
    simp (disch := first | omega | (simp only [List.length_append, List.length_cons, List.length_nil, List.length_set, List.length_map, List.length_take, List.length_drop]; omega)) only [stdh, ↓reduceIte, Nat.reduceEqDiff, Int.reduceToNat, Int.reducePow, Nat.reduceAdd, Nat.reduceLeDiff, Nat.reduceMul, Nat.reduceBEq, reduceCtorEq, cuneiformlaw01_VarintAll.a0, cuneiformlaw01_VarintAll.b0, hrec, q2, q3, q4, itemArgs, List.zip_cons_cons, List.zip_nil_left, List.reverse_cons, List.reverse_nil, List.getElem?_set_self, List.getElem?_set_ne, List.length_map, hp, hn]
    refine round_fin (n := H5.length) (L := lrec _ _ _ a' b' .busy none) rfl (by simp (disch := first | omega | (simp only [List.length_append, List.length_cons, List.length_nil, List.length_set, List.length_map, List.length_take, List.length_drop]; omega)) only [List.getElem?_set_ne, List.getElem?_set_self, List.length_set, ne_eq, not_false_eq_true]; rfl) ?_
    refine varsQ_mk rfl (by simp) (fun m m1 m2 m3 => ?_) (vars_cons ?_ vars_nil) (by simp (disch := first | omega | (simp only [List.length_append, List.length_cons, List.length_nil, List.length_set, List.length_map, List.length_take, List.length_drop]; omega)) only [List.getElem?_set_ne, List.getElem?_set_self, List.length_set, ne_eq, not_false_eq_true]; rfl)
    · simp only [List.map_cons, List.map_nil, List.mem_cons, List.not_mem_nil, or_false] at m3
      simp (disch := first | omega | (simp only [List.length_append, List.length_cons, List.length_nil, List.length_set, List.length_map, List.length_take, List.length_drop]; omega)) only [List.getElem?_set_ne, List.getElem?_set_self, List.length_set, ne_eq, not_false_eq_true]
    · show _ = some (ABlk.cells [AVal.int .i64 ((j + 1 : Nat) : Int)] T.int)
      simp (disch := first | omega | (simp only [List.length_append, List.length_cons, List.length_nil, List.length_set, List.length_map, List.length_take, List.length_drop]; omega)) only [List.getElem?_set_ne, List.getElem?_set_self, List.length_set, ne_eq, not_false_eq_true]; rfl
  · intro H4 h1 h2
    have := all1_iter (H := H4) (n := H5.length) (t := t') hb (by omega)
    rw [hL] at this
    exact this
  · intro H' hl hk _ hv
    replace e0 := (hk 0 (by omega) (by simp)).trans e0
    replace e1 := (hk 1 (by omega) (by simp)).trans e1
    replace e2 := (hk 2 (by omega) (by simp)).trans e2
    replace e4 := hv.get (c := 4) (T := T.int) (f := fun j => .int .i64 (j : Nat)) (by simp)
    have hl' : 5 < H'.length := by omega
    clear hk hv hl e5 e3
    clear H5
    refine run_V0 60 ?_
    simp (disch := first | omega | (simp only [List.length_append, List.length_cons, List.length_nil, List.length_set, List.length_map, List.length_take, List.length_drop]; omega)) only [stdh, ↓reduceIte, Nat.reduceEqDiff, Int.reduceToNat, Int.reducePow, Nat.reduceAdd, Nat.reduceLeDiff, Nat.reduceMul, Nat.reduceBEq, reduceCtorEq]
    refine callK_fn (all_ok _ _ _ _ ?_)
    refine runL_V 60 ?_
    simp (disch := first | omega | (simp only [List.length_append, List.length_cons, List.length_nil, List.length_set, List.length_map, List.length_take, List.length_drop]; omega)) only [stdh, ↓reduceIte, Nat.reduceEqDiff, Int.reduceToNat, Int.reducePow, Nat.reduceAdd, Nat.reduceLeDiff, Nat.reduceMul, Nat.reduceBEq, reduceCtorEq, eqA]
    have g0 : (H' ++ [ABlk.cells [AVal.int IntKind.i64 0] T.int])[0]? = some (.cells [.int .i64 stop] T.int) := (at_low (by omega)).trans e0
    have g1 : (H' ++ [ABlk.cells [AVal.int IntKind.i64 0] T.int])[1]? = some (.cells [.bool false] T.bool) := (at_low (by omega)).trans e1
    have g2 : (H' ++ [ABlk.cells [AVal.int IntKind.i64 0] T.int])[2]? = some (.cells [nums .i64 false (L.map (·.1))] T.sl_int) := (at_low (by omega)).trans e2
    have g4 : (H' ++ [ABlk.cells [AVal.int IntKind.i64 0] T.int])[4]? = some (.cells [.int .i64 L.length] T.int) := (at_low (by omega)).trans e4
    have g5 : (H' ++ [ABlk.cells [AVal.int IntKind.i64 0] T.int])[H'.length]? = some (.cells [.int .i64 0] T.int) := at_0
    have gl : (H' ++ [ABlk.cells [AVal.int IntKind.i64 0] T.int]).length = H'.length + 1 := by simp
    generalize H' ++ [ABlk.cells [AVal.int IntKind.i64 0] T.int] = H6 at *
    generalize H'.length = v at *
    clear e0 e1 e2 e4
    refine range_vars (g := F.varint_All_1) (first := []) (captured := [cell (nums .u8 t' bs)]) rfl (by intro n hn; cases hn) (item := itemArgs L) (len := L.length) (fun j => rfl) [(v, T.int, fun j => .int .i64 (j : Nat))] (stopAt 2 stop) (vars_cons g5 vars_nil) ?_ ?_ ?_ ?_
    · intro a' b' j H1 hj hst hl hk hrec hv
      have q0 := (hk 0 (by omega) (by simp; omega)).trans g0
      have q5 := hv.get (c := v) (T := T.int) (f := fun j => .int .i64 (j : Nat)) (by simp)
      refine run_V0 60 ?_
      by_cases hs : (j : Int) = stop
      · rw [stop_some hs]
        simp (disch := first | omega | (simp only [List.length_append, List.length_cons, List.length_nil, List.length_set, List.length_map, List.length_take, List.length_drop]; omega)) only [stdh, ↓reduceIte, Nat.reduceEqDiff, Int.reduceToNat, Int.reducePow, Nat.reduceAdd, Nat.reduceLeDiff, Nat.reduceMul, Nat.reduceBEq, reduceCtorEq, cuneiformlaw01_VarintAll.a1, cuneiformlaw01_VarintAll.b1, hrec, q0, q5, itemArgs, List.zip_cons_cons, List.zip_nil_left, List.reverse_cons, List.reverse_nil, List.getElem?_set_self, List.getElem?_set_ne, hs]
        refine exit_fin (n := H6.length) (L := lrec _ _ _ a' b' .busy none) rfl (by simp (disch := first | omega | (simp only [List.length_append, List.length_cons, List.length_nil, List.length_set, List.length_map, List.length_take, List.length_drop]; omega)) only [List.getElem?_set_ne, List.getElem?_set_self, List.length_set, ne_eq, not_false_eq_true]; rfl) ?_
        refine varsQ_mk rfl (by simp) (fun m m1 m2 m3 => ?_) (vars_cons ?_ vars_nil) (by simp (disch := first | omega | (simp only [List.length_append, List.length_cons, List.length_nil, List.length_set, List.length_map, List.length_take, List.length_drop]; omega)) only [List.getElem?_set_ne, List.getElem?_set_self, List.length_set, ne_eq, not_false_eq_true]; rfl)
        · simp only [List.map_cons, List.map_nil, List.mem_cons, List.not_mem_nil, or_false] at m3
          simp (disch := first | omega | (simp only [List.length_append, List.length_cons, List.length_nil, List.length_set, List.length_map, List.length_take, List.length_drop]; omega)) only [List.getElem?_set_ne, List.getElem?_set_self, List.length_set, ne_eq, not_false_eq_true]
        · show _ = some (ABlk.cells [AVal.int .i64 ((j + 1 : Nat) : Int)] T.int)
          simp (disch := first | omega | (simp only [List.length_append, List.length_cons, List.length_nil, List.length_set, List.length_map, List.length_take, List.length_drop]; omega)) only [List.getElem?_set_ne, List.getElem?_set_self, List.length_set, ne_eq, not_false_eq_true]; rw [← hs]; rfl
      · rw [stop_none hs]
        simp (disch := first | omega | (simp only [List.length_append, List.length_cons, List.length_nil, List.length_set, List.length_map, List.length_take, List.length_drop]; omega)) only [stdh, ↓reduceIte, Nat.reduceEqDiff, Int.reduceToNat, Int.reducePow, Nat.reduceAdd, Nat.reduceLeDiff, Nat.reduceMul, Nat.reduceBEq, reduceCtorEq, cuneiformlaw01_VarintAll.a1, cuneiformlaw01_VarintAll.b1, hrec, q0, q5, itemArgs, List.zip_cons_cons, List.zip_nil_left, List.reverse_cons, List.reverse_nil, List.getElem?_set_self, List.getElem?_set_ne, hs]
        refine round_fin (n := H6.length) (L := lrec _ _ _ a' b' .busy none) rfl (by simp (disch := first | omega | (simp only [List.length_append, List.length_cons, List.length_nil, List.length_set, List.length_map, List.length_take, List.length_drop]; omega)) only [List.getElem?_set_ne, List.getElem?_set_self, List.length_set, ne_eq, not_false_eq_true]; rfl) ?_
        refine varsQ_mk rfl (by simp) (fun m m1 m2 m3 => ?_) (vars_cons ?_ vars_nil) (by simp (disch := first | omega | (simp only [List.length_append, List.length_cons, List.length_nil, List.length_set, List.length_map, List.length_take, List.length_drop]; omega)) only [List.getElem?_set_ne, List.getElem?_set_self, List.length_set, ne_eq, not_false_eq_true]; rfl)
        · simp only [List.map_cons, List.map_nil, List.mem_cons, List.not_mem_nil, or_false] at m3
          simp (disch := first | omega | (simp only [List.length_append, List.length_cons, List.length_nil, List.length_set, List.length_map, List.length_take, List.length_drop]; omega)) only [List.getElem?_set_ne, List.getElem?_set_self, List.length_set, ne_eq, not_false_eq_true]
        · show _ = some (ABlk.cells [AVal.int .i64 ((j + 1 : Nat) : Int)] T.int)
          simp (disch := first | omega | (simp only [List.length_append, List.length_cons, List.length_nil, List.length_set, List.length_map, List.length_take, List.length_drop]; omega)) only [List.getElem?_set_ne, List.getElem?_set_self, List.length_set, ne_eq, not_false_eq_true]; rfl
    · intro H4 h1 h2
      have := all1_iter (H := H4) (n := H6.length) (t := t') hb (by omega)
      rw [hL] at this
      exact this
    · intro H7 hl hk hst hv
      have q0 := (hk 0 (by omega) (by simp; omega)).trans g0
      have q1 := (hk 1 (by omega) (by simp; omega)).trans g1
      have q2 := (hk 2 (by omega) (by simp; omega)).trans g2
      have q4 := (hk 4 (by omega) (by simp; omega)).trans g4
      have q5 := hv.get (c := v) (T := T.int) (f := fun j => .int .i64 (j : Nat)) (by simp)
      have hns : ¬ (0 ≤ stop ∧ stop < L.length) := fun hh => by
        have := hst stop.toNat (by omega)
        rw [stop_some (by omega)] at this
        cases this
      refine run_V0 60 ?_
      by_cases hp : 0 ≤ stop
      · have hq : ¬ stop < (L.length : Int) := by omega
        simp (disch := first | omega | (simp only [List.length_append, List.length_cons, List.length_nil, List.length_set, List.length_map, List.length_take, List.length_drop]; omega)) only [stdh, ↓reduceIte, Nat.reduceEqDiff, Int.reduceToNat, Int.reducePow, Nat.reduceAdd, Nat.reduceLeDiff, Nat.reduceMul, Nat.reduceBEq, reduceCtorEq, q0, q1, q2, q4, q5, hp, hq, List.length_map]
        refine callK_fn (count_ok _ _ hb (by omega) _ ?_)
        rw [hL]
        refine runL_V 60 ?_
        simp (disch := first | omega | (simp only [List.length_append, List.length_cons, List.length_nil, List.length_set, List.length_map, List.length_take, List.length_drop]; omega)) only [stdh, ↓reduceIte, Nat.reduceEqDiff, Int.reduceToNat, Int.reducePow, Nat.reduceAdd, Nat.reduceLeDiff, Nat.reduceMul, Nat.reduceBEq, reduceCtorEq]
        refine callK_fn (known_ok' _ _ ?_)
        refine runL_V 60 ?_
        simp (disch := first | omega | (simp only [List.length_append, List.length_cons, List.length_nil, List.length_set, List.length_map, List.length_take, List.length_drop]; omega)) only [stdh, ↓reduceIte, Nat.reduceEqDiff, Int.reduceToNat, Int.reducePow, Nat.reduceAdd, Nat.reduceLeDiff, Nat.reduceMul, Nat.reduceBEq, reduceCtorEq, q0, q1, q2, q4, q5, hp, List.length_map, resOne, List.getElem?_set_self, List.getElem?_set_ne]
      · simp (disch := first | omega | (simp only [List.length_append, List.length_cons, List.length_nil, List.length_set, List.length_map, List.length_take, List.length_drop]; omega)) only [stdh, ↓reduceIte, Nat.reduceEqDiff, Int.reduceToNat, Int.reducePow, Nat.reduceAdd, Nat.reduceLeDiff, Nat.reduceMul, Nat.reduceBEq, reduceCtorEq, q0, q1, q2, q4, q5, hp, List.length_map]
        refine callK_fn (count_ok _ _ hb (by omega) _ ?_)
        rw [hL]
        refine runL_V 60 ?_
        simp (disch := first | omega | (simp only [List.length_append, List.length_cons, List.length_nil, List.length_set, List.length_map, List.length_take, List.length_drop]; omega)) only [stdh, ↓reduceIte, Nat.reduceEqDiff, Int.reduceToNat, Int.reducePow, Nat.reduceAdd, Nat.reduceLeDiff, Nat.reduceMul, Nat.reduceBEq, reduceCtorEq]
        refine callK_fn (known_ok' _ _ ?_)
        refine runL_V 60 ?_
        simp (disch := first | omega | (simp only [List.length_append, List.length_cons, List.length_nil, List.length_set, List.length_map, List.length_take, List.length_drop]; omega)) only [stdh, ↓reduceIte, Nat.reduceEqDiff, Int.reduceToNat, Int.reducePow, Nat.reduceAdd, Nat.reduceLeDiff, Nat.reduceMul, Nat.reduceBEq, reduceCtorEq, q0, q1, q2, q4, q5, hp, List.length_map, resOne, List.getElem?_set_self, List.getElem?_set_ne]
    · intro ap j H7 hl hk hj hs hst hv
      have q0 := (hk 0 (by omega) (by simp; omega)).trans g0
      have q1 := (hk 1 (by omega) (by simp; omega)).trans g1
      have q2 := (hk 2 (by omega) (by simp; omega)).trans g2
      have q4 := (hk 4 (by omega) (by simp; omega)).trans g4
      have q5 := hv.get (c := v) (T := T.int) (f := fun j => .int .i64 (j : Nat)) (by simp)
      have hsj : (j : Int) = stop := by
        refine Classical.byContradiction fun hn => ?_
        rw [stop_none hn] at hs; cases hs
      rw [stop_some hsj] at hs
      cases hs
      have hp : 0 ≤ stop := by omega
      have hq : stop < (L.length : Int) := by omega
      refine run_V0 60 ?_
      simp (disch := first | omega | (simp only [List.length_append, List.length_cons, List.length_nil, List.length_set, List.length_map, List.length_take, List.length_drop]; omega)) only [stdh, ↓reduceIte, Nat.reduceEqDiff, Int.reduceToNat, Int.reducePow, Nat.reduceAdd, Nat.reduceLeDiff, Nat.reduceMul, Nat.reduceBEq, reduceCtorEq, jumpItems, q0, q1, q2, q4, q5, hp, hq, List.length_map]
      refine callK_fn (count_ok _ _ hb (by omega) _ ?_)
      rw [hL]
      refine runL_V 60 ?_
      simp (disch := first | omega | (simp only [List.length_append, List.length_cons, List.length_nil, List.length_set, List.length_map, List.length_take, List.length_drop]; omega)) only [stdh, ↓reduceIte, Nat.reduceEqDiff, Int.reduceToNat, Int.reducePow, Nat.reduceAdd, Nat.reduceLeDiff, Nat.reduceMul, Nat.reduceBEq, reduceCtorEq]
      refine callK_fn (known_ok' _ _ ?_)
      refine runL_V 60 ?_
      simp (disch := first | omega | (simp only [List.length_append, List.length_cons, List.length_nil, List.length_set, List.length_map, List.length_take, List.length_drop]; omega)) only [stdh, ↓reduceIte, Nat.reduceEqDiff, Int.reduceToNat, Int.reducePow, Nat.reduceAdd, Nat.reduceLeDiff, Nat.reduceMul, Nat.reduceBEq, reduceCtorEq, q0, q1, q2, q4, q5, hp, List.length_map, resOne, List.getElem?_set_self, List.getElem?_set_ne]
end Go.Proofs.Ytdlhdaimjimmkaa

namespace Go.Proofs.Ytdlhdaimjimmkaa.varintAll
open Go Go.Am Go.ChangeShapes Go.WideShapes Go.ChangeAt Go.RowKit
set_option linter.unusedVariables false

theorem own : ownKnob Try.prog.godebug = none := by kernel_rfl
theorem laidOut : laidOutB Try.prog = true := by kernel_rfl

set_option maxRecDepth 100000 in
theorem lifted (os : Os) (started : os.Started) (H : Type) (enc : TypeId × Value → H) :
    ReturnsInHanded {} Try.checked os F.cuneiformlaw01_VarintAll .any (Rows.varintAllSpec.pre6 enc Try.prog Try.f6 Rows.varintAllRow.domain false) (Rows.varintAllSpec.post enc Try.prog Try.f6 false true false false) := by
  refine returnsInHanded_of_change (C := Try.checked) own started (by kernel_rfl) Try.func6
    (ChangeSpec.witness6 (enc := enc) (C := Try.checked) false ⟨#[], #[.slice none 0 0, .int .i64 0], []⟩ 8 (by kernel_rfl) (by kernel_rfl) (by kernel_rfl) (by kernel_rfl)) ?_
  intro W base args ds gs before hval hW hcnd _
  refine law_calls (shs := [.slice (.int .u8), .int .i64]) (tb := 4) laidOut (by kernel_rfl) ?_ (by kernel_rfl) Try.underlying4 rfl ?_ ?_ hval hW
  · intro t ht
    have : ∀ t ∈ Try.f6.params.toList, (Try.prog.readableRec t && decide (t < Try.prog.types.size)) = true := List.all_eq_true.1 (by kernel_rfl)
    simpa using this t ht
  · intro H ds hd
    match ds, hd with
    | [d0, d1], _ => exact ⟨rfl, rfl, rfl⟩
  · rintro xs ⟨a, r, rfl, ha, b, r', rfl, ⟨s, hs, ws⟩, rfl⟩
    cases hs
    obtain ⟨bs, h1, h2, h3⟩ := nums_fits rfl ha
    have h4 := bounds_i64 ws
    exact fun_sees (.cons h1 (.cons (.refl _) .nil)) (alllaw_ok false (fun b hb => by have := bounds_u8 (h2 b hb); omega) h3 (by omega) (by omega))

theorem proved : Rows.VarintAllSaid :=
  OpenClaim.holds_of_wide F.cuneiformlaw01_VarintAll Try.f6 rfl rfl rfl rfl rfl rfl rfl ⟨rfl, rfl, rfl, rfl, rfl⟩ rfl rfl rfl rfl rfl (by kernel_rfl) Try.func6 (by kernel_rfl)
    (of_decide_eq_true (by kernel_rfl)) (by unfold Func.isWrapper; first | (rw [if_pos (by decide +kernel)]; kernel_rfl) | (rw [if_neg (by decide +kernel)]; exact ⟨rfl, rfl⟩))
    (fun os started H enc _ => lifted os started H enc)
end Go.Proofs.Ytdlhdaimjimmkaa.varintAll
