/-
  Lemmas on the way to the statements of this seat. By an AI agent. No person has read it.
-/
import Derived.Test.YtlbalhddopcamaaREF

namespace Go.Proofs.Ytlbalhddopcamaa
open Go Go.Am
set_option linter.unusedSimpArgs false
set_option linter.unusedVariables false

/-- A sum's bytes. -/
def le4 (s : Nat) : List Nat := [s % 256, s / 256 % 256, s / 65536 % 256, s / 16777216]
def le4A (s : Nat) : List AVal := (le4 s).map fun n : Nat => AVal.int .u8 (n : Int)

theorem le4_lt {s : Nat} (h : s < 4294967296) : ∀ b ∈ le4 s, b < 256 := by
  intro b hb
  simp only [le4, List.mem_cons, List.not_mem_nil, or_false] at hb
  omega

theorem bytes_ok (H : AHeap) {s : Nat} (hs : s < 4294967296) (Q : AVal → AHeap → Prop) (h : Q (.agg (le4A s)) H) : FunOK Try.prog F.crc_bytes [.int .u32 (s : Nat)] H Q := by
  refine fun_iced crc_bytes_code fun _ => ?_
  refine fun_V 100 crc_bytes_code rfl ?_
  have e0 : IntKind.u8.wrap (s : Int) = ((s % 256 : Nat) : Int) := by rw [wrap_u8']; omega
  have e1 : IntKind.u8.wrap ((s : Int) / 256) = ((s / 256 % 256 : Nat) : Int) := by rw [wrap_u8']; omega
  have e2 : IntKind.u8.wrap ((s : Int) / 65536) = ((s / 65536 % 256 : Nat) : Int) := by rw [wrap_u8']; omega
  have e3 : IntKind.u8.wrap ((s : Int) / 16777216) = ((s / 16777216 : Nat) : Int) := by rw [wrap_u8']; omega
  simp (disch := first | omega | (simp only [List.length_append, List.length_cons, List.length_nil, List.length_set, List.length_map, List.length_take, List.length_drop]; omega)) only [stdh, goK_s2b, dgoK_s2b, isEff_s2b, isPure_s2b, goK_b2s, dgoK_b2s, isEff_b2s, isPure_b2s, evalOp_s2b, s2bR, goK_mark, dgoK_mark, isEff_mark, isPure_mark, evalOp_mark, markA_slc, markB, ↓reduceIte, Nat.reduceEqDiff, Int.reduceToNat, Int.reducePow, Nat.reduceAdd, Nat.reduceLeDiff, Nat.reduceMul, Nat.reduceBEq, reduceCtorEq, crc_bytes, crc_bytes.body, e0, e1, e2, e3]
  exact ice_none (by simp [closed, closeds]) h

theorem rbytes_ok (H : AHeap) {s : Nat} (hs : s < 4294967296) (Q : AVal → AHeap → Prop) (h : Q (nums .u8 false (le4 s)) H) : FunOK Try.prog F.cuneiformref04_Bytes [.int .u32 (s : Nat)] H Q := by
  refine fun_iced cuneiformref04_Bytes_code fun _ => ?_
  refine fun_V 100 cuneiformref04_Bytes_code rfl ?_
  have e0 : IntKind.u8.wrap ((s : Int).tmod 256) = ((s % 256 : Nat) : Int) := by rw [Int.tmod_eq_emod_of_nonneg (by omega), wrap_u8']; omega
  have e1 : IntKind.u8.wrap ((IntKind.u32.wrap ((s : Int).tdiv 256)).tmod 256) = ((s / 256 % 256 : Nat) : Int) := by
    rw [Int.tdiv_eq_ediv_of_nonneg (by omega), wrap_u32 (by omega), Int.tmod_eq_emod_of_nonneg (by omega), wrap_u8']; omega
  have e2 : IntKind.u8.wrap ((IntKind.u32.wrap ((s : Int).tdiv 65536)).tmod 256) = ((s / 65536 % 256 : Nat) : Int) := by
    rw [Int.tdiv_eq_ediv_of_nonneg (by omega), wrap_u32 (by omega), Int.tmod_eq_emod_of_nonneg (by omega), wrap_u8']; omega
  have e3 : IntKind.u8.wrap (IntKind.u32.wrap ((s : Int).tdiv 16777216)) = ((s / 16777216 : Nat) : Int) := by
    rw [Int.tdiv_eq_ediv_of_nonneg (by omega), wrap_u32 (by omega), wrap_u8']; omega
  have e4 : IntKind.u32.wrap ((s : Int).tdiv 256) = ((s / 256 : Nat) : Int) := by rw [Int.tdiv_eq_ediv_of_nonneg (by omega), wrap_u32 (by omega)]; omega
  simp (disch := first | omega | (simp only [List.length_append, List.length_cons, List.length_nil, List.length_set, List.length_map, List.length_take, List.length_drop]; omega)) only [stdh, goK_s2b, dgoK_s2b, isEff_s2b, isPure_s2b, goK_b2s, dgoK_b2s, isEff_b2s, isPure_b2s, evalOp_s2b, s2bR, goK_mark, dgoK_mark, isEff_mark, isPure_mark, evalOp_mark, markA_slc, markB, ↓reduceIte, Nat.reduceEqDiff, Int.reduceToNat, Int.reducePow, Nat.reduceAdd, Nat.reduceLeDiff, Nat.reduceMul, Nat.reduceBEq, reduceCtorEq, cuneiformref04_Bytes, cuneiformref04_Bytes.body, e0, e1, e2, e3]
  exact ice_vec (cs := le4A s) rfl (by simp [le4A, le4, closeds, closed]) h

/-- Appending to a list of which the block is told. -/
theorem append_at {H : AHeap} {m n k : Nat} {el : TypeId} {cs ys : List AVal} {x : AVal} {bytes : Nat} (hm : H[m]? = some (.vec cs el 1)) (hn : cs.length = n) (h1 : srcLen x = some k) (h2 : srcCells H x = some ys) (hy : ys.length = k) (hb : bytes = 1) (hl : n + k ≤ 140737488355328) (hc : ys.all AVal.cellish = true) :
    ∃ p, appendA H el 1 bytes (.slc m 0 n 1) x = some (p, .slc H.length 0 (n + k) 1, H.set m .dead ++ [.vec (cs ++ ys) el 1]) ∧ p := by
  have ho : Own 1 el 0 H (.slc m 0 n 1) n cs := ⟨by omega, .inr ⟨m, by omega, rfl, hm⟩⟩
  exact Own.append3 ho bytes h1 h2 (by omega) (by omega) (by subst hb; omega) (by omega) hc

theorem cellish_nats (xs : List Nat) : (xs.map fun n : Nat => AVal.int .u8 (n : Int)).all AVal.cellish = true := by simp [AVal.cellish]

theorem seal_ok (H : AHeap) {t : Bool} {bs : List Nat} (hlen : bs.length ≤ 1000000) (hb : ∀ b ∈ bs, b < 256) (Q : AVal → AHeap → Prop) (h : Q (nums .u8 false (bs ++ le4 (sumOf bs))) H) : FunOK Try.prog F.crc_Seal [tabV, nums .u8 t bs] H Q := by
  refine fun_iced crc_Seal_code fun _ => ?_
  refine fun_V 100 crc_Seal_code rfl ?_
  have hne : eqA .ptr tabV .nilp = some false := rfl
  simp (disch := first | omega | (simp only [List.length_append, List.length_cons, List.length_nil, List.length_set, List.length_map, List.length_take, List.length_drop]; omega)) only [stdh, goK_s2b, dgoK_s2b, isEff_s2b, isPure_s2b, goK_b2s, dgoK_b2s, isEff_b2s, isPure_b2s, evalOp_s2b, s2bR, goK_mark, dgoK_mark, isEff_mark, isPure_mark, evalOp_mark, markA_slc, markB, ↓reduceIte, Nat.reduceEqDiff, Int.reduceToNat, Int.reducePow, Nat.reduceAdd, Nat.reduceLeDiff, Nat.reduceMul, Nat.reduceBEq, reduceCtorEq, crc_Seal, crc_Seal.body, hne]
  refine callK_fn (sum_ok _ (lists_one (bs := bs) (t := t) at_0 (Sees.refl _) hb (by omega)) _ ?_)
  rw [show [bs].flatten = bs by simp]
  refine runL_V 60 ?_
  simp (disch := first | omega | (simp only [List.length_append, List.length_cons, List.length_nil, List.length_set, List.length_map, List.length_take, List.length_drop]; omega)) only [stdh, goK_s2b, dgoK_s2b, isEff_s2b, isPure_s2b, goK_b2s, dgoK_b2s, isEff_b2s, isPure_b2s, evalOp_s2b, s2bR, goK_mark, dgoK_mark, isEff_mark, isPure_mark, evalOp_mark, markA_slc, markB, ↓reduceIte, Nat.reduceEqDiff, Int.reduceToNat, Int.reducePow, Nat.reduceAdd, Nat.reduceLeDiff, Nat.reduceMul, Nat.reduceBEq, reduceCtorEq]
  refine callK_fn (bytes_ok _ (sumOf_lt bs) _ ?_)
  refine runL_V 60 ?_
  have hc4 : (le4A (sumOf bs)).all AVal.cellish = true := cellish_nats _
  have hf4 : fillAt [AVal.int .u8 0, .int .u8 0, .int .u8 0, .int .u8 0] 0 (le4A (sumOf bs)) = le4A (sumOf bs) := rfl
  have hl4 : (le4A (sumOf bs)).length = 4 := rfl
  have hb1 : (bounds 4 4 none none none).1 := by simp [bounds]
  have hb2 : (bounds 4 4 none none none).2.1 = 0 := rfl
  have hb3 : (bounds 4 4 none none none).2.2.1 = 4 := rfl
  have hcn := cellish_nats bs
  obtain ⟨p1, a1, hp1⟩ := append_at (H := H ++ [.vec [nums .u8 t bs] T.sl_uint8 1, .cells (le4A (sumOf bs)) T.n4_uint8, .vec [] T.uint8 1]) (m := H.length + 2) (n := 0) (k := bs.length) (el := T.uint8) (bytes := 1) (cs := []) (x := nums .u8 t bs) (by rw [at_k]; rfl) rfl rfl rfl (by simp) rfl (by omega) hcn
  rw [List.nil_append] at a1
  obtain ⟨p2, a2, hp2⟩ := append_at (H := H ++ [.vec [nums .u8 t bs] T.sl_uint8 1, .cells (le4A (sumOf bs)) T.n4_uint8, .dead, .vec (bs.map fun n : Nat => AVal.int .u8 (n : Int)) T.uint8 1]) (m := H.length + 3) (n := bs.length) (k := 4) (el := T.uint8) (bytes := 1) (cs := bs.map fun n : Nat => AVal.int .u8 (n : Int)) (ys := le4A (sumOf bs)) (x := .slc (H.length + 1) 0 4 1) (by rw [at_k]; rfl) (by simp) rfl (by simp only [srcCells, view, at_k]; rfl) rfl rfl (by omega) hc4
  simp (disch := first | omega | (simp only [List.length_append, List.length_cons, List.length_nil, List.length_set, List.length_map, List.length_take, List.length_drop]; omega)) only [stdh, goK_s2b, dgoK_s2b, isEff_s2b, isPure_s2b, goK_b2s, dgoK_b2s, isEff_b2s, isPure_b2s, evalOp_s2b, s2bR, goK_mark, dgoK_mark, isEff_mark, isPure_mark, evalOp_mark, markA_slc, markB, ↓reduceIte, Nat.reduceEqDiff, Int.reduceToNat, Int.reducePow, Nat.reduceAdd, Nat.reduceLeDiff, Nat.reduceMul, Nat.reduceBEq, reduceCtorEq, hc4, hf4, hl4, crc_Seal.d0, hb1, hb2, hb3, Nat.sub_zero, a1, hp1, a2, hp2]
  have hcs : closeds H.length ((bs ++ le4 (sumOf bs)).map fun n : Nat => AVal.int .u8 (n : Int)) := closeds_ints _ _
  rw [show (bs.map fun n : Nat => AVal.int .u8 (n : Int)) ++ le4A (sumOf bs) = (bs ++ le4 (sumOf bs)).map fun n : Nat => AVal.int .u8 (n : Int) by rw [List.map_append]; rfl]
  refine ice_own (n := bs.length + 4) (w := 1) (el := T.uint8) (keeps_append _ _) ⟨by simp [le4], .inr ⟨H.length + 4, by omega, rfl, by rw [at_k]; rfl⟩⟩ hcs ?_
  rw [nums_eq .u8 (bs ++ le4 (sumOf bs)) (by simp [le4])]
  exact h

/-- What opened bytes are. -/
def openOf (bs : List Nat) : List Nat × Nat :=
  if bs.length < 4 then ([], 13) else if le4 (sumOf (bs.take (bs.length - 4))) = bs.drop (bs.length - 4) then (bs.take (bs.length - 4), 0) else ([], 11)

theorem eq_four : ∀ (xs ys : List Nat), xs.length = 4 → ys.length = 4 → eqA (.cells [.int, .int, .int, .int]) (.agg (xs.map fun n : Nat => AVal.int .u8 (n : Int))) (.agg (ys.map fun n : Nat => AVal.int .u8 (n : Int))) = some (decide (xs = ys)) := by
  intro xs ys h1 h2
  match xs, ys, h1, h2 with
  | [a, b, c, d], [a', b', c', d'], _, _ =>
    simp only [List.map_cons, List.map_nil, eqA, eqCells, eqCell, if_true, Option.some.injEq]
    by_cases e1 : a = a' <;> by_cases e2 : b = b' <;> by_cases e3 : c = c' <;> by_cases e4 : d = d' <;> simp_all <;> omega

theorem load_four {H : AHeap} {k : IntKind} {t : Bool} {xs : List Nat} (h : xs.length = 4) : loadA H (some 4) (.sptr (nums k t xs) 0) = some (True, .agg (xs.map fun n : Nat => AVal.int k (n : Int))) := by
  simp only [loadA, cellsAt, view_nums, Option.map_some, List.drop_zero]
  congr 2
  · simp [h]
  · rw [List.take_of_length_le (by simp [h])]

theorem open_ok (H : AHeap) {t : Bool} {bs : List Nat} (hlen : bs.length ≤ 1000000) (hb : ∀ b ∈ bs, b < 256) (Q : AVal → AHeap → Prop) (h : Q (.tup [nums .u8 false (openOf bs).1, .int .i64 ((openOf bs).2 : Nat)]) H) : FunOK Try.prog F.crc_Open [tabV, nums .u8 t bs] H Q := by
  refine fun_iced crc_Open_code fun _ => ?_
  refine fun_V 100 crc_Open_code rfl ?_
  have hne : eqA .ptr tabV .nilp = some false := rfl
  unfold openOf at h
  by_cases h4 : bs.length < 4
  · rw [if_pos h4] at h
    simp (disch := first | omega | (simp only [List.length_append, List.length_cons, List.length_nil, List.length_set, List.length_map, List.length_take, List.length_drop]; omega)) only [stdh, goK_s2b, dgoK_s2b, isEff_s2b, isPure_s2b, goK_b2s, dgoK_b2s, isEff_b2s, isPure_b2s, evalOp_s2b, s2bR, goK_mark, dgoK_mark, isEff_mark, isPure_mark, evalOp_mark, markA_slc, markB, ↓reduceIte, Nat.reduceEqDiff, Int.reduceToNat, Int.reducePow, Nat.reduceAdd, Nat.reduceLeDiff, Nat.reduceMul, Nat.reduceBEq, reduceCtorEq, crc_Open, crc_Open.body, hne]
    exact ice_tup [(.nils, .imm [] 0 false), (.int .i64 13, .int .i64 13)] (Keeps.refl _) (by
      intro p hp
      simp only [List.mem_cons, List.not_mem_nil, or_false] at hp
      rcases hp with rfl | rfl
      · exact Fin.own (w := 1) (el := 0) Own.nil trivial
      · exact Fin.same trivial) h
  · rw [if_neg h4] at h
    have en : ((bs.length : Nat) : Int) - 4 = ((bs.length - 4 : Nat) : Int) := by omega
    have hz : ∀ b ∈ bs.take (bs.length - 4), b < 256 := fun b hb' => hb b (List.mem_of_mem_take hb')
    have hd : (bs.drop (bs.length - 4)).length = 4 := by simp; omega
    have htl : (bs.take (bs.length - 4)).length = bs.length - 4 := by simp
    simp (disch := first | omega | (simp only [List.length_append, List.length_cons, List.length_nil, List.length_set, List.length_map, List.length_take, List.length_drop]; omega)) only [stdh, goK_s2b, dgoK_s2b, isEff_s2b, isPure_s2b, goK_b2s, dgoK_b2s, isEff_b2s, isPure_b2s, evalOp_s2b, s2bR, goK_mark, dgoK_mark, isEff_mark, isPure_mark, evalOp_mark, markA_slc, markB, ↓reduceIte, Nat.reduceEqDiff, Int.reduceToNat, Int.reducePow, Nat.reduceAdd, Nat.reduceLeDiff, Nat.reduceMul, Nat.reduceBEq, reduceCtorEq, crc_Open, crc_Open.body, hne, en, crc_Open.d0]
    generalize bs.take (bs.length - 4) = hs at *
    generalize bs.drop (bs.length - 4) = ds at *
    have hld : ∀ H' : AHeap, loadA H' (some 4) (.sptr (nums .u8 t ds) 0) = some (True, .agg (ds.map fun n : Nat => AVal.int .u8 (n : Int))) := fun H' => load_four hd
    simp (disch := first | omega | (simp only [List.length_append, List.length_cons, List.length_nil, List.length_set, List.length_map, List.length_take, List.length_drop]; omega)) only [stdh, goK_s2b, dgoK_s2b, isEff_s2b, isPure_s2b, goK_b2s, dgoK_b2s, isEff_b2s, isPure_b2s, evalOp_s2b, s2bR, goK_mark, dgoK_mark, isEff_mark, isPure_mark, evalOp_mark, markA_slc, markB, ↓reduceIte, Nat.reduceEqDiff, Int.reduceToNat, Int.reducePow, Nat.reduceAdd, Nat.reduceLeDiff, Nat.reduceMul, Nat.reduceBEq, reduceCtorEq, hld]
    refine callD_fn (sum_ok _ (lists_one (bs := hs) (t := true) at_0 (Sees.refl _) hz (by omega)) _ ?_)
    rw [show [hs].flatten = hs by simp]
    refine ⟨by simp (disch := first | omega | (simp only [List.length_append, List.length_cons, List.length_nil, List.length_set, List.length_map, List.length_take, List.length_drop]; omega)) only [stdh, goK_s2b, dgoK_s2b, isEff_s2b, isPure_s2b, goK_b2s, dgoK_b2s, isEff_b2s, isPure_b2s, evalOp_s2b, s2bR, goK_mark, dgoK_mark, isEff_mark, isPure_mark, evalOp_mark, markA_slc, markB, ↓reduceIte, Nat.reduceEqDiff, Int.reduceToNat, Int.reducePow, Nat.reduceAdd, Nat.reduceLeDiff, Nat.reduceMul, Nat.reduceBEq, reduceCtorEq, hld], ?_⟩
    refine runD_V 60 ?_
    simp (disch := first | omega | (simp only [List.length_append, List.length_cons, List.length_nil, List.length_set, List.length_map, List.length_take, List.length_drop]; omega)) only [stdh, goK_s2b, dgoK_s2b, isEff_s2b, isPure_s2b, goK_b2s, dgoK_b2s, isEff_b2s, isPure_b2s, evalOp_s2b, s2bR, goK_mark, dgoK_mark, isEff_mark, isPure_mark, evalOp_mark, markA_slc, markB, ↓reduceIte, Nat.reduceEqDiff, Int.reduceToNat, Int.reducePow, Nat.reduceAdd, Nat.reduceLeDiff, Nat.reduceMul, Nat.reduceBEq, reduceCtorEq]
    refine callD_fn (bytes_ok _ (sumOf_lt hs) _ ?_)
    refine ⟨by simp (disch := first | omega | (simp only [List.length_append, List.length_cons, List.length_nil, List.length_set, List.length_map, List.length_take, List.length_drop]; omega)) only [stdh, goK_s2b, dgoK_s2b, isEff_s2b, isPure_s2b, goK_b2s, dgoK_b2s, isEff_b2s, isPure_b2s, evalOp_s2b, s2bR, goK_mark, dgoK_mark, isEff_mark, isPure_mark, evalOp_mark, markA_slc, markB, ↓reduceIte, Nat.reduceEqDiff, Int.reduceToNat, Int.reducePow, Nat.reduceAdd, Nat.reduceLeDiff, Nat.reduceMul, Nat.reduceBEq, reduceCtorEq, hld], ?_⟩
    refine runD_V 60 ?_
    have hq := eq_four (le4 (sumOf hs)) ds rfl hd
    have hq' : eqA (.cells [.int, .int, .int, .int]) (.agg (le4A (sumOf hs))) (.agg (ds.map fun n : Nat => AVal.int .u8 (n : Int))) = some (decide (le4 (sumOf hs) = ds)) := hq
    have hcn := cellish_nats hs
    by_cases he : le4 (sumOf hs) = ds
    · rw [if_pos he] at h
      have hde : decide (le4 (sumOf hs) = ds) = true := by simp [he]
      rw [hde] at hq'
      obtain ⟨p1, a1, hp1⟩ := append_at (H := H ++ [.vec [nums .u8 true hs] T.sl_uint8 1, .vec [] T.uint8 1]) (m := H.length + 1) (n := 0) (k := hs.length) (el := T.uint8) (bytes := 1) (cs := []) (x := nums .u8 true hs) (by rw [at_k]; rfl) rfl rfl rfl (by simp) rfl (by omega) hcn
      rw [List.nil_append] at a1
      simp (disch := first | omega | (simp only [List.length_append, List.length_cons, List.length_nil, List.length_set, List.length_map, List.length_take, List.length_drop]; omega)) only [stdh, goK_s2b, dgoK_s2b, isEff_s2b, isPure_s2b, goK_b2s, dgoK_b2s, isEff_b2s, isPure_b2s, evalOp_s2b, s2bR, goK_mark, dgoK_mark, isEff_mark, isPure_mark, evalOp_mark, markA_slc, markB, ↓reduceIte, Nat.reduceEqDiff, Int.reduceToNat, Int.reducePow, Nat.reduceAdd, Nat.reduceLeDiff, Nat.reduceMul, Nat.reduceBEq, reduceCtorEq, hq', a1, hp1]
      exact ice_tup [(.slc (H.length + 2) 0 hs.length 1, nums .u8 false hs), (.int .i64 0, .int .i64 0)] (keeps_append _ _) (by
        intro p hp
        simp only [List.mem_cons, List.not_mem_nil, or_false] at hp
        rcases hp with rfl | rfl
        · exact Fin.own (w := 1) (el := T.uint8) ⟨by simp, .inr ⟨H.length + 2, by omega, rfl, by rw [at_k]; rfl⟩⟩ (closeds_ints _ _)
        · exact Fin.same trivial) h
    · rw [if_neg he] at h
      have hde : decide (le4 (sumOf hs) = ds) = false := by simp [he]
      rw [hde] at hq'
      simp (disch := first | omega | (simp only [List.length_append, List.length_cons, List.length_nil, List.length_set, List.length_map, List.length_take, List.length_drop]; omega)) only [stdh, goK_s2b, dgoK_s2b, isEff_s2b, isPure_s2b, goK_b2s, dgoK_b2s, isEff_b2s, isPure_b2s, evalOp_s2b, s2bR, goK_mark, dgoK_mark, isEff_mark, isPure_mark, evalOp_mark, markA_slc, markB, ↓reduceIte, Nat.reduceEqDiff, Int.reduceToNat, Int.reducePow, Nat.reduceAdd, Nat.reduceLeDiff, Nat.reduceMul, Nat.reduceBEq, reduceCtorEq, hq']
      exact ice_tup [(.nils, .imm [] 0 false), (.int .i64 11, .int .i64 11)] (keeps_append _ _) (by
        intro p hp
        simp only [List.mem_cons, List.not_mem_nil, or_false] at hp
        rcases hp with rfl | rfl
        · exact Fin.own (w := 1) (el := 0) Own.nil trivial
        · exact Fin.same trivial) h

abbrev ropenC : Ctx := ⟨F.cuneiformref04_Open, 38, [.tmp 2, .tmp 3], none⟩

theorem ropen_loop (K : List AItem) (H : AHeap) (Q : AVal → AHeap → Prop) {t t' : Bool} {bs ss : List Nat} (hss : ss.length = 4) {n : Nat} (hn : bs.length = n + 4) (hlen : bs.length ≤ 1000000)
    (hK : ss = bs.drop n → ∀ r', rget r' 0 = nums .u8 t bs → rget r' 4 = .int .i64 (n : Nat) → Run Try.prog ropenC K r' H Q) (hQ : ss ≠ bs.drop n → Q (.tup [.nils, .int .i64 11]) H) :
    ∀ (m j : Nat), j + m = 4 → ss.take j = (bs.drop n).take j →
    Rounds Try.prog ropenC cuneiformref04_Open.b1 [.inBlock 0] K [(0, nums .u8 t bs), (4, .int .i64 (n : Nat)), (5, nums .u8 t' ss), (6, .int .i64 (j : Nat))] H Q
  | 0, j, h1, h2 => by
    refine loop_V 100 cuneiformref04_Open.b1.eq_1 ?_
    have hj : j = 4 := by omega
    subst hj
    rw [List.take_of_length_le (by omega), List.take_of_length_le (by simp; omega)] at h2
    simp (disch := first | omega | (simp only [List.length_append, List.length_cons, List.length_nil, List.length_set, List.length_map, List.length_take, List.length_drop]; omega)) only [stdh, goK_s2b, dgoK_s2b, isEff_s2b, isPure_s2b, goK_b2s, dgoK_b2s, isEff_b2s, isPure_b2s, evalOp_s2b, s2bR, goK_mark, dgoK_mark, isEff_mark, isPure_mark, evalOp_mark, markA_slc, markB, ↓reduceIte, Nat.reduceEqDiff, Int.reduceToNat, Int.reducePow, Nat.reduceAdd, Nat.reduceLeDiff, Nat.reduceMul, Nat.reduceBEq, reduceCtorEq]
    exact hK h2 _ rfl rfl
  | m + 1, j, h1, h2 => by
    refine loop_V 100 cuneiformref04_Open.b1.eq_1 ?_
    have e1 : ((n : Int) + (j : Int)) = ((n + j : Nat) : Int) := by omega
    have e2 : bs.getD (n + j) 0 = (bs.drop n).getD j 0 := by simp [List.getD_eq_getElem?_getD]
    have hdl : (bs.drop n).length = 4 := by simp; omega
    by_cases he : ss.getD j 0 = (bs.drop n).getD j 0
    · have hde : decide ((ss.getD j 0 : Nat) = ((bs.getD (n + j) 0 : Nat) : Int)) = true := by rw [e2, he]; simp
      simp (disch := first | omega | (simp only [List.length_append, List.length_cons, List.length_nil, List.length_set, List.length_map, List.length_take, List.length_drop]; omega)) only [stdh, goK_s2b, dgoK_s2b, isEff_s2b, isPure_s2b, goK_b2s, dgoK_b2s, isEff_b2s, isPure_b2s, evalOp_s2b, s2bR, goK_mark, dgoK_mark, isEff_mark, isPure_mark, evalOp_mark, markA_slc, markB, ↓reduceIte, Nat.reduceEqDiff, Int.reduceToNat, Int.reducePow, Nat.reduceAdd, Nat.reduceLeDiff, Nat.reduceMul, Nat.reduceBEq, reduceCtorEq, cuneiformref04_Open.d0, e1, hde]
      refine ropen_loop K H Q hss hn hlen hK hQ m (j + 1) (by omega) ?_
      rw [List.take_succ_eq_append_getElem (by omega), List.take_succ_eq_append_getElem (by omega), h2]
      congr 1
      have a1 : ss.getD j 0 = ss[j]'(by omega) := by rw [List.getD_eq_getElem?_getD, List.getElem?_eq_getElem (by omega)]; rfl
      have a2 : (bs.drop n).getD j 0 = (bs.drop n)[j]'(by omega) := by rw [List.getD_eq_getElem?_getD, List.getElem?_eq_getElem (by omega)]; rfl
      rw [← a1, ← a2, he]
    · have hde : decide ((ss.getD j 0 : Nat) = ((bs.getD (n + j) 0 : Nat) : Int)) = false := decide_eq_false (by rw [e2]; omega)
      have hne : ss ≠ bs.drop n := fun e => he (by rw [e])
      simp (disch := first | omega | (simp only [List.length_append, List.length_cons, List.length_nil, List.length_set, List.length_map, List.length_take, List.length_drop]; omega)) only [stdh, goK_s2b, dgoK_s2b, isEff_s2b, isPure_s2b, goK_b2s, dgoK_b2s, isEff_b2s, isPure_b2s, evalOp_s2b, s2bR, goK_mark, dgoK_mark, isEff_mark, isPure_mark, evalOp_mark, markA_slc, markB, ↓reduceIte, Nat.reduceEqDiff, Int.reduceToNat, Int.reducePow, Nat.reduceAdd, Nat.reduceLeDiff, Nat.reduceMul, Nat.reduceBEq, reduceCtorEq, cuneiformref04_Open.d0, e1, hde]
      exact hQ hne

theorem ropen_ok (H : AHeap) {t : Bool} {bs : List Nat} (hlen : bs.length ≤ 1000000) (hb : ∀ b ∈ bs, b < 256) (Q : AVal → AHeap → Prop) (h : Q (.tup [nums .u8 false (openOf bs).1, .int .i64 ((openOf bs).2 : Nat)]) H) : FunOK Try.prog F.cuneiformref04_Open [nums .u8 t bs] H Q := by
  refine fun_iced cuneiformref04_Open_code fun _ => ?_
  refine fun_V 100 cuneiformref04_Open_code rfl ?_
  unfold openOf at h
  by_cases h4 : bs.length < 4
  · rw [if_pos h4] at h
    simp (disch := first | omega | (simp only [List.length_append, List.length_cons, List.length_nil, List.length_set, List.length_map, List.length_take, List.length_drop]; omega)) only [stdh, goK_s2b, dgoK_s2b, isEff_s2b, isPure_s2b, goK_b2s, dgoK_b2s, isEff_b2s, isPure_b2s, evalOp_s2b, s2bR, goK_mark, dgoK_mark, isEff_mark, isPure_mark, evalOp_mark, markA_slc, markB, ↓reduceIte, Nat.reduceEqDiff, Int.reduceToNat, Int.reducePow, Nat.reduceAdd, Nat.reduceLeDiff, Nat.reduceMul, Nat.reduceBEq, reduceCtorEq, cuneiformref04_Open, cuneiformref04_Open.body]
    exact ice_tup [(.nils, .imm [] 0 false), (.int .i64 13, .int .i64 13)] (Keeps.refl _) (by
      intro p hp
      simp only [List.mem_cons, List.not_mem_nil, or_false] at hp
      rcases hp with rfl | rfl
      · exact Fin.own (w := 1) (el := 0) Own.nil trivial
      · exact Fin.same trivial) h
  · rw [if_neg h4] at h
    have en : ((bs.length : Nat) : Int) - 4 = ((bs.length - 4 : Nat) : Int) := by omega
    have hz : ∀ b ∈ bs.take (bs.length - 4), b < 256 := fun b hb' => hb b (List.mem_of_mem_take hb')
    simp (disch := first | omega | (simp only [List.length_append, List.length_cons, List.length_nil, List.length_set, List.length_map, List.length_take, List.length_drop]; omega)) only [stdh, goK_s2b, dgoK_s2b, isEff_s2b, isPure_s2b, goK_b2s, dgoK_b2s, isEff_b2s, isPure_b2s, evalOp_s2b, s2bR, goK_mark, dgoK_mark, isEff_mark, isPure_mark, evalOp_mark, markA_slc, markB, ↓reduceIte, Nat.reduceEqDiff, Int.reduceToNat, Int.reducePow, Nat.reduceAdd, Nat.reduceLeDiff, Nat.reduceMul, Nat.reduceBEq, reduceCtorEq, cuneiformref04_Open, cuneiformref04_Open.body, en]
    refine callK_fn (rsum_ok _ (by simp; omega) hz _ ?_)
    refine runL_V 60 ?_
    simp (disch := first | omega | (simp only [List.length_append, List.length_cons, List.length_nil, List.length_set, List.length_map, List.length_take, List.length_drop]; omega)) only [stdh, goK_s2b, dgoK_s2b, isEff_s2b, isPure_s2b, goK_b2s, dgoK_b2s, isEff_b2s, isPure_b2s, evalOp_s2b, s2bR, goK_mark, dgoK_mark, isEff_mark, isPure_mark, evalOp_mark, markA_slc, markB, ↓reduceIte, Nat.reduceEqDiff, Int.reduceToNat, Int.reducePow, Nat.reduceAdd, Nat.reduceLeDiff, Nat.reduceMul, Nat.reduceBEq, reduceCtorEq]
    refine callK_fn (rbytes_ok _ (sumOf_lt _) _ ?_)
    refine runL_V 60 ?_
    simp (disch := first | omega | (simp only [List.length_append, List.length_cons, List.length_nil, List.length_set, List.length_map, List.length_take, List.length_drop]; omega)) only [stdh, goK_s2b, dgoK_s2b, isEff_s2b, isPure_s2b, goK_b2s, dgoK_b2s, isEff_b2s, isPure_b2s, evalOp_s2b, s2bR, goK_mark, dgoK_mark, isEff_mark, isPure_mark, evalOp_mark, markA_slc, markB, ↓reduceIte, Nat.reduceEqDiff, Int.reduceToNat, Int.reducePow, Nat.reduceAdd, Nat.reduceLeDiff, Nat.reduceMul, Nat.reduceBEq, reduceCtorEq]
    refine ropen_loop _ H _ (n := bs.length - 4) rfl (by omega) hlen ?_ ?_ 4 0 rfl rfl
    · intro he r' a0 a4
      rw [if_pos he] at h
      refine run_V0 60 ?_
      have hcn := cellish_nats (bs.take (bs.length - 4))
      obtain ⟨p1, a1, hp1⟩ := append_at (H := H ++ [.vec [] T.uint8 1]) (m := H.length) (n := 0) (k := bs.length - 4) (el := T.uint8) (bytes := 1) (cs := []) (x := nums .u8 false (bs.take (bs.length - 4))) at_0 rfl (by simp [nums, srcLen, slen]) rfl (by simp) rfl (by omega) hcn
      rw [List.nil_append] at a1
      simp (disch := first | omega | (simp only [List.length_append, List.length_cons, List.length_nil, List.length_set, List.length_map, List.length_take, List.length_drop]; omega)) only [stdh, goK_s2b, dgoK_s2b, isEff_s2b, isPure_s2b, goK_b2s, dgoK_b2s, isEff_b2s, isPure_b2s, evalOp_s2b, s2bR, goK_mark, dgoK_mark, isEff_mark, isPure_mark, evalOp_mark, markA_slc, markB, ↓reduceIte, Nat.reduceEqDiff, Int.reduceToNat, Int.reducePow, Nat.reduceAdd, Nat.reduceLeDiff, Nat.reduceMul, Nat.reduceBEq, reduceCtorEq, a0, a4, a1, hp1]
      exact ice_tup [(.slc (H.length + 1) 0 (bs.length - 4) 1, nums .u8 false (bs.take (bs.length - 4))), (.int .i64 0, .int .i64 0)] (keeps_append _ _) (by
        intro p hp
        simp only [List.mem_cons, List.not_mem_nil, or_false] at hp
        rcases hp with rfl | rfl
        · have := Fin.own (H := H) (H' := H ++ [.dead, .vec ((bs.take (bs.length - 4)).map fun n : Nat => AVal.int .u8 (n : Int)) T.uint8 1]) (a := .slc (H.length + 1) 0 (bs.length - 4) 1) (n := bs.length - 4) (w := 1) (el := T.uint8) (cs := (bs.take (bs.length - 4)).map fun n : Nat => AVal.int .u8 (n : Int)) ⟨by simp, .inr ⟨H.length + 1, by omega, rfl, by rw [at_k]; rfl⟩⟩ (closeds_ints _ _)
          rwa [nums_eq .u8 (bs.take (bs.length - 4)) (by simp)] at this
        · exact Fin.same trivial) h
    · intro he
      rw [if_neg he] at h
      exact ice_tup [(.nils, .imm [] 0 false), (.int .i64 11, .int .i64 11)] (Keeps.refl _) (by
        intro p hp
        simp only [List.mem_cons, List.not_mem_nil, or_false] at hp
        rcases hp with rfl | rfl
        · exact Fin.own (w := 1) (el := 0) Own.nil trivial
        · exact Fin.same trivial) h

theorem open_seal (bs : List Nat) : openOf (bs ++ le4 (sumOf bs)) = (bs, 0) := by
  have hl : (bs ++ le4 (sumOf bs)).length = bs.length + 4 := by simp [le4]
  unfold openOf
  rw [hl, if_neg (by omega), Nat.add_sub_cancel, List.take_left, List.drop_left, if_pos rfl]

theorem crcseals_ok {bs : List Nat} (hb : ∀ b ∈ bs, b < 256) : FunOK Try.prog F.cuneiformlaw04_CrcSeals [nums .u8 false bs] [] fun av _ => av = .bool true := by
  refine fun_V 100 cuneiformlaw04_CrcSeals_code rfl ?_
  have min200 : ∀ n : Nat, (if 200 < (n : Int) then 200 else (n : Int)) = ((min n 200 : Nat) : Int) := fun n => by split <;> omega
  simp (disch := first | omega | (simp only [List.length_append, List.length_cons, List.length_nil, List.length_set, List.length_map, List.length_take, List.length_drop]; omega)) only [stdh, goK_s2b, dgoK_s2b, isEff_s2b, isPure_s2b, goK_b2s, dgoK_b2s, isEff_b2s, isPure_b2s, evalOp_s2b, s2bR, goK_mark, dgoK_mark, isEff_mark, isPure_mark, evalOp_mark, markA_slc, markB, ↓reduceIte, Nat.reduceEqDiff, Int.reduceToNat, Int.reducePow, Nat.reduceAdd, Nat.reduceLeDiff, Nat.reduceMul, Nat.reduceBEq, reduceCtorEq, cuneiformlaw04_CrcSeals, cuneiformlaw04_CrcSeals.body, min200]
  have hz : ∀ b ∈ bs.take (min bs.length 200), b < 256 := fun b hb' => hb b (List.mem_of_mem_take hb')
  have hzl : (bs.take (min bs.length 200)).length ≤ 200 := by rw [List.length_take]; omega
  generalize bs.take (min bs.length 200) = zs at *
  have hsz : ∀ b ∈ zs ++ le4 (sumOf zs), b < 256 := by
    intro b hb'
    rcases List.mem_append.1 hb' with h | h
    · exact hz b h
    · exact le4_lt (sumOf_lt zs) b h
  refine callK_fn (new_ok _ _ ?_)
  refine runL_V 60 ?_
  simp (disch := first | omega | (simp only [List.length_append, List.length_cons, List.length_nil, List.length_set, List.length_map, List.length_take, List.length_drop]; omega)) only [stdh, goK_s2b, dgoK_s2b, isEff_s2b, isPure_s2b, goK_b2s, dgoK_b2s, isEff_b2s, isPure_b2s, evalOp_s2b, s2bR, goK_mark, dgoK_mark, isEff_mark, isPure_mark, evalOp_mark, markA_slc, markB, ↓reduceIte, Nat.reduceEqDiff, Int.reduceToNat, Int.reducePow, Nat.reduceAdd, Nat.reduceLeDiff, Nat.reduceMul, Nat.reduceBEq, reduceCtorEq]
  refine callK_fn (seal_ok _ (by omega) hz _ ?_)
  refine runL_V 60 ?_
  have hcn := cellish_nats zs
  have hc4 : ((le4 (sumOf zs)).map fun n : Nat => AVal.int .u8 (n : Int)).all AVal.cellish = true := cellish_nats _
  obtain ⟨p1, a1, hp1⟩ := append_at (H := [.vec [] T.uint8 1]) (m := 0) (n := 0) (k := zs.length) (el := T.uint8) (bytes := 1) (cs := []) (x := nums .u8 false zs) rfl rfl rfl rfl (by simp) rfl (by omega) hcn
  rw [List.nil_append] at a1
  simp (disch := first | omega | (simp only [List.length_append, List.length_cons, List.length_nil, List.length_set, List.length_map, List.length_take, List.length_drop]; omega)) only [stdh, goK_s2b, dgoK_s2b, isEff_s2b, isPure_s2b, goK_b2s, dgoK_b2s, isEff_b2s, isPure_b2s, evalOp_s2b, s2bR, goK_mark, dgoK_mark, isEff_mark, isPure_mark, evalOp_mark, markA_slc, markB, ↓reduceIte, Nat.reduceEqDiff, Int.reduceToNat, Int.reducePow, Nat.reduceAdd, Nat.reduceLeDiff, Nat.reduceMul, Nat.reduceBEq, reduceCtorEq, a1, hp1]
  refine callK_fn (rsum_ok _ (by omega) hz _ ?_)
  refine runL_V 60 ?_
  simp (disch := first | omega | (simp only [List.length_append, List.length_cons, List.length_nil, List.length_set, List.length_map, List.length_take, List.length_drop]; omega)) only [stdh, goK_s2b, dgoK_s2b, isEff_s2b, isPure_s2b, goK_b2s, dgoK_b2s, isEff_b2s, isPure_b2s, evalOp_s2b, s2bR, goK_mark, dgoK_mark, isEff_mark, isPure_mark, evalOp_mark, markA_slc, markB, ↓reduceIte, Nat.reduceEqDiff, Int.reduceToNat, Int.reducePow, Nat.reduceAdd, Nat.reduceLeDiff, Nat.reduceMul, Nat.reduceBEq, reduceCtorEq]
  refine callK_fn (rbytes_ok _ (sumOf_lt _) _ ?_)
  refine runL_V 60 ?_
  obtain ⟨p2, a2, hp2⟩ := append_at (H := [.dead, .vec (zs.map fun n : Nat => AVal.int .u8 (n : Int)) T.uint8 1]) (m := 1) (n := zs.length) (k := 4) (el := T.uint8) (bytes := 1) (cs := zs.map fun n : Nat => AVal.int .u8 (n : Int)) (x := nums .u8 false (le4 (sumOf zs))) rfl (by simp) rfl rfl rfl rfl (by omega) hc4
  simp (disch := first | omega | (simp only [List.length_append, List.length_cons, List.length_nil, List.length_set, List.length_map, List.length_take, List.length_drop]; omega)) only [stdh, goK_s2b, dgoK_s2b, isEff_s2b, isPure_s2b, goK_b2s, dgoK_b2s, isEff_b2s, isPure_b2s, evalOp_s2b, s2bR, goK_mark, dgoK_mark, isEff_mark, isPure_mark, evalOp_mark, markA_slc, markB, ↓reduceIte, Nat.reduceEqDiff, Int.reduceToNat, Int.reducePow, Nat.reduceAdd, Nat.reduceLeDiff, Nat.reduceMul, Nat.reduceBEq, reduceCtorEq, a2, hp2]
  have hnat : Nats .u8 [ABlk.dead, .dead, .vec ((zs.map fun n : Nat => AVal.int .u8 (n : Int)) ++ (le4 (sumOf zs)).map fun n : Nat => AVal.int .u8 (n : Int)) T.uint8 1] (.slc 2 0 (zs.length + 4) 1) (zs ++ le4 (sumOf zs)) := by
    have := nats_lit (k := .u8) (H := [ABlk.dead, .dead]) (el := T.uint8) (zs ++ le4 (sumOf zs))
    rw [List.map_append, List.length_append] at this
    exact this
  refine callK_fn (same_ok _ (nums_nats _ _ _ _) hnat (by simp [le4]; omega) _ ?_)
  rw [show decide (zs ++ le4 (sumOf zs) = zs ++ le4 (sumOf zs)) = true by simp]
  refine runL_V 60 ?_
  simp (disch := first | omega | (simp only [List.length_append, List.length_cons, List.length_nil, List.length_set, List.length_map, List.length_take, List.length_drop]; omega)) only [stdh, goK_s2b, dgoK_s2b, isEff_s2b, isPure_s2b, goK_b2s, dgoK_b2s, isEff_b2s, isPure_b2s, evalOp_s2b, s2bR, goK_mark, dgoK_mark, isEff_mark, isPure_mark, evalOp_mark, markA_slc, markB, ↓reduceIte, Nat.reduceEqDiff, Int.reduceToNat, Int.reducePow, Nat.reduceAdd, Nat.reduceLeDiff, Nat.reduceMul, Nat.reduceBEq, reduceCtorEq]
  refine callK_fn (open_ok _ (by simp [le4]; omega) hsz _ ?_)
  rw [open_seal]
  refine runL_V 60 ?_
  simp (disch := first | omega | (simp only [List.length_append, List.length_cons, List.length_nil, List.length_set, List.length_map, List.length_take, List.length_drop]; omega)) only [stdh, goK_s2b, dgoK_s2b, isEff_s2b, isPure_s2b, goK_b2s, dgoK_b2s, isEff_b2s, isPure_b2s, evalOp_s2b, s2bR, goK_mark, dgoK_mark, isEff_mark, isPure_mark, evalOp_mark, markA_slc, markB, ↓reduceIte, Nat.reduceEqDiff, Int.reduceToNat, Int.reducePow, Nat.reduceAdd, Nat.reduceLeDiff, Nat.reduceMul, Nat.reduceBEq, reduceCtorEq]
  refine callK_fn (open_ok _ (by omega) hz _ ?_)
  refine runL_V 60 ?_
  simp (disch := first | omega | (simp only [List.length_append, List.length_cons, List.length_nil, List.length_set, List.length_map, List.length_take, List.length_drop]; omega)) only [stdh, goK_s2b, dgoK_s2b, isEff_s2b, isPure_s2b, goK_b2s, dgoK_b2s, isEff_b2s, isPure_b2s, evalOp_s2b, s2bR, goK_mark, dgoK_mark, isEff_mark, isPure_mark, evalOp_mark, markA_slc, markB, ↓reduceIte, Nat.reduceEqDiff, Int.reduceToNat, Int.reducePow, Nat.reduceAdd, Nat.reduceLeDiff, Nat.reduceMul, Nat.reduceBEq, reduceCtorEq]
  refine callK_fn (ropen_ok _ (by omega) hz _ ?_)
  refine runL_V 60 ?_
  simp (disch := first | omega | (simp only [List.length_append, List.length_cons, List.length_nil, List.length_set, List.length_map, List.length_take, List.length_drop]; omega)) only [stdh, goK_s2b, dgoK_s2b, isEff_s2b, isPure_s2b, goK_b2s, dgoK_b2s, isEff_b2s, isPure_b2s, evalOp_s2b, s2bR, goK_mark, dgoK_mark, isEff_mark, isPure_mark, evalOp_mark, markA_slc, markB, ↓reduceIte, Nat.reduceEqDiff, Int.reduceToNat, Int.reducePow, Nat.reduceAdd, Nat.reduceLeDiff, Nat.reduceMul, Nat.reduceBEq, reduceCtorEq]
  refine callK_fn (known04_ok _ _ ?_)
  refine runL_V 60 ?_
  simp (disch := first | omega | (simp only [List.length_append, List.length_cons, List.length_nil, List.length_set, List.length_map, List.length_take, List.length_drop]; omega)) only [stdh, goK_s2b, dgoK_s2b, isEff_s2b, isPure_s2b, goK_b2s, dgoK_b2s, isEff_b2s, isPure_b2s, evalOp_s2b, s2bR, goK_mark, dgoK_mark, isEff_mark, isPure_mark, evalOp_mark, markA_slc, markB, ↓reduceIte, Nat.reduceEqDiff, Int.reduceToNat, Int.reducePow, Nat.reduceAdd, Nat.reduceLeDiff, Nat.reduceMul, Nat.reduceBEq, reduceCtorEq]
  refine callK_fn (same_ok _ (nums_nats _ _ _ _) (nums_nats _ _ _ _) (by omega) _ ?_)
  rw [show decide (zs = zs) = true by simp]
  refine runL_V 60 ?_
  simp (disch := first | omega | (simp only [List.length_append, List.length_cons, List.length_nil, List.length_set, List.length_map, List.length_take, List.length_drop]; omega)) only [stdh, goK_s2b, dgoK_s2b, isEff_s2b, isPure_s2b, goK_b2s, dgoK_b2s, isEff_b2s, isPure_b2s, evalOp_s2b, s2bR, goK_mark, dgoK_mark, isEff_mark, isPure_mark, evalOp_mark, markA_slc, markB, ↓reduceIte, Nat.reduceEqDiff, Int.reduceToNat, Int.reducePow, Nat.reduceAdd, Nat.reduceLeDiff, Nat.reduceMul, Nat.reduceBEq, reduceCtorEq]
  have hol : (openOf zs).1.length ≤ 200 := by
    unfold openOf
    split
    · simp
    · split
      · simp; omega
      · simp
  refine callK_fn (same_ok _ (nums_nats _ _ _ _) (nums_nats _ _ _ _) (by omega) _ ?_)
  rw [show decide ((openOf zs).1 = (openOf zs).1) = true by simp]
  refine runL_V 60 ?_
  simp (disch := first | omega | (simp only [List.length_append, List.length_cons, List.length_nil, List.length_set, List.length_map, List.length_take, List.length_drop]; omega)) only [stdh, goK_s2b, dgoK_s2b, isEff_s2b, isPure_s2b, goK_b2s, dgoK_b2s, isEff_b2s, isPure_b2s, evalOp_s2b, s2bR, goK_mark, dgoK_mark, isEff_mark, isPure_mark, evalOp_mark, markA_slc, markB, ↓reduceIte, Nat.reduceEqDiff, Int.reduceToNat, Int.reducePow, Nat.reduceAdd, Nat.reduceLeDiff, Nat.reduceMul, Nat.reduceBEq, reduceCtorEq]
end Go.Proofs.Ytlbalhddopcamaa
