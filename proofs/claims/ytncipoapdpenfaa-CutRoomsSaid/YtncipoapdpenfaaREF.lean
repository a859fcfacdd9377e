/-
  Lemmas on the way to the statements of this seat. By an AI agent. No person has read it.
-/
import Derived.Test.YtncipoapdpenfaaFRM
import Derived.Test.YtncipoapdpenfaaLIB

namespace Go.Proofs.Ytncipoapdpenfaa
open Go Go.Am
set_option linter.unusedSimpArgs false
set_option linter.unusedVariables false

theorem rcheck_ok (H : AHeap) (h : Hd) (Q : AVal → AHeap → Prop) (hq : Q (.int .i64 (checkOf h : Nat)) H) : FunOK Try.prog F.cuneiformref07_Check [.agg (encHd h)] H Q := by
  refine fun_iced cuneiformref07_Check_code fun _ => ?_
  refine fun_V 150 cuneiformref07_Check_code rfl ?_
  have hce : (encHd h).all AVal.cellish = true := rfl
  have e0 : h.v = 1 ∨ h.v = 2 → bads h 0 = false := fun hh => by simp [bads]; omega
  have e1 : ¬ (h.k < 1 ∨ 5 < h.k) → bads h 1 = false := fun hh => by simp [bads]; omega
  have fin : ∀ n, checkOf h = n → ∀ L, IceQ H Q (.int .i64 (n : Nat)) (H ++ L) := fun n hn L => ice_none trivial (by rw [← hn]; exact hq)
  by_cases v1 : h.v = 1 ∨ h.v = 2
  · have b0 := e0 v1
    rcases v1 with v1 | v1
    all_goals
      by_cases k1 : h.k < 1 ∨ 5 < h.k
      · have b1 : bads h 1 = true := by simp [bads, k1]
        have hc : checkOf h = 9 := by simp [checkOf, b0, b1]
        by_cases k2 : h.k < 1
        · simp (disch := first | omega | (simp only [List.length_append, List.length_cons, List.length_nil, List.length_set, List.length_map, List.length_take, List.length_drop]; omega)) only [stdh, goK_s2b, dgoK_s2b, isEff_s2b, isPure_s2b, goK_b2s, dgoK_b2s, isEff_b2s, isPure_b2s, evalOp_s2b, s2bR, goK_mark, dgoK_mark, isEff_mark, isPure_mark, evalOp_mark, markA_slc, markB, ↓reduceIte, Nat.reduceEqDiff, Int.reduceToNat, Int.reducePow, Nat.reduceAdd, Nat.reduceLeDiff, Nat.reduceMul, Nat.reduceBEq, reduceCtorEq, cuneiformref07_Check, cuneiformref07_Check.body, encHd]
          exact fin 9 hc _
        · have k3 : 5 < h.k := by omega
          simp (disch := first | omega | (simp only [List.length_append, List.length_cons, List.length_nil, List.length_set, List.length_map, List.length_take, List.length_drop]; omega)) only [stdh, goK_s2b, dgoK_s2b, isEff_s2b, isPure_s2b, goK_b2s, dgoK_b2s, isEff_b2s, isPure_b2s, evalOp_s2b, s2bR, goK_mark, dgoK_mark, isEff_mark, isPure_mark, evalOp_mark, markA_slc, markB, ↓reduceIte, Nat.reduceEqDiff, Int.reduceToNat, Int.reducePow, Nat.reduceAdd, Nat.reduceLeDiff, Nat.reduceMul, Nat.reduceBEq, reduceCtorEq, cuneiformref07_Check, cuneiformref07_Check.body, encHd]
          exact fin 9 hc _
      · have b1 := e1 k1
        by_cases c1 : h.c < 1 ∨ 255 < h.c ∨ h.i < 0 ∨ h.c ≤ h.i
        · have b2 : bads h 2 = true := by simp [bads, c1]
          have hc : checkOf h = 3 := by simp [checkOf, b0, b1, b2]
          by_cases d1 : h.c < 1
          · simp (disch := first | omega | (simp only [List.length_append, List.length_cons, List.length_nil, List.length_set, List.length_map, List.length_take, List.length_drop]; omega)) only [stdh, goK_s2b, dgoK_s2b, isEff_s2b, isPure_s2b, goK_b2s, dgoK_b2s, isEff_b2s, isPure_b2s, evalOp_s2b, s2bR, goK_mark, dgoK_mark, isEff_mark, isPure_mark, evalOp_mark, markA_slc, markB, ↓reduceIte, Nat.reduceEqDiff, Int.reduceToNat, Int.reducePow, Nat.reduceAdd, Nat.reduceLeDiff, Nat.reduceMul, Nat.reduceBEq, reduceCtorEq, cuneiformref07_Check, cuneiformref07_Check.body, encHd]
            exact fin 3 hc _
          · by_cases d2 : 255 < h.c
            · simp (disch := first | omega | (simp only [List.length_append, List.length_cons, List.length_nil, List.length_set, List.length_map, List.length_take, List.length_drop]; omega)) only [stdh, goK_s2b, dgoK_s2b, isEff_s2b, isPure_s2b, goK_b2s, dgoK_b2s, isEff_b2s, isPure_b2s, evalOp_s2b, s2bR, goK_mark, dgoK_mark, isEff_mark, isPure_mark, evalOp_mark, markA_slc, markB, ↓reduceIte, Nat.reduceEqDiff, Int.reduceToNat, Int.reducePow, Nat.reduceAdd, Nat.reduceLeDiff, Nat.reduceMul, Nat.reduceBEq, reduceCtorEq, cuneiformref07_Check, cuneiformref07_Check.body, encHd]
              exact fin 3 hc _
            · by_cases d3 : h.i < 0
              · simp (disch := first | omega | (simp only [List.length_append, List.length_cons, List.length_nil, List.length_set, List.length_map, List.length_take, List.length_drop]; omega)) only [stdh, goK_s2b, dgoK_s2b, isEff_s2b, isPure_s2b, goK_b2s, dgoK_b2s, isEff_b2s, isPure_b2s, evalOp_s2b, s2bR, goK_mark, dgoK_mark, isEff_mark, isPure_mark, evalOp_mark, markA_slc, markB, ↓reduceIte, Nat.reduceEqDiff, Int.reduceToNat, Int.reducePow, Nat.reduceAdd, Nat.reduceLeDiff, Nat.reduceMul, Nat.reduceBEq, reduceCtorEq, cuneiformref07_Check, cuneiformref07_Check.body, encHd]
                exact fin 3 hc _
              · have d4 : h.c ≤ h.i := by omega
                simp (disch := first | omega | (simp only [List.length_append, List.length_cons, List.length_nil, List.length_set, List.length_map, List.length_take, List.length_drop]; omega)) only [stdh, goK_s2b, dgoK_s2b, isEff_s2b, isPure_s2b, goK_b2s, dgoK_b2s, isEff_b2s, isPure_b2s, evalOp_s2b, s2bR, goK_mark, dgoK_mark, isEff_mark, isPure_mark, evalOp_mark, markA_slc, markB, ↓reduceIte, Nat.reduceEqDiff, Int.reduceToNat, Int.reducePow, Nat.reduceAdd, Nat.reduceLeDiff, Nat.reduceMul, Nat.reduceBEq, reduceCtorEq, cuneiformref07_Check, cuneiformref07_Check.body, encHd]
                exact fin 3 hc _
        · have b2 : bads h 2 = false := by simp [bads]; omega
          have hc : checkOf h = 0 := by simp [checkOf, b0, b1, b2]
          simp (disch := first | omega | (simp only [List.length_append, List.length_cons, List.length_nil, List.length_set, List.length_map, List.length_take, List.length_drop]; omega)) only [stdh, goK_s2b, dgoK_s2b, isEff_s2b, isPure_s2b, goK_b2s, dgoK_b2s, isEff_b2s, isPure_b2s, evalOp_s2b, s2bR, goK_mark, dgoK_mark, isEff_mark, isPure_mark, evalOp_mark, markA_slc, markB, ↓reduceIte, Nat.reduceEqDiff, Int.reduceToNat, Int.reducePow, Nat.reduceAdd, Nat.reduceLeDiff, Nat.reduceMul, Nat.reduceBEq, reduceCtorEq, cuneiformref07_Check, cuneiformref07_Check.body, encHd]
          exact fin 0 hc _
  · have b0 : bads h 0 = true := by simp [bads]; omega
    have hc : checkOf h = 10 := by simp [checkOf, b0]
    simp (disch := first | omega | (simp only [List.length_append, List.length_cons, List.length_nil, List.length_set, List.length_map, List.length_take, List.length_drop]; omega)) only [stdh, goK_s2b, dgoK_s2b, isEff_s2b, isPure_s2b, goK_b2s, dgoK_b2s, isEff_b2s, isPure_b2s, evalOp_s2b, s2bR, goK_mark, dgoK_mark, isEff_mark, isPure_mark, evalOp_mark, markA_slc, markB, ↓reduceIte, Nat.reduceEqDiff, Int.reduceToNat, Int.reducePow, Nat.reduceAdd, Nat.reduceLeDiff, Nat.reduceMul, Nat.reduceBEq, reduceCtorEq, cuneiformref07_Check, cuneiformref07_Check.body, encHd]
    exact fin 10 hc _

/-! ### Lists of lists -/

/-- A slice of numbers, of a block of its own. -/
def Holds (B : Nat) (H : AHeap) (bad : List Nat) (c : AVal) (xs : List Nat) : Prop := ∃ m, c = .slc m 0 xs.length 1 ∧ B ≤ m ∧ m ∉ bad ∧ H[m]? = some (.vec (u8s xs) T.uint8 1)

theorem Holds.lt {B : Nat} {H : AHeap} {bad : List Nat} {c : AVal} {xs : List Nat} (h : Holds B H bad c xs) : ∀ m ∈ c.names, m < H.length := by
  obtain ⟨m, rfl, _, _, hm⟩ := h
  intro x hx
  simp [AVal.names] at hx
  subst hx
  exact (List.getElem?_eq_some_iff.1 hm).1

/-- The lists' heap behind an append elsewhere. -/
theorem Holds.moved {B : Nat} {H H' : AHeap} {bad bad' : List Nat} {c : AVal} {xs : List Nat} (h : Holds B H bad c xs) (hk : ∀ m, m < H.length → m ∉ bad → H'[m]? = H[m]?) (hb : ∀ m, m < H.length → m ∉ bad → m ∉ bad') : Holds B H' bad' c xs := by
  obtain ⟨m, rfl, h1, h2, h3⟩ := h
  have hlt := (List.getElem?_eq_some_iff.1 h3).1
  exact ⟨m, rfl, h1, hb m hlt h2, (hk m hlt h2).trans h3⟩

/-- A new list of new lists is handed back; none is written to again. -/
theorem fun_lists {f : FuncId} {fn : AFun} {args : List AVal} {H : AHeap} {Q : AVal → AHeap → Prop} (hf : okFun Try.prog f fn = true) 
    (h : closeds H.length args → FunOK Try.prog f args H fun av H' => Keeps H H' ∧ ∃ (el : TypeId) (n : Nat) (cs : List AVal) (xss : List (List Nat)), Own 1 el H.length H' av n cs ∧ xss.length = cs.length ∧ (∀ k, k < cs.length → ∃ bad, Holds H.length H' bad (cs.getD k .junk) (xss.getD k []) ∧ ∀ m ∈ av.names, m ∈ bad) ∧ Q (.imm (xss.map fun xs => nums .u8 false xs) n false) H) : FunOK Try.prog f args H Q := by
  refine fun_iced hf fun ha => ?_
  refine fun_gh (fun _ _ => h ha) (fun av H' hc _ hq => ?_) (callable_of hf)
  obtain ⟨hk, el, n, cs, xss, ho, hxl, hh, hq⟩ := hq
  rcases ho.is with ⟨rfl, hn⟩ | ⟨mo, hmo, rfl, hb⟩
  · subst hn
    have hcs : cs = [] := List.length_eq_zero_iff.1 (by have := ho.len; simpa using this)
    subst hcs
    have hx : xss = [] := List.length_eq_zero_iff.1 (by simpa using hxl)
    subst hx
    exact ⟨toF H.length [] [], H, by simpa using left_keeps hc hk [] [] (by simp) (by simp) (by simp), by
      show IceQ H Q .nils H
      exact ice_nils (Keeps.refl _) hq⟩
  · -- the inner lists
    let is : List (Nat × List AVal) := (List.range cs.length).map fun k => (match cs.getD k .junk with | .slc m _ _ _ => m | _ => 0, u8s (xss.getD k []))
    have his : ∀ p ∈ is, ∃ cs0, content H'[p.1]? = some cs0 ∧ p.2 = mvs (toF H.length [mo] is) cs0 ∧ colds (toF H.length [mo] is) cs0 := by
      intro p hp
      obtain ⟨k, hk', rfl⟩ := List.mem_map.1 hp
      obtain ⟨bad, ⟨m, e1, e2, e3, e4⟩, _⟩ := hh k (List.mem_range.1 hk')
      simp only [e1]
      have hcl : closeds H.length (u8s (xss.getD k [])) := closeds_ints _ _
      exact ⟨u8s (xss.getD k []), by rw [e4]; rfl, (mvs_id (L := H.length) (fun _ h => toF_low h) _ hcl).symm, colds_of (L := H.length) (fun _ h => toF_low h) _ hcl⟩
    have hnm : ∀ p ∈ is, p.1 ≠ mo := by
      intro p hp
      obtain ⟨k, hk', rfl⟩ := List.mem_map.1 hp
      obtain ⟨bad, ⟨m, e1, e2, e3, e4⟩, e5⟩ := hh k (List.mem_range.1 hk')
      simp only [e1]
      intro e
      exact e3 (e5 m (by simp [AVal.names, e]))
    have hfind : ∀ k, k < cs.length → ∀ m len, cs.getD k .junk = .slc m 0 len 1 → toF H.length [mo] is m = .ice (u8s (xss.getD k [])) := by
      intro k hk' m len e
      obtain ⟨bad, ⟨m', e1, e2, e3, e4⟩, e5⟩ := hh k hk'
      rw [e] at e1; cases e1
      have hmem : (m, u8s (xss.getD k [])) ∈ is := List.mem_map.2 ⟨k, List.mem_range.2 hk', by simp only [e]⟩
      have hne : m ≠ mo := hnm _ hmem
      obtain ⟨y, hy⟩ : ∃ y, findI m is = some y := by
        have key : ∀ (ps : List (Nat × List AVal)), (m, u8s (xss.getD k [])) ∈ ps → ∃ y, findI m ps = some y := by
          intro ps
          induction ps with
          | nil => intro h; cases h
          | cons p ps ih =>
            intro h
            simp only [findI]
            by_cases hp : p.1 = m
            · exact ⟨_, if_pos hp⟩
            · rw [if_neg hp]
              rcases List.mem_cons.1 h with h | h
              · exact absurd (by rw [← h]) hp
              · exact ih h
        exact key is hmem
      have hyy : y = u8s (xss.getD k []) := by
        have := findI_some hy
        obtain ⟨k2, hk2, he2⟩ := List.mem_map.1 this
        obtain ⟨bad2, ⟨m2, f1, f2, f3, f4⟩, _⟩ := hh k2 (List.mem_range.1 hk2)
        simp only [f1, Prod.mk.injEq] at he2
        obtain ⟨rfl, rfl⟩ := he2
        rw [f4] at e4
        simp only [Option.some.injEq, ABlk.vec.injEq] at e4
        exact e4.1
      unfold toF
      rw [if_neg (by omega)]
      have : findN m [mo] H.length = none := by simp [findN]; exact fun e => hne e.symm
      rw [this, hy, hyy]
    have hmv : mvs (toF H.length [mo] is) cs = xss.map fun xs => nums .u8 false xs := by
      rw [mvs_map]
      refine List.ext_getElem (by simp [hxl]) fun k h1 h2 => ?_
      simp only [List.getElem_map]
      have hkc : k < cs.length := by simpa using h1
      have hkx : k < xss.length := by omega
      obtain ⟨bad, ⟨m, e1, e2, e3, e4⟩, e5⟩ := hh k hkc
      have ec : cs.getD k .junk = cs[k] := by simp [hkc]
      have ex : xss.getD k [] = xss[k] := by simp [hkx]
      have hf1 := hfind k hkc m _ e1
      rw [ec, ex] at e1
      rw [ex] at hf1
      rw [e1]
      simp only [mv, hf1, mvSlc, List.drop_zero]
      rw [List.take_of_length_le (by simp [u8s])]
      rfl
    have hleft := left_keeps hc hk [mo] is (by simpa using hmo) his (by simp)
    have hg : H'.getD mo .dead = .vec cs el 1 := by simp [List.getD_eq_getElem?_getD, hb]
    have hmo1 : toF H.length [mo] is mo = .keep H.length := by
      unfold toF
      rw [if_neg (by omega)]
      simp [findN]
    simp only [List.map_cons, List.map_nil, hg, mvBlk, hmv] at hleft
    refine ⟨_, _, hleft, ?_⟩
    simp only [mv, hmo1, mvSlc]
    have hlen := ho.len
    exact ice_vec (by simp; omega) (closeds_all fun a ha => by
      obtain ⟨xs, _, rfl⟩ := List.mem_map.1 ha
      exact closed_nums _ _ _) hq

abbrev rpartsC : Ctx := ⟨F.cuneiformref12_Parts, 41, [.tmp 4], none⟩

/-- What is known behind i bytes. -/
structure RInv (B : Nat) (H : AHeap) (ys : List Nat) (r i q : Nat) (a b : AVal) (cs : List AVal) : Prop where
  out : Own 1 T.sl_uint8 B H a q cs
  now : Own 1 T.uint8 B H b (i - q * r) (u8s ((ys.drop (q * r)).take (i - q * r)))
  apart : ∀ m ∈ a.names, m ∉ b.names
  hold : ∀ k, k < q → Holds B H (a.names ++ b.names) (cs.getD k .junk) (partP r ys k)

theorem rparts_loop (K : List AItem) (H0 : AHeap) (Q : AVal → AHeap → Prop) {t : Bool} {ys : List Nat} {r : Nat} (hr : 0 < r) (hlen : ys.length ≤ 1000000) (hrl : r ≤ 1000000)
    (hK : ∀ r' H a cs, Keeps H0 H → RInv H0.length H ys r ys.length (cntP ys.length r) a .nils cs → rget r' 5 = a → Run Try.prog rpartsC K r' H Q) :
    ∀ (m i q : Nat) (H : AHeap) (a b : AVal) (cs : List AVal), i + m = ys.length → Keeps H0 H → RInv H0.length H ys r i q a b cs → (i < ys.length → q * r ≤ i ∧ i < q * r + r) → (i = ys.length → q = cntP ys.length r ∧ b = .nils) →
    Rounds Try.prog rpartsC cuneiformref12_Parts.b0 [.inBlock 0] K [(0, nums .u8 t ys), (1, .int .i64 (r : Nat)), (5, a), (6, b), (7, .int .i64 (i : Nat))] H Q
  | 0, i, q, H, a, b, cs, h1, hk, hv, h3, h4 => by
    refine loop_V 100 cuneiformref12_Parts.b0.eq_1 ?_
    have hi : i = ys.length := by omega
    subst hi
    obtain ⟨rfl, rfl⟩ := h4 rfl
    simp (disch := first | omega | (simp only [List.length_append, List.length_cons, List.length_nil, List.length_set, List.length_map, List.length_take, List.length_drop]; omega)) only [stdh, goK_s2b, dgoK_s2b, isEff_s2b, isPure_s2b, goK_b2s, dgoK_b2s, isEff_b2s, isPure_b2s, evalOp_s2b, s2bR, goK_mark, dgoK_mark, isEff_mark, isPure_mark, evalOp_mark, markA_slc, markB, ↓reduceIte, Nat.reduceEqDiff, Int.reduceToNat, Int.reducePow, Nat.reduceAdd, Nat.reduceLeDiff, Nat.reduceMul, Nat.reduceBEq, reduceCtorEq]
    exact hK _ H a cs hk hv rfl
  | m + 1, i, q, H, a, b, cs, h1, hk, hv, h3, h4 => by
    refine loop_V 100 cuneiformref12_Parts.b0.eq_1 ?_
    have hi : i < ys.length := by omega
    obtain ⟨h2, hil⟩ := h3 hi
    obtain ⟨ho, hn, hap, hho⟩ := hv
    have hq1 : q ≤ i := Nat.le_trans (Nat.le_mul_of_pos_right q hr) h2
    have hel : (ys.drop (q * r)).take (i + 1 - q * r) = (ys.drop (q * r)).take (i - q * r) ++ [ys.getD i 0] := by
      rw [show i + 1 - q * r = (i - q * r) + 1 by omega, List.take_succ_eq_append_getElem (by rw [List.length_drop]; omega)]
      congr 2
      rw [List.getElem_drop, List.getD_eq_getElem?_getD, List.getElem?_eq_getElem (by omega)]
      simp only [Option.getD_some]
      congr 1; omega
    have hnl : ((ys.drop (q * r)).take (i - q * r)).length = i - q * r := by rw [List.length_take, List.length_drop]; omega
    generalize hqr : q * r = z at *
    obtain ⟨p1, a1, hp1⟩ := Own.append3 (H := H ++ [.vec [.int .u8 (ys.getD i 0 : Nat)] T.uint8 1]) (hn.keep ((Keeps.refl H).push _)) (x := .slc H.length 0 1 1) (k := 1) (ys := [.int .u8 (ys.getD i 0 : Nat)]) 1 rfl (by simp only [srcCells, view, at_0]; rfl) rfl (by omega) (by omega) (by omega) rfl
    have hbl : ∀ x ∈ b.names, x < H.length := fun x hx => (hn.lt x hx).2
    have hal : ∀ x ∈ a.names, x < H.length := fun x hx => (ho.lt x hx).2
    generalize hH2 : killA (H ++ [.vec [.int .u8 (ys.getD i 0 : Nat)] T.uint8 1]) b = H2 at *
    have hl2 : H2.length = H.length + 1 := by rw [← hH2, killA_len]; simp
    have hg2 : ∀ m, m < H.length → m ∉ b.names → H2[m]? = H[m]? := fun m h1 h2 => by rw [← hH2, killA_get h2, at_low h1]
    have hw : u8s ((ys.drop z).take (i - z)) ++ [.int .u8 (ys.getD i 0 : Nat)] = u8s ((ys.drop z).take (i + 1 - z)) := by rw [hel, u8s_append]; rfl
    rw [hw] at a1
    have hnl1 : ((ys.drop z).take (i + 1 - z)).length = i - z + 1 := by rw [hel, List.length_append, hnl]; rfl
    generalize hws : (ys.drop z).take (i + 1 - z) = ws at *
    generalize hH3 : H2 ++ [ABlk.vec (u8s ws) T.uint8 1] = H3 at *
    have hl3 : H3.length = H.length + 2 := by rw [← hH3]; simp; omega
    have hg3 : ∀ m, m < H.length → m ∉ b.names → H3[m]? = H[m]? := fun m h1 h2 => by rw [← hH3, at_low (by omega)]; exact hg2 m h1 h2
    have hn3 : H3[H.length + 1]? = some (.vec (u8s ws) T.uint8 1) := by rw [← hH3, ← hl2, at_0]; rfl
    have hk3 : Keeps H0 H3 := ⟨by have := hk.le; omega, fun n hn' => by rw [hg3 n (by have := hk.le; omega) (fun hm => by have := (hn.lt n hm).1; omega)]; exact hk.at_ n hn'⟩
    -- a part is whole
    obtain ⟨p2, a2, hp2⟩ := Own.append3 (H := H3 ++ [.vec [.slc (H.length + 1) 0 (i - z + 1) 1] T.sl_uint8 1]) (w := 1) (el := T.sl_uint8) (B := H0.length) (a := a) (n := q) (cs := cs) (ho.moved fun m hm => by rw [at_low (by have := hal m hm; omega)]; exact hg3 m (hal m hm) (hap m hm)) (x := .slc H3.length 0 1 1) (k := 1) (ys := [.slc (H.length + 1) 0 (i - z + 1) 1]) 24 rfl (by simp only [srcCells, view, at_0]; rfl) rfl (by omega) (by omega) (by omega) rfl
    have hna : H.length + 1 ∉ a.names := fun hm => by have := hal _ hm; omega
    have hg4 : ∀ m, m < H3.length → m ∉ a.names → (killA (H3 ++ [.vec [.slc (H.length + 1) 0 (i - z + 1) 1] T.sl_uint8 1]) a ++ [.vec (cs ++ [.slc (H.length + 1) 0 (i - z + 1) 1]) T.sl_uint8 1])[m]? = H3[m]? := fun m h1 h2 => by
      rw [at_low (by rw [killA_len]; simp; omega), killA_get h2, at_low h1]
    have hg5 : (killA (H3 ++ [.vec [.slc (H.length + 1) 0 (i - z + 1) 1] T.sl_uint8 1]) a ++ [.vec (cs ++ [.slc (H.length + 1) 0 (i - z + 1) 1]) T.sl_uint8 1])[H3.length + 1]? = some (.vec (cs ++ [.slc (H.length + 1) 0 (i - z + 1) 1]) T.sl_uint8 1) := by
      have : (killA (H3 ++ [.vec [.slc (H.length + 1) 0 (i - z + 1) 1] T.sl_uint8 1]) a).length = H3.length + 1 := by rw [killA_len]; simp
      rw [← this, at_0]; rfl
    have hcl : cs.length = q := by have := ho.len; omega
    have hz1 : (q + 1) * r = z + r := by rw [Nat.add_mul, Nat.one_mul, hqr]
    have push : (i + 1 - z = r ∨ i + 1 = ys.length) → Rounds Try.prog rpartsC cuneiformref12_Parts.b0 [.inBlock 0] K [(0, nums .u8 t ys), (1, .int .i64 (r : Nat)), (5, .slc (H3.length + 1) 0 (q + 1) 1), (6, .nils), (7, .int .i64 ((i : Int) + 1))]
        (killA (H3 ++ [.vec [.slc (H.length + 1) 0 (i - z + 1) 1] T.sl_uint8 1]) a ++ [.vec (cs ++ [.slc (H.length + 1) 0 (i - z + 1) 1]) T.sl_uint8 1]) Q := by
      intro hc
      have hpart : ws = partP r ys q := by
        rw [← hws, partP, hqr]
        rcases hc with hc | hc
        · rw [hc]
        · rw [List.take_of_length_le (by rw [List.length_drop]; omega), List.take_of_length_le (by rw [List.length_drop]; omega)]
      have hpl : (partP r ys q).length = i - z + 1 := by rw [← hpart]; exact hnl1
      generalize killA (H3 ++ [.vec [.slc (H.length + 1) 0 (i - z + 1) 1] T.sl_uint8 1]) a ++ [.vec (cs ++ [.slc (H.length + 1) 0 (i - z + 1) 1]) T.sl_uint8 1] = H4 at *
      refine rparts_loop K H0 Q hr hlen hrl hK m (i + 1) (q + 1) H4 _ _ (cs ++ [.slc (H.length + 1) 0 (i - z + 1) 1]) (by omega) ?_ ?_ ?_ ?_
      · have hlt4 : H3.length + 1 < H4.length := (List.getElem?_eq_some_iff.1 hg5).1
        exact ⟨by have := hk3.le; omega, fun n hn' => by
          rw [hg4 n (by have := hk3.le; omega) (fun hm => by have := (ho.lt n hm).1; omega)]; exact hk3.at_ n hn'⟩
      · refine ⟨⟨by simp [hcl], .inr ⟨H3.length + 1, by have := hk3.le; omega, rfl, hg5⟩⟩, ?_, by simp [AVal.names], fun k hk' => ?_⟩
        · rw [hz1, show i + 1 - (z + r) = 0 by omega, List.take_zero]
          exact Own.nil
        · by_cases hkq : k < q
          · have := hho k hkq
            rw [List.getD_eq_getElem?_getD, List.getElem?_append_left (by omega), ← List.getD_eq_getElem?_getD]
            refine this.moved (fun x h1 h2 => ?_) (fun x h1 h2 => ?_)
            · simp only [List.mem_append, not_or] at h2
              rw [hg4 x (by omega) h2.1, hg3 x h1 h2.2]
            · simp [AVal.names]; omega
          · have hkq' : k = q := by omega
            subst hkq'
            rw [List.getD_eq_getElem?_getD, List.getElem?_append_right (by omega), hcl, Nat.sub_self]
            refine ⟨H.length + 1, by rw [hpl]; rfl, by have := hk.le; omega, by simp [AVal.names]; omega, ?_⟩
            rw [hg4 _ (by omega) hna, hn3, hpart]
      · intro h5; rw [hz1]; omega
      · intro h5
        refine ⟨?_, rfl⟩
        have l1 := (cntP_lt (n := ys.length) (j := q) hr).2 (by rw [hqr]; omega)
        have l2 : ¬ q + 1 < cntP ys.length r := fun hh => by
          have := (cntP_lt (n := ys.length) (j := q + 1) hr).1 hh
          rw [hz1] at this; omega
        omega
    have e30 : ((i - z + 1 : Nat) : Int) = ((i - z : Nat) : Int) + 1 := by omega
    by_cases c1 : i + 1 - z = r
    · have d1 : ((i - z + 1 : Nat) : Int) = (r : Int) := by omega
      have d2 : decide (((i - z + 1 : Nat) : Int) = (r : Int)) = true := decide_eq_true d1
      simp (disch := first | omega | (simp only [List.length_append, List.length_cons, List.length_nil, List.length_set, List.length_map, List.length_take, List.length_drop]; omega)) only [stdh, goK_s2b, dgoK_s2b, isEff_s2b, isPure_s2b, goK_b2s, dgoK_b2s, isEff_b2s, isPure_b2s, evalOp_s2b, s2bR, goK_mark, dgoK_mark, isEff_mark, isPure_mark, evalOp_mark, markA_slc, markB, ↓reduceIte, Nat.reduceEqDiff, Int.reduceToNat, Int.reducePow, Nat.reduceAdd, Nat.reduceLeDiff, Nat.reduceMul, Nat.reduceBEq, reduceCtorEq, a1, hp1, d2, hH3, a2, hp2]
      exact push (.inl c1)
    · have d1 : ¬ ((i - z + 1 : Nat) : Int) = (r : Int) := by omega
      have d2 : decide (((i - z + 1 : Nat) : Int) = (r : Int)) = false := decide_eq_false d1
      by_cases c2 : i + 1 = ys.length
      · simp (disch := first | omega | (simp only [List.length_append, List.length_cons, List.length_nil, List.length_set, List.length_map, List.length_take, List.length_drop]; omega)) only [stdh, goK_s2b, dgoK_s2b, isEff_s2b, isPure_s2b, goK_b2s, dgoK_b2s, isEff_b2s, isPure_b2s, evalOp_s2b, s2bR, goK_mark, dgoK_mark, isEff_mark, isPure_mark, evalOp_mark, markA_slc, markB, ↓reduceIte, Nat.reduceEqDiff, Int.reduceToNat, Int.reducePow, Nat.reduceAdd, Nat.reduceLeDiff, Nat.reduceMul, Nat.reduceBEq, reduceCtorEq, a1, hp1, d2, hH3, a2, hp2]
        exact push (.inr c2)
      · simp (disch := first | omega | (simp only [List.length_append, List.length_cons, List.length_nil, List.length_set, List.length_map, List.length_take, List.length_drop]; omega)) only [stdh, goK_s2b, dgoK_s2b, isEff_s2b, isPure_s2b, goK_b2s, dgoK_b2s, isEff_b2s, isPure_b2s, evalOp_s2b, s2bR, goK_mark, dgoK_mark, isEff_mark, isPure_mark, evalOp_mark, markA_slc, markB, ↓reduceIte, Nat.reduceEqDiff, Int.reduceToNat, Int.reducePow, Nat.reduceAdd, Nat.reduceLeDiff, Nat.reduceMul, Nat.reduceBEq, reduceCtorEq, a1, hp1, d2, hH3]
        refine rparts_loop K H0 Q hr hlen hrl hK m (i + 1) q H3 a _ cs (by omega) hk3 ?_ ?_ ?_
        · refine ⟨ho.moved fun m hm => hg3 m (hal m hm) (hap m hm), ⟨by simp [u8s]; omega, .inr ⟨H.length + 1, by have := hk.le; omega, ?_, ?_⟩⟩, ?_, fun k hk' => ?_⟩
          · rw [hqr]; congr 1; omega
          · rw [hqr, hws]; exact hn3
          · intro x hx
            simp [AVal.names]
            intro e; exact hna (e ▸ hx)
          · refine (hho k hk').moved (fun x h1 h2 => ?_) (fun x h1 h2 => ?_)
            · simp only [List.mem_append, not_or] at h2
              exact hg3 x h1 h2.2
            · simp only [List.mem_append, not_or] at h2 ⊢
              exact ⟨h2.1, by simp [AVal.names]; omega⟩
        · intro h5; rw [hqr]; omega
        · intro h5; omega
end Go.Proofs.Ytncipoapdpenfaa

namespace Go.Proofs.Ytncipoapdpenfaa
open Go Go.Am
set_option linter.unusedSimpArgs false
set_option linter.unusedVariables false

def listsV (xss : List (List Nat)) : AVal := .imm (xss.map fun xs => nums .u8 false xs) xss.length false

theorem lists_len {xss : List (List Nat)} : slen (listsV xss) = some xss.length := rfl
theorem lists_some {H : AHeap} {xss : List (List Nat)} : (view H (listsV xss)).isSome = true := rfl
theorem lists_load {H : AHeap} {xss : List (List Nat)} {j : Nat} (hj : j < xss.length) : loadA H none (.sptr (listsV xss) j) = some (True, nums .u8 false (xss.getD j [])) := by
  rw [listsV, load_imm (by simpa using hj)]
  simp [List.getD_eq_getElem?_getD, hj]

theorem rparts_ok (H : AHeap) {t : Bool} {ys : List Nat} {r : Nat} (hr : 0 < r) (hlen : ys.length ≤ 1000000) (hrl : r ≤ 1000000) (Q : AVal → AHeap → Prop) (h : Q (listsV (partsP r ys (cntP ys.length r))) H) :
    FunOK Try.prog F.cuneiformref12_Parts [nums .u8 t ys, .int .i64 (r : Nat)] H Q := by
  refine fun_lists cuneiformref12_Parts_code fun _ => ?_
  refine fun_V 100 cuneiformref12_Parts_code rfl ?_
  simp (disch := first | omega | (simp only [List.length_append, List.length_cons, List.length_nil, List.length_set, List.length_map, List.length_take, List.length_drop]; omega)) only [stdh, goK_s2b, dgoK_s2b, isEff_s2b, isPure_s2b, goK_b2s, dgoK_b2s, isEff_b2s, isPure_b2s, evalOp_s2b, s2bR, goK_mark, dgoK_mark, isEff_mark, isPure_mark, evalOp_mark, markA_slc, markB, ↓reduceIte, Nat.reduceEqDiff, Int.reduceToNat, Int.reducePow, Nat.reduceAdd, Nat.reduceLeDiff, Nat.reduceMul, Nat.reduceBEq, reduceCtorEq, cuneiformref12_Parts, cuneiformref12_Parts.body]
  refine rparts_loop _ H _ hr hlen hrl ?_ ys.length 0 0 H .nils .nils [] (by omega) (Keeps.refl _) ⟨Own.nil, by simpa [u8s] using Own.nil, by simp [AVal.names], fun k hk => by omega⟩ (fun hh => by omega) (fun hh => ⟨by rw [← hh]; rfl, rfl⟩)
  intro r' H' a cs hk hv r5
  refine run_V0 60 ?_
  simp (disch := first | omega | (simp only [List.length_append, List.length_cons, List.length_nil, List.length_set, List.length_map, List.length_take, List.length_drop]; omega)) only [stdh, goK_s2b, dgoK_s2b, isEff_s2b, isPure_s2b, goK_b2s, dgoK_b2s, isEff_b2s, isPure_b2s, evalOp_s2b, s2bR, goK_mark, dgoK_mark, isEff_mark, isPure_mark, evalOp_mark, markA_slc, markB, ↓reduceIte, Nat.reduceEqDiff, Int.reduceToNat, Int.reducePow, Nat.reduceAdd, Nat.reduceLeDiff, Nat.reduceMul, Nat.reduceBEq, reduceCtorEq, r5]
  have hcl : cs.length = cntP ys.length r := by have := hv.out.len; omega
  refine ⟨T.sl_uint8, cntP ys.length r, cs, partsP r ys (cntP ys.length r), hv.out, by rw [partsP_len, hcl], fun k hk' => ?_, ?_⟩
  · refine ⟨a.names ++ AVal.nils.names, ?_, fun m hm => List.mem_append_left _ hm⟩
    have := hv.hold k (by omega)
    have e : (partsP r ys (cntP ys.length r)).getD k [] = partP r ys k := by
      simp [partsP, List.getD_eq_getElem?_getD, List.getElem?_range (show k < cntP ys.length r by omega)]
    rw [e]; exact this
  · have e : listsV (partsP r ys (cntP ys.length r)) = .imm ((partsP r ys (cntP ys.length r)).map fun xs => nums .u8 false xs) (cntP ys.length r) false := by rw [listsV, partsP_len]
    rw [← e]; exact h

abbrev rfrC : Ctx := ⟨F.cuneiformref12_Frames, 54, [.tmp 6, .tmp 7], none⟩

theorem checkOf_at {h : Hd} {i c : Nat} (hi : i < c) (hc : c ≤ 255) : checkOf (hdAt h (i : Nat) (c : Nat)) = checkOf (hdAt h 0 (c : Nat)) := by
  have b0 : bads (hdAt h (i : Nat) (c : Nat)) 0 = bads (hdAt h 0 (c : Nat)) 0 := rfl
  have b1 : bads (hdAt h (i : Nat) (c : Nat)) 1 = bads (hdAt h 0 (c : Nat)) 1 := rfl
  have b2 : bads (hdAt h (i : Nat) (c : Nat)) 2 = bads (hdAt h 0 (c : Nat)) 2 := by
    show decide ((c : Int) < 1 ∨ 255 < (c : Int) ∨ (i : Int) < 0 ∨ (c : Int) ≤ (i : Int)) = decide ((c : Int) < 1 ∨ 255 < (c : Int) ∨ (0 : Int) < 0 ∨ (c : Int) ≤ 0)
    exact decide_eq_decide.2 (by omega)
  unfold checkOf
  rw [b0, b1, b2]

theorem rfr_loop (K : List AItem) (H0 : AHeap) (Q : AVal → AHeap → Prop) {h : Hd} {ys : List Nat} {r c : Nat} (hc : c = cntP ys.length r) (hcl : c ≤ 255) {i0 c0 : AVal} {B p : Nat}
    (hp : p < H0.length) (hcell : H0[p]? = some (.cells [.int .i64 h.v, .int .i64 h.k, .int .u32 h.s, i0, c0] T.cuneiformref07_H)) (hic : i0.cellish = true ∧ c0.cellish = true)
    (hE : checkOf (hdAt h 0 (c : Nat)) ≠ 0 → ∀ H', Keeps H0 H' → Q (.tup [.nils, .int .i64 (checkOf (hdAt h 0 (c : Nat)) : Nat)]) H')
    (hK : checkOf (hdAt h 0 (c : Nat)) = 0 ∨ c = 0 → ∀ r' H' a, Keeps H0 H' → Own 6 T.cuneiformref08_F H0.length H' a c ((framesN h ys r c).flatMap encFr) → rget r' 9 = a → Run Try.prog rfrC K r' H' Q) :
    ∀ (m j : Nat) (H : AHeap) (a : AVal), j + m = c → Keeps H0 H → Own 6 T.cuneiformref08_F H0.length H a j ((framesN h ys r j).flatMap encFr) → (0 < j → checkOf (hdAt h 0 (c : Nat)) = 0) →
    Rounds Try.prog rfrC cuneiformref12_Frames.b1 [.inBlock 0] K [(3, .ptr p 0), (8, listsV (partsP r ys c)), (9, a), (10, .int .i64 (j : Nat))] H Q
  | 0, j, H, a, h1, hk, ha, hz => by
    refine loop_V 100 cuneiformref12_Frames.b1.eq_1 ?_
    have hj : j = c := by omega
    subst hj
    have hl : slen (listsV (partsP r ys j)) = some j := by rw [lists_len, partsP_len]
    simp (disch := first | omega | (simp only [List.length_append, List.length_cons, List.length_nil, List.length_set, List.length_map, List.length_take, List.length_drop]; omega)) only [stdh, goK_s2b, dgoK_s2b, isEff_s2b, isPure_s2b, goK_b2s, dgoK_b2s, isEff_b2s, isPure_b2s, evalOp_s2b, s2bR, goK_mark, dgoK_mark, isEff_mark, isPure_mark, evalOp_mark, markA_slc, markB, ↓reduceIte, Nat.reduceEqDiff, Int.reduceToNat, Int.reducePow, Nat.reduceAdd, Nat.reduceLeDiff, Nat.reduceMul, Nat.reduceBEq, reduceCtorEq, hl]
    exact hK (by omega) _ H a hk ha rfl
  | m + 1, j, H, a, h1, hk, ha, hz => by
    refine loop_V 200 cuneiformref12_Frames.b1.eq_1 ?_
    have hj : j < c := by omega
    have hl : slen (listsV (partsP r ys c)) = some c := by rw [lists_len, partsP_len]
    have hv : ∀ H' : AHeap, (view H' (listsV (partsP r ys c))).isSome = true := fun _ => rfl
    have hpj : (partsP r ys c).getD j [] = partP r ys j := by
      simp [partsP, List.getD_eq_getElem?_getD, List.getElem?_range hj]
    have hld : ∀ H' : AHeap, loadA H' none (.sptr (listsV (partsP r ys c)) j) = some (True, nums .u8 false (partP r ys j)) := fun H' => by rw [lists_load (by rw [partsP_len]; exact hj), hpj]
    have hc1 : H[p]? = some (.cells [.int .i64 h.v, .int .i64 h.k, .int .u32 h.s, i0, c0] T.cuneiformref07_H) := hk.get hcell
    have hpl : p < H.length := by have := hk.le; omega
    have hck := checkOf_at (h := h) hj hcl
    have hfs : framesN h ys r (j + 1) = framesN h ys r j ++ [⟨hdAt h (j : Nat) (c : Nat), partP r ys j⟩] := by rw [framesN_succ, frAt, hc]
    generalize hX : partsP r ys c = X at *
    simp (disch := first | omega | (simp only [List.length_append, List.length_cons, List.length_nil, List.length_set, List.length_map, List.length_take, List.length_drop]; omega)) only [stdh, goK_s2b, dgoK_s2b, isEff_s2b, isPure_s2b, goK_b2s, dgoK_b2s, isEff_b2s, isPure_b2s, evalOp_s2b, s2bR, goK_mark, dgoK_mark, isEff_mark, isPure_mark, evalOp_mark, markA_slc, markB, ↓reduceIte, Nat.reduceEqDiff, Int.reduceToNat, Int.reducePow, Nat.reduceAdd, Nat.reduceLeDiff, Nat.reduceMul, Nat.reduceBEq, reduceCtorEq, hl, hc1, hic.1, hic.2, at_low]
    refine callK_fn (rcheck_ok _ (hdAt h (j : Nat) (c : Nat)) _ ?_)
    rw [hck]
    refine runL_V 160 ?_
    by_cases he : checkOf (hdAt h 0 (c : Nat)) = 0
    · rw [he]
      obtain ⟨p1, a1, hp1⟩ := Own.append3 (H := H ++ [.cells [.int .i64 h.v, .int .i64 h.k, .int .u32 h.s, .int .i64 (j : Nat), .int .i64 (c : Nat)] T.cuneiformref07_H, .vec (encFr ⟨hdAt h (j : Nat) (c : Nat), partP r ys j⟩) T.cuneiformref08_F 6]) (ha.keep (keeps_append _ _)) (x := .slc (H.length + 1) 0 1 6) (k := 1) (ys := encFr ⟨hdAt h (j : Nat) (c : Nat), partP r ys j⟩) 64 rfl (by simp only [srcCells, view, at_k]; rfl) rfl (by omega) (by omega) (by omega) (encFr_cellish _)
      have hl3 := killA_len (H ++ [ABlk.cells [.int .i64 h.v, .int .i64 h.k, .int .u32 h.s, .int .i64 (j : Nat), .int .i64 (c : Nat)] T.cuneiformref07_H, .vec (encFr ⟨hdAt h (j : Nat) (c : Nat), partP r ys j⟩) T.cuneiformref08_F 6]) a
      simp only [List.length_append, List.length_cons, List.length_nil] at hl3
      have e2 : ([.int .i64 h.v, .int .i64 h.k, .int .u32 h.s, .int .i64 (j : Nat), .int .i64 (c : Nat), nums .u8 false (partP r ys j)] : List AVal) = encFr ⟨hdAt h (j : Nat) (c : Nat), partP r ys j⟩ := rfl
      rw [← e2] at a1 hl3
      simp (disch := first | omega | (simp only [List.length_append, List.length_cons, List.length_nil, List.length_set, List.length_map, List.length_take, List.length_drop]; omega)) only [stdh, goK_s2b, dgoK_s2b, isEff_s2b, isPure_s2b, goK_b2s, dgoK_b2s, isEff_b2s, isPure_b2s, evalOp_s2b, s2bR, goK_mark, dgoK_mark, isEff_mark, isPure_mark, evalOp_mark, markA_slc, markB, ↓reduceIte, Nat.reduceEqDiff, Int.reduceToNat, Int.reducePow, Nat.reduceAdd, Nat.reduceLeDiff, Nat.reduceMul, Nat.reduceBEq, reduceCtorEq, cuneiformref12_Frames.d0, hv, hld, hl, a1, hp1]
      rw [← hX]
      refine rfr_loop K H0 Q hc hcl (B := B) hp hcell hic hE hK m (j + 1) _ _ (by omega) ?_ ?_ (fun _ => he)
      · refine ⟨by have := hk.le; simp; omega, fun n hn => ?_⟩
        rw [at_low (by have := hk.le; omega), killA_get (fun hm => by have := (ha.lt n hm).1; omega), at_low (by have := hk.le; omega)]
        exact hk.at_ n hn
      · rw [hfs, enc_flat_append]
        refine ⟨?_, .inr ⟨H.length + 2, by have := hk.le; omega, rfl, ?_⟩⟩
        · have := ha.len
          simp only [List.length_append, this, encFr_len]; omega
        · rw [← hl3, at_0]; rfl
    · simp (disch := first | omega | (simp only [List.length_append, List.length_cons, List.length_nil, List.length_set, List.length_map, List.length_take, List.length_drop]; omega)) only [stdh, goK_s2b, dgoK_s2b, isEff_s2b, isPure_s2b, goK_b2s, dgoK_b2s, isEff_b2s, isPure_b2s, evalOp_s2b, s2bR, goK_mark, dgoK_mark, isEff_mark, isPure_mark, evalOp_mark, markA_slc, markB, ↓reduceIte, Nat.reduceEqDiff, Int.reduceToNat, Int.reducePow, Nat.reduceAdd, Nat.reduceLeDiff, Nat.reduceMul, Nat.reduceBEq, reduceCtorEq]
      refine callK_fn (rcheck_ok _ (hdAt h (j : Nat) (c : Nat)) _ ?_)
      rw [hck]
      refine runL_V 160 ?_
      simp (disch := first | omega | (simp only [List.length_append, List.length_cons, List.length_nil, List.length_set, List.length_map, List.length_take, List.length_drop]; omega)) only [stdh, goK_s2b, dgoK_s2b, isEff_s2b, isPure_s2b, goK_b2s, dgoK_b2s, isEff_b2s, isPure_b2s, evalOp_s2b, s2bR, goK_mark, dgoK_mark, isEff_mark, isPure_mark, evalOp_mark, markA_slc, markB, ↓reduceIte, Nat.reduceEqDiff, Int.reduceToNat, Int.reducePow, Nat.reduceAdd, Nat.reduceLeDiff, Nat.reduceMul, Nat.reduceBEq, reduceCtorEq]
      exact hE he _ (hk.trans (keeps_append _ _))

theorem rframes_ok (H : AHeap) (h : Hd) {ys : List Nat} (hlen : ys.length ≤ 1000) {room : Int} (hroom : -9223372036854775808 ≤ room ∧ room < 9223372036854775808) (Q : AVal → AHeap → Prop)
    (hq : Q (.tup [recs encFr false (framesOf h ys room), .int .i64 (frameErr h ys room : Nat)]) H) :
    FunOK Try.prog F.cuneiformref12_Frames [.agg (encHd h), nums .u8 false ys, .int .i64 room] H Q := by
  refine fun_iced cuneiformref12_Frames_code fun _ => ?_
  refine fun_V 100 cuneiformref12_Frames_code rfl ?_
  have hnil : ∀ (H' : AHeap) (e : Nat), Keeps H H' → frameErr h ys room = e → e ≠ 0 → IceQ H Q (.tup [.nils, .int .i64 (e : Nat)]) H' := fun H' e hk he h0 => by
    rw [framesOf, if_neg (by omega), he] at hq
    exact ice_tup [(.nils, .imm [] 0 false), (.int .i64 e, .int .i64 e)] hk (by
      intro p hp
      simp only [List.mem_cons, List.not_mem_nil, or_false] at hp
      rcases hp with rfl | rfl
      · exact Fin.own (w := 1) (el := 0) Own.nil trivial
      · exact Fin.same trivial) hq
  by_cases c0 : ys.length = 0
  · have he : frameErr h ys room = 13 := by unfold frameErr; rw [if_pos c0]
    simp (disch := first | omega | (simp only [List.length_append, List.length_cons, List.length_nil, List.length_set, List.length_map, List.length_take, List.length_drop]; omega)) only [stdh, goK_s2b, dgoK_s2b, isEff_s2b, isPure_s2b, goK_b2s, dgoK_b2s, isEff_b2s, isPure_b2s, evalOp_s2b, s2bR, goK_mark, dgoK_mark, isEff_mark, isPure_mark, evalOp_mark, markA_slc, markB, ↓reduceIte, Nat.reduceEqDiff, Int.reduceToNat, Int.reducePow, Nat.reduceAdd, Nat.reduceLeDiff, Nat.reduceMul, Nat.reduceBEq, reduceCtorEq, cuneiformref12_Frames, cuneiformref12_Frames.body, encHd, c0]
    exact hnil _ 13 (keeps_append _ _) he (by omega)
  by_cases c1 : 192 < ys.length
  · have he : frameErr h ys room = 2 := by unfold frameErr; rw [if_neg c0, if_pos c1]
    simp (disch := first | omega | (simp only [List.length_append, List.length_cons, List.length_nil, List.length_set, List.length_map, List.length_take, List.length_drop]; omega)) only [stdh, goK_s2b, dgoK_s2b, isEff_s2b, isPure_s2b, goK_b2s, dgoK_b2s, isEff_b2s, isPure_b2s, evalOp_s2b, s2bR, goK_mark, dgoK_mark, isEff_mark, isPure_mark, evalOp_mark, markA_slc, markB, ↓reduceIte, Nat.reduceEqDiff, Int.reduceToNat, Int.reducePow, Nat.reduceAdd, Nat.reduceLeDiff, Nat.reduceMul, Nat.reduceBEq, reduceCtorEq, cuneiformref12_Frames, cuneiformref12_Frames.body, encHd]
    exact hnil _ 2 (keeps_append _ _) he (by omega)
  by_cases c2 : room < 1
  · have he : frameErr h ys room = 5 := by unfold frameErr; rw [if_neg c0, if_neg c1, if_pos (.inl c2)]
    simp (disch := first | omega | (simp only [List.length_append, List.length_cons, List.length_nil, List.length_set, List.length_map, List.length_take, List.length_drop]; omega)) only [stdh, goK_s2b, dgoK_s2b, isEff_s2b, isPure_s2b, goK_b2s, dgoK_b2s, isEff_b2s, isPure_b2s, evalOp_s2b, s2bR, goK_mark, dgoK_mark, isEff_mark, isPure_mark, evalOp_mark, markA_slc, markB, ↓reduceIte, Nat.reduceEqDiff, Int.reduceToNat, Int.reducePow, Nat.reduceAdd, Nat.reduceLeDiff, Nat.reduceMul, Nat.reduceBEq, reduceCtorEq, cuneiformref12_Frames, cuneiformref12_Frames.body, encHd]
    exact hnil _ 5 (keeps_append _ _) he (by omega)
  by_cases c3 : 242 < room
  · have he : frameErr h ys room = 5 := by unfold frameErr; rw [if_neg c0, if_neg c1, if_pos (.inr c3)]
    simp (disch := first | omega | (simp only [List.length_append, List.length_cons, List.length_nil, List.length_set, List.length_map, List.length_take, List.length_drop]; omega)) only [stdh, goK_s2b, dgoK_s2b, isEff_s2b, isPure_s2b, goK_b2s, dgoK_b2s, isEff_b2s, isPure_b2s, evalOp_s2b, s2bR, goK_mark, dgoK_mark, isEff_mark, isPure_mark, evalOp_mark, markA_slc, markB, ↓reduceIte, Nat.reduceEqDiff, Int.reduceToNat, Int.reducePow, Nat.reduceAdd, Nat.reduceLeDiff, Nat.reduceMul, Nat.reduceBEq, reduceCtorEq, cuneiformref12_Frames, cuneiformref12_Frames.body, encHd]
    exact hnil _ 5 (keeps_append _ _) he (by omega)
  obtain ⟨r, rfl⟩ : ∃ r : Nat, room = r := ⟨room.toNat, by omega⟩
  have he : frameErr h ys (r : Int) = checkOf (hdAt h 0 (cntP ys.length r : Nat)) := by unfold frameErr; rw [if_neg c0, if_neg c1, if_neg (by omega), Int.toNat_natCast]
  simp (disch := first | omega | (simp only [List.length_append, List.length_cons, List.length_nil, List.length_set, List.length_map, List.length_take, List.length_drop]; omega)) only [stdh, goK_s2b, dgoK_s2b, isEff_s2b, isPure_s2b, goK_b2s, dgoK_b2s, isEff_b2s, isPure_b2s, evalOp_s2b, s2bR, goK_mark, dgoK_mark, isEff_mark, isPure_mark, evalOp_mark, markA_slc, markB, ↓reduceIte, Nat.reduceEqDiff, Int.reduceToNat, Int.reducePow, Nat.reduceAdd, Nat.reduceLeDiff, Nat.reduceMul, Nat.reduceBEq, reduceCtorEq, cuneiformref12_Frames, cuneiformref12_Frames.body, encHd]
  refine callK_fn (rparts_ok _ (by omega) (by omega) (by omega) _ ?_)
  refine runL_V 60 ?_
  simp (disch := first | omega | (simp only [List.length_append, List.length_cons, List.length_nil, List.length_set, List.length_map, List.length_take, List.length_drop]; omega)) only [stdh, goK_s2b, dgoK_s2b, isEff_s2b, isPure_s2b, goK_b2s, dgoK_b2s, isEff_b2s, isPure_b2s, evalOp_s2b, s2bR, goK_mark, dgoK_mark, isEff_mark, isPure_mark, evalOp_mark, markA_slc, markB, ↓reduceIte, Nat.reduceEqDiff, Int.reduceToNat, Int.reducePow, Nat.reduceAdd, Nat.reduceLeDiff, Nat.reduceMul, Nat.reduceBEq, reduceCtorEq]
  have hcl := cntP_le (n := ys.length) (show 0 < r by omega)
  have hcp := cntP_pos (n := ys.length) (r := r) (by omega)
  refine rfr_loop _ (H ++ [ABlk.cells [.int .i64 h.v, .int .i64 h.k, .int .u32 h.s, .int .i64 h.i, .int .i64 h.c] T.cuneiformref07_H]) _ (h := h) (ys := ys) (r := r) (c := cntP ys.length r) rfl (by omega) (B := 0) (p := H.length) (by simp) at_0 ⟨rfl, rfl⟩ ?_ ?_ (cntP ys.length r) 0 _ .nils (by omega) (Keeps.refl _) Own.nil (fun hh => by omega)
  · intro hz H' hk
    exact hnil H' _ ((keeps_append H _).trans hk) he hz
  · intro hz r' H' a hk ha r9
    have hz0 : checkOf (hdAt h 0 (cntP ys.length r : Nat)) = 0 := by omega
    have hfo : framesOf h ys (r : Int) = framesN h ys r (cntP ys.length r) := by unfold framesOf; rw [he, if_pos hz0, Int.toNat_natCast]
    rw [he, hz0, hfo] at hq
    refine run_V0 60 ?_
    simp (disch := first | omega | (simp only [List.length_append, List.length_cons, List.length_nil, List.length_set, List.length_map, List.length_take, List.length_drop]; omega)) only [stdh, goK_s2b, dgoK_s2b, isEff_s2b, isPure_s2b, goK_b2s, dgoK_b2s, isEff_b2s, isPure_b2s, evalOp_s2b, s2bR, goK_mark, dgoK_mark, isEff_mark, isPure_mark, evalOp_mark, markA_slc, markB, ↓reduceIte, Nat.reduceEqDiff, Int.reduceToNat, Int.reducePow, Nat.reduceAdd, Nat.reduceLeDiff, Nat.reduceMul, Nat.reduceBEq, reduceCtorEq, r9]
    have hkH : Keeps H H' := (keeps_append H _).trans hk
    exact ice_tup [(a, recs encFr false (framesN h ys r (cntP ys.length r))), (.int .i64 0, .int .i64 0)] hkH (by
      intro p hp
      simp only [List.mem_cons, List.not_mem_nil, or_false] at hp
      rcases hp with rfl | rfl
      · have ho : Own 6 T.cuneiformref08_F H.length H' a (cntP ys.length r) ((framesN h ys r (cntP ys.length r)).flatMap encFr) := by
          refine ⟨ha.len, ?_⟩
          rcases ha.is with hh | ⟨m, h1, h2, h3⟩
          · exact .inl hh
          · refine .inr ⟨m, ?_, h2, h3⟩
            simp at h1; omega
        have := Fin.own ho (flat_closed _)
        rw [recs, framesN_len]; exact this
      · exact Fin.same trivial) hq
end Go.Proofs.Ytncipoapdpenfaa

namespace Go.Proofs.Ytncipoapdpenfaa
open Go Go.Am
set_option linter.unusedSimpArgs false
set_option linter.unusedVariables false

theorem eq_heads (a : Hd) : eqA (.cells [.int, .int, .int, .int, .int]) (.agg (encHd a)) (.agg (encHd a)) = some true := by
  simp [encHd, eqA, eqCells, eqCell]

theorem fsame_ok (H : AHeap) (f : Fr) (hb : f.b.length ≤ 1000000) (Q : AVal → AHeap → Prop) (h : Q (.bool true) H) : FunOK Try.prog F.cuneiformref08_Same [.agg (encFr f), .agg (encFr f)] H Q := by
  refine fun_iced cuneiformref08_Same_code fun _ => ?_
  refine fun_V 100 cuneiformref08_Same_code rfl ?_
  have hc := encFr_cellish f
  have e1 : ((encFr f).drop 0).take 5 = encHd f.h := rfl
  have e2 : (encFr f).take 5 = encHd f.h := rfl
  have e3 : (encFr f).getD 5 .junk = nums .u8 false f.b := rfl
  have el : (encFr f).length = 6 := rfl
  have he := eq_heads f.h
  simp (disch := first | omega | (simp only [List.length_append, List.length_cons, List.length_nil, List.length_set, List.length_map, List.length_take, List.length_drop]; omega)) only [stdh, goK_s2b, dgoK_s2b, isEff_s2b, isPure_s2b, goK_b2s, dgoK_b2s, isEff_b2s, isPure_b2s, evalOp_s2b, s2bR, goK_mark, dgoK_mark, isEff_mark, isPure_mark, evalOp_mark, markA_slc, markB, ↓reduceIte, Nat.reduceEqDiff, Int.reduceToNat, Int.reducePow, Nat.reduceAdd, Nat.reduceLeDiff, Nat.reduceMul, Nat.reduceBEq, reduceCtorEq, cuneiformref08_Same, cuneiformref08_Same.body, hc, e1, e2, e3, el, he]
  refine callK_fn (same_ok _ (nums_nats _ _ _ _) (nums_nats _ _ _ _) (by omega) _ ?_)
  rw [show decide (f.b = f.b) = true by simp]
  refine runL_V 60 ?_
  simp (disch := first | omega | (simp only [List.length_append, List.length_cons, List.length_nil, List.length_set, List.length_map, List.length_take, List.length_drop]; omega)) only [stdh, goK_s2b, dgoK_s2b, isEff_s2b, isPure_s2b, goK_b2s, dgoK_b2s, isEff_b2s, isPure_b2s, evalOp_s2b, s2bR, goK_mark, dgoK_mark, isEff_mark, isPure_mark, evalOp_mark, markA_slc, markB, ↓reduceIte, Nat.reduceEqDiff, Int.reduceToNat, Int.reducePow, Nat.reduceAdd, Nat.reduceLeDiff, Nat.reduceMul, Nat.reduceBEq, reduceCtorEq]
  exact ice_none trivial h

abbrev lsC : Ctx := ⟨F.cuneiformlaw12_Same, 28, [.tmp 4], none⟩

theorem ls_loop (K : List AItem) (H : AHeap) (Q : AVal → AHeap → Prop) {t t' : Bool} {fs : List Fr} (hlen : fs.length ≤ 1000000) (hb : ∀ f ∈ fs, f.b.length ≤ 1000000) (hK : ∀ r', Run Try.prog lsC K r' H Q) :
    ∀ (m j : Nat), j + m = fs.length → Rounds Try.prog lsC cuneiformlaw12_Same.b1 [.inBlock 0] K [(0, recs encFr t fs), (1, recs encFr t' fs), (5, .int .i64 (j : Nat))] H Q
  | 0, j, h1 => by
    refine loop_V 100 cuneiformlaw12_Same.b1.eq_1 ?_
    simp (disch := first | omega | (simp only [List.length_append, List.length_cons, List.length_nil, List.length_set, List.length_map, List.length_take, List.length_drop]; omega)) only [stdh, goK_s2b, dgoK_s2b, isEff_s2b, isPure_s2b, goK_b2s, dgoK_b2s, isEff_b2s, isPure_b2s, evalOp_s2b, s2bR, goK_mark, dgoK_mark, isEff_mark, isPure_mark, evalOp_mark, markA_slc, markB, ↓reduceIte, Nat.reduceEqDiff, Int.reduceToNat, Int.reducePow, Nat.reduceAdd, Nat.reduceLeDiff, Nat.reduceMul, Nat.reduceBEq, reduceCtorEq]
    exact hK _
  | m + 1, j, h1 => by
    refine loop_V 100 cuneiformlaw12_Same.b1.eq_1 ?_
    have hj : j < fs.length := by omega
    have hld : ∀ (H' : AHeap) (t : Bool), loadA H' (some 6) (.sptr (recs encFr t fs) (j * 6)) = some (True, .agg (encFr (fs.getD j default))) := fun H' t => frs_recs.loadN (o := 0) (n := 6) hj (by omega)
    have hbj : (fs.getD j default).b.length ≤ 1000000 := by
      rw [List.getD_eq_getElem?_getD, List.getElem?_eq_getElem hj]; exact hb _ (List.getElem_mem hj)
    generalize fs.getD j default = f at *
    simp (disch := first | omega | (simp only [List.length_append, List.length_cons, List.length_nil, List.length_set, List.length_map, List.length_take, List.length_drop]; omega)) only [stdh, goK_s2b, dgoK_s2b, isEff_s2b, isPure_s2b, goK_b2s, dgoK_b2s, isEff_b2s, isPure_b2s, evalOp_s2b, s2bR, goK_mark, dgoK_mark, isEff_mark, isPure_mark, evalOp_mark, markA_slc, markB, ↓reduceIte, Nat.reduceEqDiff, Int.reduceToNat, Int.reducePow, Nat.reduceAdd, Nat.reduceLeDiff, Nat.reduceMul, Nat.reduceBEq, reduceCtorEq, cuneiformlaw12_Same.d0, hld]
    refine callD_fn (of_ok _ f _ ?_)
    refine ⟨by simp (disch := first | omega | (simp only [List.length_append, List.length_cons, List.length_nil, List.length_set, List.length_map, List.length_take, List.length_drop]; omega)) only [stdh, goK_s2b, dgoK_s2b, isEff_s2b, isPure_s2b, goK_b2s, dgoK_b2s, isEff_b2s, isPure_b2s, evalOp_s2b, s2bR, goK_mark, dgoK_mark, isEff_mark, isPure_mark, evalOp_mark, markA_slc, markB, ↓reduceIte, Nat.reduceEqDiff, Int.reduceToNat, Int.reducePow, Nat.reduceAdd, Nat.reduceLeDiff, Nat.reduceMul, Nat.reduceBEq, reduceCtorEq, hld], ?_⟩
    refine runD_V 60 ?_
    simp (disch := first | omega | (simp only [List.length_append, List.length_cons, List.length_nil, List.length_set, List.length_map, List.length_take, List.length_drop]; omega)) only [stdh, goK_s2b, dgoK_s2b, isEff_s2b, isPure_s2b, goK_b2s, dgoK_b2s, isEff_b2s, isPure_b2s, evalOp_s2b, s2bR, goK_mark, dgoK_mark, isEff_mark, isPure_mark, evalOp_mark, markA_slc, markB, ↓reduceIte, Nat.reduceEqDiff, Int.reduceToNat, Int.reducePow, Nat.reduceAdd, Nat.reduceLeDiff, Nat.reduceMul, Nat.reduceBEq, reduceCtorEq, hld]
    refine callD_fn (fsame_ok _ f hbj _ ?_)
    refine ⟨by simp (disch := first | omega | (simp only [List.length_append, List.length_cons, List.length_nil, List.length_set, List.length_map, List.length_take, List.length_drop]; omega)) only [stdh, goK_s2b, dgoK_s2b, isEff_s2b, isPure_s2b, goK_b2s, dgoK_b2s, isEff_b2s, isPure_b2s, evalOp_s2b, s2bR, goK_mark, dgoK_mark, isEff_mark, isPure_mark, evalOp_mark, markA_slc, markB, ↓reduceIte, Nat.reduceEqDiff, Int.reduceToNat, Int.reducePow, Nat.reduceAdd, Nat.reduceLeDiff, Nat.reduceMul, Nat.reduceBEq, reduceCtorEq], ?_⟩
    refine runD_V 60 ?_
    simp (disch := first | omega | (simp only [List.length_append, List.length_cons, List.length_nil, List.length_set, List.length_map, List.length_take, List.length_drop]; omega)) only [stdh, goK_s2b, dgoK_s2b, isEff_s2b, isPure_s2b, goK_b2s, dgoK_b2s, isEff_b2s, isPure_b2s, evalOp_s2b, s2bR, goK_mark, dgoK_mark, isEff_mark, isPure_mark, evalOp_mark, markA_slc, markB, ↓reduceIte, Nat.reduceEqDiff, Int.reduceToNat, Int.reducePow, Nat.reduceAdd, Nat.reduceLeDiff, Nat.reduceMul, Nat.reduceBEq, reduceCtorEq]
    exact ls_loop K H Q hlen hb hK m (j + 1) (by omega)

theorem lsame_ok (H : AHeap) {t t' : Bool} {fs : List Fr} (hlen : fs.length ≤ 1000000) (hb : ∀ f ∈ fs, f.b.length ≤ 1000000) (Q : AVal → AHeap → Prop) (h : Q (.bool true) H) :
    FunOK Try.prog F.cuneiformlaw12_Same [recs encFr t fs, recs encFr t' fs] H Q := by
  refine fun_V 100 cuneiformlaw12_Same_code rfl ?_
  simp (disch := first | omega | (simp only [List.length_append, List.length_cons, List.length_nil, List.length_set, List.length_map, List.length_take, List.length_drop]; omega)) only [stdh, goK_s2b, dgoK_s2b, isEff_s2b, isPure_s2b, goK_b2s, dgoK_b2s, isEff_b2s, isPure_b2s, evalOp_s2b, s2bR, goK_mark, dgoK_mark, isEff_mark, isPure_mark, evalOp_mark, markA_slc, markB, ↓reduceIte, Nat.reduceEqDiff, Int.reduceToNat, Int.reducePow, Nat.reduceAdd, Nat.reduceLeDiff, Nat.reduceMul, Nat.reduceBEq, reduceCtorEq, cuneiformlaw12_Same, cuneiformlaw12_Same.body]
  refine ls_loop _ H Q hlen hb ?_ fs.length 0 (by omega)
  intro r'
  refine run_V0 60 ?_
  simp (disch := first | omega | (simp only [List.length_append, List.length_cons, List.length_nil, List.length_set, List.length_map, List.length_take, List.length_drop]; omega)) only [stdh, goK_s2b, dgoK_s2b, isEff_s2b, isPure_s2b, goK_b2s, dgoK_b2s, isEff_b2s, isPure_b2s, evalOp_s2b, s2bR, goK_mark, dgoK_mark, isEff_mark, isPure_mark, evalOp_mark, markA_slc, markB, ↓reduceIte, Nat.reduceEqDiff, Int.reduceToNat, Int.reducePow, Nat.reduceAdd, Nat.reduceLeDiff, Nat.reduceMul, Nat.reduceBEq, reduceCtorEq]
  exact h

/-! ### What frames make -/

theorem framesN_wrong {h : Hd} {ys : List Nat} {r : Nat} : ∀ (m j : Nat) (fs : List Fr), fs = (List.range m).map (fun i => frAt h ys r (j + i)) → wrongOf (hdAt h 0 (cntP ys.length r : Nat)) j fs = 0
  | 0, j, fs, e => by subst e; rfl
  | m + 1, j, fs, e => by
    subst e
    rw [List.range_succ_eq_map, List.map_cons, wrongOf]
    have hm : mates (frAt h ys r (j + 0)).h (hdAt h 0 (cntP ys.length r : Nat)) = true := by simp [mates, frAt, hdAt]
    rw [hm, if_neg (by decide), if_neg (by simp [frAt, hdAt])]
    refine framesN_wrong m (j + 1) _ ?_
    rw [List.map_map]
    refine List.map_congr_left fun i _ => ?_
    simp only [Function.comp]
    congr 1; omega

theorem framesN_flat {h : Hd} {ys : List Nat} {r : Nat} (k : Nat) : (framesN h ys r k).flatMap Fr.b = (partsP r ys k).flatten := by
  simp [framesN, partsP, List.flatMap, frAt, Function.comp_def]

theorem mates_index {a b : Hd} (c : Hd) (h : a.v = b.v ∧ a.k = b.k ∧ a.s = b.s ∧ a.c = b.c) : mates c a = mates c b := by
  obtain ⟨h1, h2, h3, h4⟩ := h
  simp [mates, h1, h2, h3, h4]
theorem wrongOf_index {a b : Hd} (h : a.v = b.v ∧ a.k = b.k ∧ a.s = b.s ∧ a.c = b.c) : ∀ (fs : List Fr) (i : Nat), wrongOf a i fs = wrongOf b i fs
  | [], _ => rfl
  | f :: fs, i => by simp only [wrongOf, mates_index f.h h, wrongOf_index h fs]

theorem whole_frames {h : Hd} {ys : List Nat} {r : Nat} (hr : 0 < r) (hy : 0 < ys.length) : wholeOf (framesN h ys r (cntP ys.length r)) = (ys, 0) := by
  have hc := cntP_pos (n := ys.length) (r := r) hy
  have hfl : (framesN h ys r (cntP ys.length r)).flatMap Fr.b = ys := by rw [framesN_flat, partsP_whole hr]
  have hg : (framesN h ys r (cntP ys.length r)).getD 0 default = frAt h ys r 0 := by
    simp [framesN, List.getD_eq_getElem?_getD, List.getElem?_range (show 0 < cntP ys.length r by omega)]
  have hw : wrongOf (frAt h ys r 0).h 0 (framesN h ys r (cntP ys.length r)) = 0 := by
    rw [wrongOf_index (a := (frAt h ys r 0).h) (b := hdAt h 0 (cntP ys.length r : Nat)) ⟨rfl, rfl, rfl, rfl⟩]
    exact framesN_wrong (cntP ys.length r) 0 _ (by simp [framesN])
  have hl := framesN_len (h := h) (ys := ys) (r := r) (k := cntP ys.length r)
  have hne : framesN h ys r (cntP ys.length r) ≠ [] := fun e => by rw [e] at hl; simp at hl; omega
  have hcc : (frAt h ys r 0).h.c = ((cntP ys.length r : Nat) : Int) := rfl
  unfold wholeOf
  rw [hg, hw, hl, hcc, if_neg (by decide), if_neg (by simp only [not_or]; exact ⟨hne, by omega⟩), if_neg (by omega), hfl]

theorem framesOf_b {h : Hd} {ys : List Nat} {room : Int} (hy : ys.length ≤ 1000) : ∀ f ∈ framesOf h ys room, f.b.length ≤ 1000000 := by
  intro f hf
  unfold framesOf at hf
  split at hf
  · obtain ⟨j, _, rfl⟩ := List.mem_map.1 hf
    simp only [frAt, partP, List.length_take, List.length_drop]; omega
  · cases hf
theorem framesOf_len {h : Hd} {ys : List Nat} {room : Int} (hy : ys.length ≤ 1000) : (framesOf h ys room).length ≤ 1000 := by
  unfold framesOf
  split
  · rename_i he
    rw [framesN_len]
    unfold frameErr at he
    split at he
    · omega
    · split at he
      · omega
      · split at he
        · omega
        · exact Nat.le_trans (cntP_le (by omega)) hy
  · simp

/-- The room, where nothing is wrong. -/
theorem frameErr_zero {h : Hd} {ys : List Nat} {room : Int} (he : frameErr h ys room = 0) : 0 < ys.length ∧ ∃ r : Nat, room = (r : Int) ∧ 0 < r ∧ r ≤ 242 ∧ framesOf h ys room = framesN h ys r (cntP ys.length r) := by
  have he2 := he
  unfold frameErr at he
  split at he
  · omega
  · split at he
    · omega
    · split at he
      · omega
      · refine ⟨by omega, room.toNat, by omega, by omega, by omega, ?_⟩
        unfold framesOf; rw [if_pos he2]

theorem cutframes_ok {h : Hd} {bs : List Nat} {room : Int} (hroom : -9223372036854775808 ≤ room ∧ room < 9223372036854775808) :
    FunOK Try.prog F.cuneiformlaw12_CutFrames [.agg (encHd h), nums .u8 false bs, .int .i64 room] [] fun av _ => av = .bool true := by
  refine fun_V 100 cuneiformlaw12_CutFrames_code rfl ?_
  have min200 : ∀ n : Nat, (if 200 < (n : Int) then 200 else (n : Int)) = ((min n 200 : Nat) : Int) := fun n => by split <;> omega
  have hce : (encHd h).all AVal.cellish = true := rfl
  have hel : (encHd h).length = 5 := rfl
  have het : (encHd h).take 5 = encHd h := rfl
  simp (disch := first | omega | (simp only [List.length_append, List.length_cons, List.length_nil, List.length_set, List.length_map, List.length_take, List.length_drop]; omega)) only [stdh, goK_s2b, dgoK_s2b, isEff_s2b, isPure_s2b, goK_b2s, dgoK_b2s, isEff_b2s, isPure_b2s, evalOp_s2b, s2bR, goK_mark, dgoK_mark, isEff_mark, isPure_mark, evalOp_mark, markA_slc, markB, ↓reduceIte, Nat.reduceEqDiff, Int.reduceToNat, Int.reducePow, Nat.reduceAdd, Nat.reduceLeDiff, Nat.reduceMul, Nat.reduceBEq, reduceCtorEq, cuneiformlaw12_CutFrames, cuneiformlaw12_CutFrames.body, min200, hce, hel, het]
  have hzl : (bs.take (min bs.length 200)).length ≤ 200 := by rw [List.length_take]; omega
  generalize bs.take (min bs.length 200) = zs at *
  refine callK_fn (frames_ok _ h (by omega) hroom _ ?_)
  refine runL_V 60 ?_
  simp (disch := first | omega | (simp only [List.length_append, List.length_cons, List.length_nil, List.length_set, List.length_map, List.length_take, List.length_drop]; omega)) only [stdh, goK_s2b, dgoK_s2b, isEff_s2b, isPure_s2b, goK_b2s, dgoK_b2s, isEff_b2s, isPure_b2s, evalOp_s2b, s2bR, goK_mark, dgoK_mark, isEff_mark, isPure_mark, evalOp_mark, markA_slc, markB, ↓reduceIte, Nat.reduceEqDiff, Int.reduceToNat, Int.reducePow, Nat.reduceAdd, Nat.reduceLeDiff, Nat.reduceMul, Nat.reduceBEq, reduceCtorEq, hel, het]
  refine callK_fn (rframes_ok _ h (by omega) hroom _ ?_)
  refine runL_V 60 ?_
  simp (disch := first | omega | (simp only [List.length_append, List.length_cons, List.length_nil, List.length_set, List.length_map, List.length_take, List.length_drop]; omega)) only [stdh, goK_s2b, dgoK_s2b, isEff_s2b, isPure_s2b, goK_b2s, dgoK_b2s, isEff_b2s, isPure_b2s, evalOp_s2b, s2bR, goK_mark, dgoK_mark, isEff_mark, isPure_mark, evalOp_mark, markA_slc, markB, ↓reduceIte, Nat.reduceEqDiff, Int.reduceToNat, Int.reducePow, Nat.reduceAdd, Nat.reduceLeDiff, Nat.reduceMul, Nat.reduceBEq, reduceCtorEq]
  refine callK_fn (lsame_ok _ (by have := framesOf_len (h := h) (room := room) (show zs.length ≤ 1000 by omega); omega) (framesOf_b (by omega)) _ ?_)
  refine runL_V 60 ?_
  by_cases he : frameErr h zs room = 0
  · obtain ⟨hy, r, rfl, hr, hr2, hfo⟩ := frameErr_zero he
    have hfl : (framesN h zs r (cntP zs.length r)).flatMap Fr.b = zs := by rw [framesN_flat, partsP_whole hr]
    have hcl := cntP_le (n := zs.length) hr
    rw [he, hfo]
    simp (disch := first | omega | (simp only [List.length_append, List.length_cons, List.length_nil, List.length_set, List.length_map, List.length_take, List.length_drop]; omega)) only [stdh, goK_s2b, dgoK_s2b, isEff_s2b, isPure_s2b, goK_b2s, dgoK_b2s, isEff_b2s, isPure_b2s, evalOp_s2b, s2bR, goK_mark, dgoK_mark, isEff_mark, isPure_mark, evalOp_mark, markA_slc, markB, ↓reduceIte, Nat.reduceEqDiff, Int.reduceToNat, Int.reducePow, Nat.reduceAdd, Nat.reduceLeDiff, Nat.reduceMul, Nat.reduceBEq, reduceCtorEq]
    refine callK_fn (whole_ok _ frs_recs (by rw [hfl]; omega) (by rw [framesN_len]; omega) _ ?_)
    rw [whole_frames hr hy]
    refine runL_V 60 ?_
    simp (disch := first | omega | (simp only [List.length_append, List.length_cons, List.length_nil, List.length_set, List.length_map, List.length_take, List.length_drop]; omega)) only [stdh, goK_s2b, dgoK_s2b, isEff_s2b, isPure_s2b, goK_b2s, dgoK_b2s, isEff_b2s, isPure_b2s, evalOp_s2b, s2bR, goK_mark, dgoK_mark, isEff_mark, isPure_mark, evalOp_mark, markA_slc, markB, ↓reduceIte, Nat.reduceEqDiff, Int.reduceToNat, Int.reducePow, Nat.reduceAdd, Nat.reduceLeDiff, Nat.reduceMul, Nat.reduceBEq, reduceCtorEq]
    refine callK_fn (known12_ok _ _ ?_)
    refine runL_V 60 ?_
    simp (disch := first | omega | (simp only [List.length_append, List.length_cons, List.length_nil, List.length_set, List.length_map, List.length_take, List.length_drop]; omega)) only [stdh, goK_s2b, dgoK_s2b, isEff_s2b, isPure_s2b, goK_b2s, dgoK_b2s, isEff_b2s, isPure_b2s, evalOp_s2b, s2bR, goK_mark, dgoK_mark, isEff_mark, isPure_mark, evalOp_mark, markA_slc, markB, ↓reduceIte, Nat.reduceEqDiff, Int.reduceToNat, Int.reducePow, Nat.reduceAdd, Nat.reduceLeDiff, Nat.reduceMul, Nat.reduceBEq, reduceCtorEq]
    refine callK_fn (same_ok _ (nums_nats _ _ _ _) (nums_nats _ _ _ _) (by omega) _ ?_)
    rw [show decide (zs = zs) = true by simp]
    refine runL_V 60 ?_
    simp (disch := first | omega | (simp only [List.length_append, List.length_cons, List.length_nil, List.length_set, List.length_map, List.length_take, List.length_drop]; omega)) only [stdh, goK_s2b, dgoK_s2b, isEff_s2b, isPure_s2b, goK_b2s, dgoK_b2s, isEff_b2s, isPure_b2s, evalOp_s2b, s2bR, goK_mark, dgoK_mark, isEff_mark, isPure_mark, evalOp_mark, markA_slc, markB, ↓reduceIte, Nat.reduceEqDiff, Int.reduceToNat, Int.reducePow, Nat.reduceAdd, Nat.reduceLeDiff, Nat.reduceMul, Nat.reduceBEq, reduceCtorEq]
    refine callK_fn (count_ok _ hy hr (by omega) (by omega) _ ?_)
    refine runL_V 60 ?_
    simp (disch := first | omega | (simp only [List.length_append, List.length_cons, List.length_nil, List.length_set, List.length_map, List.length_take, List.length_drop]; omega)) only [stdh, goK_s2b, dgoK_s2b, isEff_s2b, isPure_s2b, goK_b2s, dgoK_b2s, isEff_b2s, isPure_b2s, evalOp_s2b, s2bR, goK_mark, dgoK_mark, isEff_mark, isPure_mark, evalOp_mark, markA_slc, markB, ↓reduceIte, Nat.reduceEqDiff, Int.reduceToNat, Int.reducePow, Nat.reduceAdd, Nat.reduceLeDiff, Nat.reduceMul, Nat.reduceBEq, reduceCtorEq, framesN_len]
  · simp (disch := first | omega | (simp only [List.length_append, List.length_cons, List.length_nil, List.length_set, List.length_map, List.length_take, List.length_drop]; omega)) only [stdh, goK_s2b, dgoK_s2b, isEff_s2b, isPure_s2b, goK_b2s, dgoK_b2s, isEff_b2s, isPure_b2s, evalOp_s2b, s2bR, goK_mark, dgoK_mark, isEff_mark, isPure_mark, evalOp_mark, markA_slc, markB, ↓reduceIte, Nat.reduceEqDiff, Int.reduceToNat, Int.reducePow, Nat.reduceAdd, Nat.reduceLeDiff, Nat.reduceMul, Nat.reduceBEq, reduceCtorEq]
    refine callK_fn (known12_ok _ _ ?_)
    refine runL_V 60 ?_
    simp (disch := first | omega | (simp only [List.length_append, List.length_cons, List.length_nil, List.length_set, List.length_map, List.length_take, List.length_drop]; omega)) only [stdh, goK_s2b, dgoK_s2b, isEff_s2b, isPure_s2b, goK_b2s, dgoK_b2s, isEff_b2s, isPure_b2s, evalOp_s2b, s2bR, goK_mark, dgoK_mark, isEff_mark, isPure_mark, evalOp_mark, markA_slc, markB, ↓reduceIte, Nat.reduceEqDiff, Int.reduceToNat, Int.reducePow, Nat.reduceAdd, Nat.reduceLeDiff, Nat.reduceMul, Nat.reduceBEq, reduceCtorEq]
end Go.Proofs.Ytncipoapdpenfaa
