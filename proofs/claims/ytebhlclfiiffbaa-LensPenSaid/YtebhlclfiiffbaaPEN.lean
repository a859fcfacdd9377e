/-
  Lemmas on the way to the statements of this seat. By an AI agent. No person has read it.
-/
import Derived.Test.YtebhlclfiiffbaaREAD

namespace Go.Proofs.Ytebhlclfiiffbaa
open Go Go.Am
set_option linter.unusedSimpArgs false
set_option linter.unusedVariables false

/-- A pen at a name: its bytes are a list with one owner. -/
structure PenAt (H : AHeap) (p : Nat) (a : AVal) (xs : List Nat) (room : Nat) (full : Bool) : Prop where
  is : H[p]? = some (.cells [a, .int .i64 (room : Int), .bool full] T.pen_Pen)
  own : Own 1 T.uint8 (p + 1) H a xs.length (u8s xs)
  le : xs.length ≤ room
  lt : room ≤ 9223372036854775807
  sm : xs.length ≤ 1000000

theorem PenAt.ne {H : AHeap} {p : Nat} {a : AVal} {xs : List Nat} {room : Nat} {full : Bool} (h : PenAt H p a xs room full) : ∀ m ∈ a.names, p ≠ m := fun m hm => by
  have := (h.own.lt m hm).1; omega

theorem PenAt.moved {H H' : AHeap} {p : Nat} {a : AVal} {xs : List Nat} {room : Nat} {full : Bool} (h : PenAt H p a xs room full) (hp : H'[p]? = H[p]?) (hk : ∀ m ∈ a.names, H'[m]? = H[m]?) : PenAt H' p a xs room full :=
  ⟨hp.trans h.is, h.own.moved hk, h.le, h.lt, h.sm⟩

/-- What a pen leaves alone. -/
def PenKeeps (H : AHeap) (p : Nat) (a : AVal) (H' : AHeap) : Prop := H.length ≤ H'.length ∧ ∀ m, m < H.length → m ≠ p → m ∉ a.names → H'[m]? = H[m]?

def rawXs (xs : List Nat) (room : Nat) (full : Bool) (ys : List Nat) : List Nat := if full = true ∨ room < xs.length + ys.length then xs else xs ++ ys
def rawFull (xs : List Nat) (room : Nat) (full : Bool) (ys : List Nat) : Bool := full || decide (room < xs.length + ys.length)
def rawErr (xs : List Nat) (room : Nat) (full : Bool) (ys : List Nat) : Nat := if full = true ∨ room < xs.length + ys.length then 2 else 0

theorem raw_ok (H : AHeap) {p : Nat} {a : AVal} {xs : List Nat} {room : Nat} {full : Bool} (hp : PenAt H p a xs room full) {b : AVal} {ys : List Nat} (hb : Nats .u8 H b ys) (hs : ∀ s, b ≠ .str s) (hsm : xs.length + ys.length ≤ 1000000) (Q : AVal → AHeap → Prop)
    (h : ∀ a' H', PenAt H' p a' (rawXs xs room full ys) room (rawFull xs room full ys) → PenKeeps H p a H' → (∀ m ∈ a'.names, m ∈ a.names ∨ H.length ≤ m) → Q (.int .i64 (rawErr xs room full ys : Nat)) H') : FunOK Try.prog F.pen_Pen_Raw [.ptr p 0, b] H Q := by
  obtain ⟨hc, ho, hle, hlt, hsx⟩ := hp
  have hpl : p < H.length := (List.getElem?_eq_some_iff.1 hc).1
  have hsl := ho.slen
  have hcl := ho.cell
  refine fun_V 100 pen_Pen_Raw_code rfl ?_
  have hH2 : ∀ m, m ≠ p → (H.set p (.cells [a, .int .i64 (room : Int), .bool true] T.pen_Pen))[m]? = H[m]? := fun m hm => by rw [List.getElem?_set_ne (by omega)]
  have hfull : rawXs xs room full ys = xs → rawFull xs room full ys = true → rawErr xs room full ys = 2 → Q (.int .i64 2) (H.set p (.cells [a, .int .i64 (room : Int), .bool true] T.pen_Pen)) := by
    intro e1 e2 e3
    have := h a (H.set p (.cells [a, .int .i64 (room : Int), .bool true] T.pen_Pen)) (by
      rw [e1, e2]
      refine ⟨by rw [List.getElem?_set_self hpl], ho.moved fun m hm => hH2 m ?_, hle, hlt, hsx⟩
      have := (ho.lt m hm).1; omega) ⟨by simp, fun m h1 h2 h3 => hH2 m h2⟩ (fun m hm => .inl hm)
    rw [e3] at this
    exact this
  cases full with
  | true =>
    have q := hfull (by simp [rawXs]) (by simp [rawFull]) (by simp [rawErr])
    clear h hfull
    simp (disch := first | omega | (simp only [List.length_append, List.length_cons, List.length_nil, List.length_set, List.length_map, List.length_take, List.length_drop]; omega)) only [stdh, goK_s2b, dgoK_s2b, isEff_s2b, isPure_s2b, goK_b2s, dgoK_b2s, isEff_b2s, isPure_b2s, evalOp_s2b, s2bR, goK_mark, dgoK_mark, isEff_mark, isPure_mark, evalOp_mark, markA_slc, markB, ↓reduceIte, Nat.reduceEqDiff, Int.reduceToNat, Int.reducePow, Nat.reduceAdd, Nat.reduceLeDiff, Nat.reduceMul, Nat.reduceBEq, reduceCtorEq, pen_Pen_Raw, pen_Pen_Raw.body, pen_Pen_Raw.d0, eqA, hc]
  | false =>
    by_cases hr : room < xs.length + ys.length
    · have q := hfull (by simp [rawXs, hr]) (by simp [rawFull, hr]) (by simp [rawErr, hr])
      have hr' : (room : Int) - (xs.length : Nat) < (ys.length : Nat) := by omega
      simp (disch := first | omega | (simp only [List.length_append, List.length_cons, List.length_nil, List.length_set, List.length_map, List.length_take, List.length_drop]; omega)) only [stdh, goK_s2b, dgoK_s2b, isEff_s2b, isPure_s2b, goK_b2s, dgoK_b2s, isEff_b2s, isPure_b2s, evalOp_s2b, s2bR, goK_mark, dgoK_mark, isEff_mark, isPure_mark, evalOp_mark, markA_slc, markB, ↓reduceIte, Nat.reduceEqDiff, Int.reduceToNat, Int.reducePow, Nat.reduceAdd, Nat.reduceLeDiff, Nat.reduceMul, Nat.reduceBEq, reduceCtorEq, pen_Pen_Raw, pen_Pen_Raw.body, pen_Pen_Raw.d0, eqA, hc, hsl, hb.len, hr']
    · have hr' : ¬ (room : Int) - (xs.length : Nat) < (ys.length : Nat) := by omega
      have e1 : rawXs xs room false ys = xs ++ ys := by simp [rawXs, hr]
      have e2 : rawFull xs room false ys = false := by simp [rawFull, hr]
      have e3 : rawErr xs room false ys = 0 := by simp [rawErr, hr]
      rw [e1, e2, e3] at h
      simp (disch := first | omega | (simp only [List.length_append, List.length_cons, List.length_nil, List.length_set, List.length_map, List.length_take, List.length_drop]; omega)) only [stdh, goK_s2b, dgoK_s2b, isEff_s2b, isPure_s2b, goK_b2s, dgoK_b2s, isEff_b2s, isPure_b2s, evalOp_s2b, s2bR, goK_mark, dgoK_mark, isEff_mark, isPure_mark, evalOp_mark, markA_slc, markB, ↓reduceIte, Nat.reduceEqDiff, Int.reduceToNat, Int.reducePow, Nat.reduceAdd, Nat.reduceLeDiff, Nat.reduceMul, Nat.reduceBEq, reduceCtorEq, pen_Pen_Raw, pen_Pen_Raw.body, pen_Pen_Raw.d0, eqA, hc, hsl, hb.len, hr']
      have hb1 : srcLen b = some ys.length := by
        have := hb.len
        cases b <;> first | (simp [slen] at this; done) | exact this
      have hb2 : srcCells H b = some (u8s ys) := by
        have := hb.view
        cases b <;> first | exact absurd rfl (hs _) | exact this
      refine resK_append (k := ys.length) (ys := u8s ys) ho (by omega) hb1 hb2 (by simp [u8s]) (by omega) (by omega) (by omega) (by simp [u8s, AVal.cellish]) fun v H2 ov ht hn => ?_
      have hc2 : H2[p]? = some (.cells [a, .int .i64 (room : Int), .bool false] T.pen_Pen) := by
        rw [ht.kept p hpl (fun hm => by have := (ho.lt p hm).1; omega)]; exact hc
      have hcv := ov.cell
      have hpl2 : p < H2.length := (List.getElem?_eq_some_iff.1 hc2).1
      simp (disch := first | omega | (simp only [List.length_append, List.length_cons, List.length_nil, List.length_set, List.length_map, List.length_take, List.length_drop]; omega)) only [stdh, goK_s2b, dgoK_s2b, isEff_s2b, isPure_s2b, goK_b2s, dgoK_b2s, isEff_b2s, isPure_b2s, evalOp_s2b, s2bR, goK_mark, dgoK_mark, isEff_mark, isPure_mark, evalOp_mark, markA_slc, markB, ↓reduceIte, Nat.reduceEqDiff, Int.reduceToNat, Int.reducePow, Nat.reduceAdd, Nat.reduceLeDiff, Nat.reduceMul, Nat.reduceBEq, reduceCtorEq, hc2, hcv.1, hcv.2]
      refine h v _ ⟨by rw [List.getElem?_set_self hpl2], ?_, by simp; omega, hlt, by simp; omega⟩ ⟨by simp [ht.le], fun m h1 h2 h3 => ?_⟩ (fun m hm => .inr (hn m hm))
      · have : xs.length + ys.length = (xs ++ ys).length := by simp
        rw [← this]
        have e : u8s (xs ++ ys) = u8s xs ++ u8s ys := by simp [u8s]
        rw [e]
        refine ov.moved fun m hm => ?_
        rw [List.getElem?_set_ne (by have := (ov.lt m hm).1; omega)]
      · rw [List.getElem?_set_ne (by omega)]
        exact ht.kept m h1 h3

theorem perr_ok {H : AHeap} {p : Nat} {a : AVal} {xs : List Nat} {room : Nat} {full : Bool} (hp : PenAt H p a xs room full) (Q : AVal → AHeap → Prop) (h : Q (.int .i64 (if full = true then 2 else 0)) H) : FunOK Try.prog F.pen_Pen_Err [.ptr p 0] H Q := by
  have hc := hp.is
  refine fun_V 60 pen_Pen_Err_code rfl ?_
  cases full with
  | true =>
    replace h : Q (.int .i64 2) H := h
    simp (disch := first | omega | (simp only [List.length_append, List.length_cons, List.length_nil, List.length_set, List.length_map, List.length_take, List.length_drop]; omega)) only [stdh, goK_s2b, dgoK_s2b, isEff_s2b, isPure_s2b, goK_b2s, dgoK_b2s, isEff_b2s, isPure_b2s, evalOp_s2b, s2bR, goK_mark, dgoK_mark, isEff_mark, isPure_mark, evalOp_mark, markA_slc, markB, ↓reduceIte, Nat.reduceEqDiff, Int.reduceToNat, Int.reducePow, Nat.reduceAdd, Nat.reduceLeDiff, Nat.reduceMul, Nat.reduceBEq, reduceCtorEq, pen_Pen_Err, pen_Pen_Err.body, eqA, hc]
    exact h
  | false =>
    replace h : Q (.int .i64 0) H := h
    simp (disch := first | omega | (simp only [List.length_append, List.length_cons, List.length_nil, List.length_set, List.length_map, List.length_take, List.length_drop]; omega)) only [stdh, goK_s2b, dgoK_s2b, isEff_s2b, isPure_s2b, goK_b2s, dgoK_b2s, isEff_b2s, isPure_b2s, evalOp_s2b, s2bR, goK_mark, dgoK_mark, isEff_mark, isPure_mark, evalOp_mark, markA_slc, markB, ↓reduceIte, Nat.reduceEqDiff, Int.reduceToNat, Int.reducePow, Nat.reduceAdd, Nat.reduceLeDiff, Nat.reduceMul, Nat.reduceBEq, reduceCtorEq, pen_Pen_Err, pen_Pen_Err.body, eqA, hc]
    exact h

theorem pnew_ok (H : AHeap) {room : Nat} (hr : room ≤ 9223372036854775807) (Q : AVal → AHeap → Prop) (h : Q (.ptr H.length 0) (H ++ [.cells [.nils, .int .i64 (room : Int), .bool false] T.pen_Pen])) : FunOK Try.prog F.pen_New [.int .i64 (room : Nat)] H Q := by
  have e : ¬ (room : Int) < 0 := by omega
  have e2 : max (room : Int) 0 = room := by omega
  refine fun_V 60 pen_New_code rfl ?_
  simp (disch := first | omega | (simp only [List.length_append, List.length_cons, List.length_nil, List.length_set, List.length_map, List.length_take, List.length_drop]; omega)) only [stdh, goK_s2b, dgoK_s2b, isEff_s2b, isPure_s2b, goK_b2s, dgoK_b2s, isEff_b2s, isPure_b2s, evalOp_s2b, s2bR, goK_mark, dgoK_mark, isEff_mark, isPure_mark, evalOp_mark, markA_slc, markB, ↓reduceIte, Nat.reduceEqDiff, Int.reduceToNat, Int.reducePow, Nat.reduceAdd, Nat.reduceLeDiff, Nat.reduceMul, Nat.reduceBEq, reduceCtorEq, pen_New, pen_New.body, e, e2]
  exact h

theorem pnew_at (H : AHeap) {room : Nat} (hr : room ≤ 9223372036854775807) : PenAt (H ++ [.cells [.nils, .int .i64 (room : Int), .bool false] T.pen_Pen]) H.length .nils [] room false :=
  ⟨at_0, Own.nil, by simp, hr, by simp⟩

theorem pbytes_ok {H : AHeap} {p : Nat} {a : AVal} {xs : List Nat} {room : Nat} {full : Bool} (hp : PenAt H p a xs room full) (Q : AVal → AHeap → Prop) (h : Q (nums .u8 false xs) H) : FunOK Try.prog F.pen_Pen_Bytes [.ptr p 0] H Q := by
  have hc := hp.is
  have ho := hp.own
  have hle := hp.le
  have hlt := hp.lt
  have hsx := hp.sm
  refine fun_iced pen_Pen_Bytes_code fun _ => ?_
  refine fun_V 60 pen_Pen_Bytes_code rfl ?_
  simp (disch := first | omega | (simp only [List.length_append, List.length_cons, List.length_nil, List.length_set, List.length_map, List.length_take, List.length_drop]; omega)) only [stdh, goK_s2b, dgoK_s2b, isEff_s2b, isPure_s2b, goK_b2s, dgoK_b2s, isEff_b2s, isPure_b2s, evalOp_s2b, s2bR, goK_mark, dgoK_mark, isEff_mark, isPure_mark, evalOp_mark, markA_slc, markB, ↓reduceIte, Nat.reduceEqDiff, Int.reduceToNat, Int.reducePow, Nat.reduceAdd, Nat.reduceLeDiff, Nat.reduceMul, Nat.reduceBEq, reduceCtorEq, pen_Pen_Bytes, pen_Pen_Bytes.body, eqA, hc]
  refine resK_append (k := xs.length) (ys := u8s xs) (Own.nil (B := H.length)) (Nat.le_refl _) ho.src.1 ho.src.2 (by simp [u8s]) (by omega) (by omega) (by omega) (by simp [u8s, AVal.cellish]) fun v H2 ov ht hn => ?_
  simp (disch := first | omega | (simp only [List.length_append, List.length_cons, List.length_nil, List.length_set, List.length_map, List.length_take, List.length_drop]; omega)) only [stdh, goK_s2b, dgoK_s2b, isEff_s2b, isPure_s2b, goK_b2s, dgoK_b2s, isEff_b2s, isPure_b2s, evalOp_s2b, s2bR, goK_mark, dgoK_mark, isEff_mark, isPure_mark, evalOp_mark, markA_slc, markB, ↓reduceIte, Nat.reduceEqDiff, Int.reduceToNat, Int.reducePow, Nat.reduceAdd, Nat.reduceLeDiff, Nat.reduceMul, Nat.reduceBEq, reduceCtorEq]
  have ov' : Own 1 T.uint8 H.length H2 v xs.length (u8s xs) := by simpa using ov
  exact ice_own ⟨ht.le, fun m hm => ht.kept m hm (by simp [AVal.names])⟩ ov' (closeds_ints _ _) h

/-- The bytes of a number, the lowest ones first. -/
def wordBytes (n : Nat) : Nat → List Nat
  | 0 => []
  | k + 1 => n % 256 :: wordBytes (n / 256) k

theorem wordBytes_len (n k : Nat) : (wordBytes n k).length = k := by
  induction k generalizing n with
  | zero => rfl
  | succ k ih => simp [wordBytes, ih]

end Go.Proofs.Ytebhlclfiiffbaa

namespace Go.Proofs.Ytebhlclfiiffbaa
open Go Go.Am
set_option linter.unusedSimpArgs false
set_option linter.unusedVariables false

/-- What writing some bytes comes to. -/
def Wrote (p : Nat) (a : AVal) (H : AHeap) (xs : List Nat) (room : Nat) (full : Bool) (ys : List Nat) (Q : AVal → AHeap → Prop) : Prop :=
  ∀ a' H', PenAt H' p a' (rawXs xs room full ys) room (rawFull xs room full ys) → PenKeeps H p a H' → (∀ m ∈ a'.names, m ∈ a.names ∨ H.length ≤ m) → Q (.int .i64 (rawErr xs room full ys : Nat)) H'

theorem Wrote.keep {p : Nat} {a : AVal} {H H1 : AHeap} {xs : List Nat} {room : Nat} {full : Bool} {ys : List Nat} {Q : AVal → AHeap → Prop} (hk : Keeps H H1) (h : Wrote p a H xs room full ys Q) : Wrote p a H1 xs room full ys Q := by
  intro a' H' g1 g2 g3
  refine h a' H' g1 ⟨Nat.le_trans hk.le g2.1, fun m h1 h2 h3 => (g2.2 m (Nat.lt_of_lt_of_le h1 hk.le) h2 h3).trans (hk.2 m h1)⟩ fun m hm => ?_
  rcases g3 m hm with h4 | h4
  · exact .inl h4
  · exact .inr (Nat.le_trans hk.le h4)

theorem PenAt.keep {H H1 : AHeap} {p : Nat} {a : AVal} {xs : List Nat} {room : Nat} {full : Bool} (hk : Keeps H H1) (h : PenAt H p a xs room full) : PenAt H1 p a xs room full :=
  ⟨(hk.2 p (List.getElem?_eq_some_iff.1 h.is).1).trans h.is, h.own.keep hk, h.le, h.lt, h.sm⟩

theorem bounds_arr (k : Nat) (h : k ≤ 4) : (bounds 4 4 none (some (k : Int)) (some (k : Int))).1 ∧ (bounds 4 4 none (some (k : Int)) (some (k : Int))).2.1 = 0 ∧ (bounds 4 4 none (some (k : Int)) (some (k : Int))).2.2.1 = k := by
  simp only [bounds, Option.getD_none, Option.getD_some]
  refine ⟨by omega, by simp, by simp⟩

theorem nats_four (H : AHeap) (el : TypeId) {l : List AVal} {n k : Nat} (hk : k ≤ 4) (hl : l = [.int .u8 ((n % 256 : Nat) : Int), .int .u8 ((n / 256 % 256 : Nat) : Int), .int .u8 ((n / 256 / 256 % 256 : Nat) : Int), .int .u8 ((n / 256 / 256 / 256 % 256 : Nat) : Int)]) :
    Nats .u8 (H ++ [.cells l el]) (.slc H.length 0 k 1) (wordBytes n k) := by
  subst hl
  refine ⟨by simp [slen, wordBytes_len], ?_, fun _ _ _ _ h => by cases h; rfl⟩
  have : k = 0 ∨ k = 1 ∨ k = 2 ∨ k = 3 ∨ k = 4 := by omega
  rcases this with rfl | rfl | rfl | rfl | rfl <;> simp [view, content, wordBytes]

theorem word_ok {H : AHeap} {p : Nat} {a : AVal} {xs : List Nat} {room : Nat} {full : Bool} (hp : PenAt H p a xs room full) {n k : Nat} (hn : n < 4294967296) (hk : k ≤ 4) (hsm : xs.length ≤ 500000) (Q : AVal → AHeap → Prop)
    (h : Wrote p a H xs room full (wordBytes n k) Q) : FunOK Try.prog F.pen_Pen_word [.ptr p 0, .int .u32 (n : Nat), .int .i64 (k : Nat)] H Q := by
  refine fun_V 100 pen_Pen_word_code rfl ?_
  obtain ⟨b1, b2, b3⟩ := bounds_arr k hk
  have c0 : IntKind.u8.wrap (n : Int) = ((n % 256 : Nat) : Int) := by rw [wrap_u8']; omega
  have c1 : IntKind.u8.wrap ((n : Int) / 256) = ((n / 256 % 256 : Nat) : Int) := by rw [wrap_u8']; omega
  have c2 : IntKind.u8.wrap ((n : Int) / 65536) = ((n / 256 / 256 % 256 : Nat) : Int) := by rw [wrap_u8']; omega
  have c3 : (n : Int) / 16777216 = ((n / 256 / 256 / 256 % 256 : Nat) : Int) := by omega
  simp (disch := first | omega | (simp only [List.length_append, List.length_cons, List.length_nil, List.length_set, List.length_map, List.length_take, List.length_drop]; omega)) only [stdh, goK_s2b, dgoK_s2b, isEff_s2b, isPure_s2b, goK_b2s, dgoK_b2s, isEff_b2s, isPure_b2s, evalOp_s2b, s2bR, goK_mark, dgoK_mark, isEff_mark, isPure_mark, evalOp_mark, markA_slc, markB, ↓reduceIte, Nat.reduceEqDiff, Int.reduceToNat, Int.reducePow, Nat.reduceAdd, Nat.reduceLeDiff, Nat.reduceMul, Nat.reduceBEq, reduceCtorEq, pen_Pen_word, pen_Pen_word.body, b1, b2, b3, Nat.sub_zero]
  refine callK_fn (raw_ok _ (hp.keep (keeps_append _ _)) (nats_four H _ hk (by rw [c0, c1, c2, c3])) (by simp) (by rw [wordBytes_len]; omega) _ ?_)
  intro a' H' g1 g2 g3
  refine runL_V 60 ?_
  simp (disch := first | omega | (simp only [List.length_append, List.length_cons, List.length_nil, List.length_set, List.length_map, List.length_take, List.length_drop]; omega)) only [stdh, goK_s2b, dgoK_s2b, isEff_s2b, isPure_s2b, goK_b2s, dgoK_b2s, isEff_b2s, isPure_b2s, evalOp_s2b, s2bR, goK_mark, dgoK_mark, isEff_mark, isPure_mark, evalOp_mark, markA_slc, markB, ↓reduceIte, Nat.reduceEqDiff, Int.reduceToNat, Int.reducePow, Nat.reduceAdd, Nat.reduceLeDiff, Nat.reduceMul, Nat.reduceBEq, reduceCtorEq]
  exact h.keep (keeps_append _ _) a' H' g1 g2 g3
end Go.Proofs.Ytebhlclfiiffbaa

namespace Go.Proofs.Ytebhlclfiiffbaa
open Go Go.Am
set_option linter.unusedSimpArgs false
set_option linter.unusedVariables false

section
variable {H : AHeap} {p : Nat} {a : AVal} {xs : List Nat} {room : Nat} {full : Bool}

theorem pu8_ok (hp : PenAt H p a xs room full) (hsm : xs.length ≤ 500000) {n : Nat} (hn : n < 256) (Q : AVal → AHeap → Prop) (h : Wrote p a H xs room full (wordBytes n 1) Q) : FunOK Try.prog F.pen_Pen_U8 [.ptr p 0, .int .u8 (n : Nat)] H Q := by
  refine fun_V 60 pen_Pen_U8_code rfl ?_
  simp (disch := first | omega | (simp only [List.length_append, List.length_cons, List.length_nil, List.length_set, List.length_map, List.length_take, List.length_drop]; omega)) only [stdh, goK_s2b, dgoK_s2b, isEff_s2b, isPure_s2b, goK_b2s, dgoK_b2s, isEff_b2s, isPure_b2s, evalOp_s2b, s2bR, goK_mark, dgoK_mark, isEff_mark, isPure_mark, evalOp_mark, markA_slc, markB, ↓reduceIte, Nat.reduceEqDiff, Int.reduceToNat, Int.reducePow, Nat.reduceAdd, Nat.reduceLeDiff, Nat.reduceMul, Nat.reduceBEq, reduceCtorEq, pen_Pen_U8, pen_Pen_U8.body]
  refine callK_fn (word_ok hp (by omega) (k := 1) (by omega) hsm _ ?_)
  intro a' H' g1 g2 g3
  refine runL_V 60 ?_
  simp (disch := first | omega | (simp only [List.length_append, List.length_cons, List.length_nil, List.length_set, List.length_map, List.length_take, List.length_drop]; omega)) only [stdh, goK_s2b, dgoK_s2b, isEff_s2b, isPure_s2b, goK_b2s, dgoK_b2s, isEff_b2s, isPure_b2s, evalOp_s2b, s2bR, goK_mark, dgoK_mark, isEff_mark, isPure_mark, evalOp_mark, markA_slc, markB, ↓reduceIte, Nat.reduceEqDiff, Int.reduceToNat, Int.reducePow, Nat.reduceAdd, Nat.reduceLeDiff, Nat.reduceMul, Nat.reduceBEq, reduceCtorEq]
  exact h a' H' g1 g2 g3

theorem pu16_ok (hp : PenAt H p a xs room full) (hsm : xs.length ≤ 500000) {n : Nat} (hn : n < 65536) (Q : AVal → AHeap → Prop) (h : Wrote p a H xs room full (wordBytes n 2) Q) : FunOK Try.prog F.pen_Pen_U16 [.ptr p 0, .int .u16 (n : Nat)] H Q := by
  refine fun_V 60 pen_Pen_U16_code rfl ?_
  simp (disch := first | omega | (simp only [List.length_append, List.length_cons, List.length_nil, List.length_set, List.length_map, List.length_take, List.length_drop]; omega)) only [stdh, goK_s2b, dgoK_s2b, isEff_s2b, isPure_s2b, goK_b2s, dgoK_b2s, isEff_b2s, isPure_b2s, evalOp_s2b, s2bR, goK_mark, dgoK_mark, isEff_mark, isPure_mark, evalOp_mark, markA_slc, markB, ↓reduceIte, Nat.reduceEqDiff, Int.reduceToNat, Int.reducePow, Nat.reduceAdd, Nat.reduceLeDiff, Nat.reduceMul, Nat.reduceBEq, reduceCtorEq, pen_Pen_U16, pen_Pen_U16.body]
  refine callK_fn (word_ok hp (by omega) (k := 2) (by omega) hsm _ ?_)
  intro a' H' g1 g2 g3
  refine runL_V 60 ?_
  simp (disch := first | omega | (simp only [List.length_append, List.length_cons, List.length_nil, List.length_set, List.length_map, List.length_take, List.length_drop]; omega)) only [stdh, goK_s2b, dgoK_s2b, isEff_s2b, isPure_s2b, goK_b2s, dgoK_b2s, isEff_b2s, isPure_b2s, evalOp_s2b, s2bR, goK_mark, dgoK_mark, isEff_mark, isPure_mark, evalOp_mark, markA_slc, markB, ↓reduceIte, Nat.reduceEqDiff, Int.reduceToNat, Int.reducePow, Nat.reduceAdd, Nat.reduceLeDiff, Nat.reduceMul, Nat.reduceBEq, reduceCtorEq]
  exact h a' H' g1 g2 g3

theorem pu32_ok (hp : PenAt H p a xs room full) (hsm : xs.length ≤ 500000) {n : Nat} (hn : n < 4294967296) (Q : AVal → AHeap → Prop) (h : Wrote p a H xs room full (wordBytes n 4) Q) : FunOK Try.prog F.pen_Pen_U32 [.ptr p 0, .int .u32 (n : Nat)] H Q := by
  refine fun_V 60 pen_Pen_U32_code rfl ?_
  simp (disch := first | omega | (simp only [List.length_append, List.length_cons, List.length_nil, List.length_set, List.length_map, List.length_take, List.length_drop]; omega)) only [stdh, goK_s2b, dgoK_s2b, isEff_s2b, isPure_s2b, goK_b2s, dgoK_b2s, isEff_b2s, isPure_b2s, evalOp_s2b, s2bR, goK_mark, dgoK_mark, isEff_mark, isPure_mark, evalOp_mark, markA_slc, markB, ↓reduceIte, Nat.reduceEqDiff, Int.reduceToNat, Int.reducePow, Nat.reduceAdd, Nat.reduceLeDiff, Nat.reduceMul, Nat.reduceBEq, reduceCtorEq, pen_Pen_U32, pen_Pen_U32.body]
  refine callK_fn (word_ok hp (by omega) (k := 4) (by omega) hsm _ ?_)
  intro a' H' g1 g2 g3
  refine runL_V 60 ?_
  simp (disch := first | omega | (simp only [List.length_append, List.length_cons, List.length_nil, List.length_set, List.length_map, List.length_take, List.length_drop]; omega)) only [stdh, goK_s2b, dgoK_s2b, isEff_s2b, isPure_s2b, goK_b2s, dgoK_b2s, isEff_b2s, isPure_b2s, evalOp_s2b, s2bR, goK_mark, dgoK_mark, isEff_mark, isPure_mark, evalOp_mark, markA_slc, markB, ↓reduceIte, Nat.reduceEqDiff, Int.reduceToNat, Int.reducePow, Nat.reduceAdd, Nat.reduceLeDiff, Nat.reduceMul, Nat.reduceBEq, reduceCtorEq]
  exact h a' H' g1 g2 g3

theorem mine_nostr {k : IntKind} {el : TypeId} {B : Nat} {H : AHeap} {a : AVal} {xs : List Nat} (h : Mine k el B H a xs) : ∀ s, a ≠ .str s := by
  rcases h.is with ⟨rfl, _⟩ | ⟨_, _, rfl, _⟩ <;> simp

theorem putAll_len : ∀ (l : List Nat), (∀ n ∈ l, n < 18446744073709551616) → (putAll l).length ≤ 10 * l.length
  | [], _ => by simp [putAll]
  | n :: l, h => by
    have h1 := putAll_len l fun m hm => h m (by simp [hm])
    have h2 := sizeOf_le10 (h n (by simp))
    have h3 := putOne_length n
    simp only [putAll, List.flatMap_cons, List.length_append, List.length_cons] at h1 ⊢
    omega

theorem number_ok (hp : PenAt H p a xs room full) (hsm : xs.length ≤ 500000) {l : AVal} {ns : List Nat} (hl : Nats .u64 H l ns) (hb : ∀ n ∈ ns, n < 18446744073709551616) (hlen : ns.length ≤ 1000) (Q : AVal → AHeap → Prop) (h : Wrote p a H xs room full (putAll ns) Q) :
    FunOK Try.prog F.pen_Pen_Number [.ptr p 0, l] H Q := by
  refine fun_V 60 pen_Pen_Number_code rfl ?_
  simp (disch := first | omega | (simp only [List.length_append, List.length_cons, List.length_nil, List.length_set, List.length_map, List.length_take, List.length_drop]; omega)) only [stdh, goK_s2b, dgoK_s2b, isEff_s2b, isPure_s2b, goK_b2s, dgoK_b2s, isEff_b2s, isPure_b2s, evalOp_s2b, s2bR, goK_mark, dgoK_mark, isEff_mark, isPure_mark, evalOp_mark, markA_slc, markB, ↓reduceIte, Nat.reduceEqDiff, Int.reduceToNat, Int.reducePow, Nat.reduceAdd, Nat.reduceLeDiff, Nat.reduceMul, Nat.reduceBEq, reduceCtorEq, pen_Pen_Number, pen_Pen_Number.body]
  refine callK_fn (put_ok _ hl hb hlen _ ?_)
  intro b H1 hm hk
  refine runL_V 60 ?_
  simp (disch := first | omega | (simp only [List.length_append, List.length_cons, List.length_nil, List.length_set, List.length_map, List.length_take, List.length_drop]; omega)) only [stdh, goK_s2b, dgoK_s2b, isEff_s2b, isPure_s2b, goK_b2s, dgoK_b2s, isEff_b2s, isPure_b2s, evalOp_s2b, s2bR, goK_mark, dgoK_mark, isEff_mark, isPure_mark, evalOp_mark, markA_slc, markB, ↓reduceIte, Nat.reduceEqDiff, Int.reduceToNat, Int.reducePow, Nat.reduceAdd, Nat.reduceLeDiff, Nat.reduceMul, Nat.reduceBEq, reduceCtorEq]
  have := putAll_len ns hb
  refine callK_fn (raw_ok _ (hp.keep hk) hm.nats (mine_nostr hm) (by omega) _ ?_)
  intro a' H' g1 g2 g3
  refine runL_V 60 ?_
  simp (disch := first | omega | (simp only [List.length_append, List.length_cons, List.length_nil, List.length_set, List.length_map, List.length_take, List.length_drop]; omega)) only [stdh, goK_s2b, dgoK_s2b, isEff_s2b, isPure_s2b, goK_b2s, dgoK_b2s, isEff_b2s, isPure_b2s, evalOp_s2b, s2bR, goK_mark, dgoK_mark, isEff_mark, isPure_mark, evalOp_mark, markA_slc, markB, ↓reduceIte, Nat.reduceEqDiff, Int.reduceToNat, Int.reducePow, Nat.reduceAdd, Nat.reduceLeDiff, Nat.reduceMul, Nat.reduceBEq, reduceCtorEq]
  exact h.keep hk a' H' g1 g2 g3

theorem pfield_ok (hp : PenAt H p a xs room full) (hsm : xs.length ≤ 500000) {b : AVal} {ys : List Nat} (hb : Nats .u8 H b ys) (hs : ∀ s, b ≠ .str s) (hlen : ys.length ≤ 1000) (Q : AVal → AHeap → Prop) (h : Wrote p a H xs room full (putAll [ys.length] ++ ys) Q) :
    FunOK Try.prog F.pen_Pen_Field [.ptr p 0, b] H Q := by
  refine fun_V 60 pen_Pen_Field_code rfl ?_
  simp (disch := first | omega | (simp only [List.length_append, List.length_cons, List.length_nil, List.length_set, List.length_map, List.length_take, List.length_drop]; omega)) only [stdh, goK_s2b, dgoK_s2b, isEff_s2b, isPure_s2b, goK_b2s, dgoK_b2s, isEff_b2s, isPure_b2s, evalOp_s2b, s2bR, goK_mark, dgoK_mark, isEff_mark, isPure_mark, evalOp_mark, markA_slc, markB, ↓reduceIte, Nat.reduceEqDiff, Int.reduceToNat, Int.reducePow, Nat.reduceAdd, Nat.reduceLeDiff, Nat.reduceMul, Nat.reduceBEq, reduceCtorEq, pen_Pen_Field, pen_Pen_Field.body, hb.len]
  refine callK_fn (put_ok _ (nats_one (k := .u64) (H := H) (el := T.uint64) (n := ys.length)) (by simp; omega) (by simp) _ ?_)
  intro b1 H1 hm hk
  have hk1 : Keeps H H1 := (keeps_append H _).trans hk
  refine runL_V 60 ?_
  simp (disch := first | omega | (simp only [List.length_append, List.length_cons, List.length_nil, List.length_set, List.length_map, List.length_take, List.length_drop]; omega)) only [stdh, goK_s2b, dgoK_s2b, isEff_s2b, isPure_s2b, goK_b2s, dgoK_b2s, isEff_b2s, isPure_b2s, evalOp_s2b, s2bR, goK_mark, dgoK_mark, isEff_mark, isPure_mark, evalOp_mark, markA_slc, markB, ↓reduceIte, Nat.reduceEqDiff, Int.reduceToNat, Int.reducePow, Nat.reduceAdd, Nat.reduceLeDiff, Nat.reduceMul, Nat.reduceBEq, reduceCtorEq]
  have hpl := putAll_len [ys.length] (by simp; omega)
  simp only [List.length_cons, List.length_nil] at hpl
  obtain ⟨v, H2, q, e1, hq, hm2, hk2⟩ := Mine.append (H := H1) hm (hb.keep hk1) (bytes := 1) hk rfl (by omega) (by omega) hs
  simp (disch := first | omega | (simp only [List.length_append, List.length_cons, List.length_nil, List.length_set, List.length_map, List.length_take, List.length_drop]; omega)) only [stdh, goK_s2b, dgoK_s2b, isEff_s2b, isPure_s2b, goK_b2s, dgoK_b2s, isEff_b2s, isPure_b2s, evalOp_s2b, s2bR, goK_mark, dgoK_mark, isEff_mark, isPure_mark, evalOp_mark, markA_slc, markB, ↓reduceIte, Nat.reduceEqDiff, Int.reduceToNat, Int.reducePow, Nat.reduceAdd, Nat.reduceLeDiff, Nat.reduceMul, Nat.reduceBEq, reduceCtorEq, e1, hq]
  have hk3 : Keeps H H2 := (keeps_append H _).trans hk2
  refine callK_fn (raw_ok _ (hp.keep hk3) hm2.nats (mine_nostr hm2) (by simp; omega) _ ?_)
  intro a' H' g1 g2 g3
  refine runL_V 60 ?_
  simp (disch := first | omega | (simp only [List.length_append, List.length_cons, List.length_nil, List.length_set, List.length_map, List.length_take, List.length_drop]; omega)) only [stdh, goK_s2b, dgoK_s2b, isEff_s2b, isPure_s2b, goK_b2s, dgoK_b2s, isEff_b2s, isPure_b2s, evalOp_s2b, s2bR, goK_mark, dgoK_mark, isEff_mark, isPure_mark, evalOp_mark, markA_slc, markB, ↓reduceIte, Nat.reduceEqDiff, Int.reduceToNat, Int.reducePow, Nat.reduceAdd, Nat.reduceLeDiff, Nat.reduceMul, Nat.reduceBEq, reduceCtorEq]
  exact h.keep hk3 a' H' g1 g2 g3
end
end Go.Proofs.Ytebhlclfiiffbaa

namespace Go.Proofs.Ytebhlclfiiffbaa
open Go Go.Am
set_option linter.unusedSimpArgs false
set_option linter.unusedVariables false

abbrev sgnC : Ctx := ⟨F.pen_Pen_Signed, 23, [.tmp 4], none⟩
def inI64 (z : Int) : Prop := -9223372036854775808 ≤ z ∧ z < 9223372036854775808

theorem signed_loop (K : List AItem) (Q : AVal → AHeap → Prop) {zs : List Int} {t : Bool} (hz : ∀ z ∈ zs, inI64 z) (hlen : zs.length ≤ 1000) {H0 : AHeap} {pv : AVal}
    (hQ : ∀ r H a, rget r 0 = pv → rget r 5 = a → Mine .u64 T.uint64 H0.length H a (zs.map zig) → Keeps H0 H → Run Try.prog sgnC K r H Q) :
    ∀ (m i : Nat) (H : AHeap) (a : AVal), zs.length - i = m → i ≤ zs.length → Mine .u64 T.uint64 H0.length H a ((zs.take i).map zig) → Keeps H0 H →
    Rounds Try.prog sgnC pen_Pen_Signed.b0 [.inBlock 0] K [(0, pv), (5, a), (8, ints t zs), (9, .int .i64 (zs.length : Nat)), (10, .int .i64 (i : Nat))] H Q := by
  intro m
  induction m using Nat.strongRecOn with
  | _ m ih =>
    intro i H a h1 h2 hm hk
    refine loop_V 100 pen_Pen_Signed.b0.eq_1 ?_
    by_cases hi : i < zs.length
    · have hzi : inI64 (zs.getD i 0) := by
        rw [List.getD_eq_getElem?_getD]; simp [hi]; exact hz _ (List.getElem_mem hi)
      simp (disch := first | omega | (simp only [List.length_append, List.length_cons, List.length_nil, List.length_set, List.length_map, List.length_take, List.length_drop]; omega)) only [stdh, goK_s2b, dgoK_s2b, isEff_s2b, isPure_s2b, goK_b2s, dgoK_b2s, isEff_b2s, isPure_b2s, evalOp_s2b, s2bR, goK_mark, dgoK_mark, isEff_mark, isPure_mark, evalOp_mark, markA_slc, markB, ↓reduceIte, Nat.reduceEqDiff, Int.reduceToNat, Int.reducePow, Nat.reduceAdd, Nat.reduceLeDiff, Nat.reduceMul, Nat.reduceBEq, reduceCtorEq]
      refine callK_fn (zig_ok _ _ hzi.1 hzi.2 _ ?_)
      refine runL_V 60 ?_
      simp (disch := first | omega | (simp only [List.length_append, List.length_cons, List.length_nil, List.length_set, List.length_map, List.length_take, List.length_drop]; omega)) only [stdh, goK_s2b, dgoK_s2b, isEff_s2b, isPure_s2b, goK_b2s, dgoK_b2s, isEff_b2s, isPure_b2s, evalOp_s2b, s2bR, goK_mark, dgoK_mark, isEff_mark, isPure_mark, evalOp_mark, markA_slc, markB, ↓reduceIte, Nat.reduceEqDiff, Int.reduceToNat, Int.reducePow, Nat.reduceAdd, Nat.reduceLeDiff, Nat.reduceMul, Nat.reduceBEq, reduceCtorEq]
      obtain ⟨v, H2, q, e1, hq, hm2, hk2⟩ := Mine.append (H := H ++ [_]) (hm.keep (keeps_append H [_])) (nats_one (k := .u64) (H := H) (el := T.uint64) (n := zig (zs.getD i 0))) (bytes := 8) (hk.trans (keeps_append H _)) rfl (by simp; omega) (by simp; omega) (by simp)
      simp (disch := first | omega | (simp only [List.length_append, List.length_cons, List.length_nil, List.length_set, List.length_map, List.length_take, List.length_drop]; omega)) only [stdh, goK_s2b, dgoK_s2b, isEff_s2b, isPure_s2b, goK_b2s, dgoK_b2s, isEff_b2s, isPure_b2s, evalOp_s2b, s2bR, goK_mark, dgoK_mark, isEff_mark, isPure_mark, evalOp_mark, markA_slc, markB, ↓reduceIte, Nat.reduceEqDiff, Int.reduceToNat, Int.reducePow, Nat.reduceAdd, Nat.reduceLeDiff, Nat.reduceMul, Nat.reduceBEq, reduceCtorEq, e1, hq]
      refine ih (zs.length - (i + 1)) (by omega) (i + 1) H2 v rfl (by omega) ?_ hk2
      have : (zs.take (i + 1)).map zig = (zs.take i).map zig ++ [zig (zs.getD i 0)] := by
        rw [List.take_succ_eq_append_getElem hi, List.map_append, List.map_cons, List.map_nil, List.getD_eq_getElem?_getD, List.getElem?_eq_getElem hi, Option.getD_some]
      rw [this]; exact hm2
    · simp (disch := first | omega | (simp only [List.length_append, List.length_cons, List.length_nil, List.length_set, List.length_map, List.length_take, List.length_drop]; omega)) only [stdh, goK_s2b, dgoK_s2b, isEff_s2b, isPure_s2b, goK_b2s, dgoK_b2s, isEff_b2s, isPure_b2s, evalOp_s2b, s2bR, goK_mark, dgoK_mark, isEff_mark, isPure_mark, evalOp_mark, markA_slc, markB, ↓reduceIte, Nat.reduceEqDiff, Int.reduceToNat, Int.reducePow, Nat.reduceAdd, Nat.reduceLeDiff, Nat.reduceMul, Nat.reduceBEq, reduceCtorEq]
      rw [List.take_of_length_le (by omega)] at hm
      exact hQ _ _ _ rfl rfl hm hk

section
variable {H : AHeap} {p : Nat} {a : AVal} {xs : List Nat} {room : Nat} {full : Bool}

theorem signed_ok (hp : PenAt H p a xs room full) (hsm : xs.length ≤ 500000) {zs : List Int} {t : Bool} (hz : ∀ z ∈ zs, inI64 z) (hlen : zs.length ≤ 1000) (Q : AVal → AHeap → Prop) (h : Wrote p a H xs room full (putAll (zs.map zig)) Q) :
    FunOK Try.prog F.pen_Pen_Signed [.ptr p 0, ints t zs] H Q := by
  refine fun_V 60 pen_Pen_Signed_code rfl ?_
  simp (disch := first | omega | (simp only [List.length_append, List.length_cons, List.length_nil, List.length_set, List.length_map, List.length_take, List.length_drop]; omega)) only [stdh, goK_s2b, dgoK_s2b, isEff_s2b, isPure_s2b, goK_b2s, dgoK_b2s, isEff_b2s, isPure_b2s, evalOp_s2b, s2bR, goK_mark, dgoK_mark, isEff_mark, isPure_mark, evalOp_mark, markA_slc, markB, ↓reduceIte, Nat.reduceEqDiff, Int.reduceToNat, Int.reducePow, Nat.reduceAdd, Nat.reduceLeDiff, Nat.reduceMul, Nat.reduceBEq, reduceCtorEq, pen_Pen_Signed, pen_Pen_Signed.body]
  refine signed_loop _ _ hz hlen (H0 := H) ?_ _ 0 H .nils rfl (by omega) ⟨.inl ⟨rfl, rfl⟩⟩ (Keeps.refl H)
  intro r H1 b f0 f5 hm hk
  refine run_V0 60 ?_
  simp (disch := first | omega | (simp only [List.length_append, List.length_cons, List.length_nil, List.length_set, List.length_map, List.length_take, List.length_drop]; omega)) only [stdh, goK_s2b, dgoK_s2b, isEff_s2b, isPure_s2b, goK_b2s, dgoK_b2s, isEff_b2s, isPure_b2s, evalOp_s2b, s2bR, goK_mark, dgoK_mark, isEff_mark, isPure_mark, evalOp_mark, markA_slc, markB, ↓reduceIte, Nat.reduceEqDiff, Int.reduceToNat, Int.reducePow, Nat.reduceAdd, Nat.reduceLeDiff, Nat.reduceMul, Nat.reduceBEq, reduceCtorEq, f0, f5]
  refine callK_fn (number_ok (hp.keep hk) hsm hm.nats ?_ (by simp; omega) _ ?_)
  · intro n hn
    obtain ⟨z, hz1, rfl⟩ := List.mem_map.1 hn
    exact zig_lt (hz z hz1).1 (hz z hz1).2
  · intro a' H' g1 g2 g3
    refine runL_V 60 ?_
    simp (disch := first | omega | (simp only [List.length_append, List.length_cons, List.length_nil, List.length_set, List.length_map, List.length_take, List.length_drop]; omega)) only [stdh, goK_s2b, dgoK_s2b, isEff_s2b, isPure_s2b, goK_b2s, dgoK_b2s, isEff_b2s, isPure_b2s, evalOp_s2b, s2bR, goK_mark, dgoK_mark, isEff_mark, isPure_mark, evalOp_mark, markA_slc, markB, ↓reduceIte, Nat.reduceEqDiff, Int.reduceToNat, Int.reducePow, Nat.reduceAdd, Nat.reduceLeDiff, Nat.reduceMul, Nat.reduceBEq, reduceCtorEq]
    exact h.keep hk a' H' g1 g2 g3
end

end Go.Proofs.Ytebhlclfiiffbaa
