/-
  Lemmas on the way to the statements of this seat. By an AI agent. No person has read it.
-/
import Derived.Test.YtebhlclfiiffbaaCode
import Derived.Test.YtebhlclfiiffbaaAm6

namespace Go.Proofs.Ytebhlclfiiffbaa
open Go Go.Am
set_option linter.unusedSimpArgs false
set_option linter.unusedVariables false

def sizeOf (n : Nat) : Nat := if h : n < 128 then 1 else 1 + sizeOf (n / 128)
  termination_by n

theorem sizeOf_lt {n : Nat} (h : n < 128) : sizeOf n = 1 := by rw [sizeOf, dif_pos h]
theorem sizeOf_ge {n : Nat} (h : ¬ n < 128) : sizeOf n = 1 + sizeOf (n / 128) := by rw [sizeOf, dif_neg h]

theorem sizeOf_le : ∀ (k n : Nat), n < 128 ^ (k + 1) → sizeOf n ≤ k + 1
  | 0, n, h => by rw [sizeOf_lt (by simpa using h)]; omega
  | k + 1, n, h => by
    by_cases hn : n < 128
    · rw [sizeOf_lt hn]; omega
    · rw [sizeOf_ge hn]
      have := sizeOf_le k (n / 128) (by rw [Nat.pow_succ] at h; exact Nat.div_lt_of_lt_mul (by rw [Nat.mul_comm]; exact h))
      omega
theorem sizeOf_le10 {n : Nat} (h : n < 18446744073709551616) : sizeOf n ≤ 10 := sizeOf_le 9 n (by omega)
theorem sizeOf_pos (n : Nat) : 1 ≤ sizeOf n := by
  by_cases hn : n < 128
  · rw [sizeOf_lt hn]; omega
  · rw [sizeOf_ge hn]; omega
end Go.Proofs.Ytebhlclfiiffbaa

namespace Go.Proofs.Ytebhlclfiiffbaa
open Go Go.Am
set_option linter.unusedSimpArgs false
set_option linter.unusedVariables false

abbrev sameC : Ctx := ⟨F.cuneiformref01_Same, 26, [.tmp 4], none⟩

theorem same_loop (T : List AItem) (H : AHeap) (Q : AVal → AHeap → Prop) {a b : AVal} {xs ys : List Nat} (ha : Nats .u8 H a xs) (hb : Nats .u8 H b ys) (hl : xs.length = ys.length) (hm : xs.length < 9223372036854775808) :
    ∀ (m i : Nat), xs.length - i = m → i ≤ xs.length → (xs.drop i = ys.drop i → ∀ r', Run Try.prog sameC T r' H Q) → (xs.drop i ≠ ys.drop i → Q (.bool false) H) →
    Rounds Try.prog sameC cuneiformref01_Same.b1 [.inBlock 0] T [(0, a), (1, b), (5, .int .i64 i)] H Q
  | m, i, h1, h2, h3, h4 => by
    refine loop_V 200 cuneiformref01_Same.b1.eq_1 ?_
    by_cases hi : i < xs.length
    · have hxi : xs.drop i = xs.getD i 0 :: xs.drop (i + 1) := by
        rw [List.drop_eq_getElem_cons hi]; simp [hi]
      have hyi : ys.drop i = ys.getD i 0 :: ys.drop (i + 1) := by
        rw [List.drop_eq_getElem_cons (by omega : i < ys.length)]; simp [show i < ys.length by omega]
      by_cases he : xs.getD i 0 = ys.getD i 0
      · have he' : ((xs.getD i 0 : Nat) : Int) = ((ys.getD i 0 : Nat) : Int) := by rw [he]
        simp (disch := omega) only [std, goK_s2b, dgoK_s2b, isEff_s2b, isPure_s2b, goK_b2s, dgoK_b2s, isEff_b2s, isPure_b2s, evalOp_s2b, s2bR, goK_mark, dgoK_mark, isEff_mark, isPure_mark, evalOp_mark, markA_slc, markB, ↓reduceIte, Nat.reduceEqDiff, Int.reduceToNat, Int.reducePow, Nat.reduceAdd, Nat.reduceLeDiff, Nat.reduceMul, Nat.reduceBEq, reduceCtorEq, ha.len, hb.len, ha.isSome, hb.isSome, cuneiformref01_Same.d0, ha.load, hb.load, he']
        refine same_loop T H Q ha hb hl hm (xs.length - (i + 1)) (i + 1) rfl (by omega) (fun h => h3 (by rw [hxi, hyi, he, h])) (fun h => h4 (by rw [hxi, hyi, he]; simpa using h))
      · have he' : ((xs.getD i 0 : Nat) : Int) ≠ ((ys.getD i 0 : Nat) : Int) := by omega
        simp (disch := omega) only [std, goK_s2b, dgoK_s2b, isEff_s2b, isPure_s2b, goK_b2s, dgoK_b2s, isEff_b2s, isPure_b2s, evalOp_s2b, s2bR, goK_mark, dgoK_mark, isEff_mark, isPure_mark, evalOp_mark, markA_slc, markB, ↓reduceIte, Nat.reduceEqDiff, Int.reduceToNat, Int.reducePow, Nat.reduceAdd, Nat.reduceLeDiff, Nat.reduceMul, Nat.reduceBEq, reduceCtorEq, ha.len, hb.len, ha.isSome, hb.isSome, cuneiformref01_Same.d0, ha.load, hb.load, he']
        exact h4 (by rw [hxi, hyi]; intro h; exact he (List.cons.inj h).1)
    · simp (disch := omega) only [std, goK_s2b, dgoK_s2b, isEff_s2b, isPure_s2b, goK_b2s, dgoK_b2s, isEff_b2s, isPure_b2s, evalOp_s2b, s2bR, goK_mark, dgoK_mark, isEff_mark, isPure_mark, evalOp_mark, markA_slc, markB, ↓reduceIte, Nat.reduceEqDiff, Int.reduceToNat, Int.reducePow, Nat.reduceAdd, Nat.reduceLeDiff, Nat.reduceMul, Nat.reduceBEq, reduceCtorEq, ha.len, hb.len]
      exact h3 (by rw [List.drop_eq_nil_of_le (by omega), List.drop_eq_nil_of_le (by omega)]) _
  termination_by m => m

theorem same_ok (H : AHeap) {a b : AVal} {xs ys : List Nat} (ha : Nats .u8 H a xs) (hb : Nats .u8 H b ys) (hm : xs.length < 9223372036854775808) (Q : AVal → AHeap → Prop) (h : Q (.bool (decide (xs = ys))) H) : FunOK Try.prog F.cuneiformref01_Same [a, b] H Q := by
  refine fun_V 100 cuneiformref01_Same_code rfl ?_
  by_cases hl : xs.length = ys.length
  · simp (disch := omega) only [std, goK_s2b, dgoK_s2b, isEff_s2b, isPure_s2b, goK_b2s, dgoK_b2s, isEff_b2s, isPure_b2s, evalOp_s2b, s2bR, goK_mark, dgoK_mark, isEff_mark, isPure_mark, evalOp_mark, markA_slc, markB, ↓reduceIte, Nat.reduceEqDiff, Int.reduceToNat, Int.reducePow, Nat.reduceAdd, Nat.reduceLeDiff, Nat.reduceMul, Nat.reduceBEq, reduceCtorEq, cuneiformref01_Same, cuneiformref01_Same.body, ha.len, hb.len, hl]
    refine same_loop _ H Q ha hb hl hm _ 0 rfl (by omega) ?_ ?_
    · intro he r'
      refine run_V 100 ?_
      simp (disch := omega) only [std, goK_s2b, dgoK_s2b, isEff_s2b, isPure_s2b, goK_b2s, dgoK_b2s, isEff_b2s, isPure_b2s, evalOp_s2b, s2bR, goK_mark, dgoK_mark, isEff_mark, isPure_mark, evalOp_mark, markA_slc, markB, ↓reduceIte, Nat.reduceEqDiff, Int.reduceToNat, Int.reducePow, Nat.reduceAdd, Nat.reduceLeDiff, Nat.reduceMul, Nat.reduceBEq, reduceCtorEq]
      simpa [show xs = ys by simpa using he] using h
    · intro he
      simpa [show xs ≠ ys by simpa using he] using h
  · simp (disch := omega) only [std, goK_s2b, dgoK_s2b, isEff_s2b, isPure_s2b, goK_b2s, dgoK_b2s, isEff_b2s, isPure_b2s, evalOp_s2b, s2bR, goK_mark, dgoK_mark, isEff_mark, isPure_mark, evalOp_mark, markA_slc, markB, ↓reduceIte, Nat.reduceEqDiff, Int.reduceToNat, Int.reducePow, Nat.reduceAdd, Nat.reduceLeDiff, Nat.reduceMul, Nat.reduceBEq, reduceCtorEq, cuneiformref01_Same, cuneiformref01_Same.body, ha.len, hb.len]
    simpa [show xs ≠ ys by intro he; exact hl (by rw [he])] using h
end Go.Proofs.Ytebhlclfiiffbaa

namespace Go.Proofs.Ytebhlclfiiffbaa
open Go Go.Am
set_option linter.unusedSimpArgs false
set_option linter.unusedVariables false

/-- A number's bytes. -/
def putOne (n : Nat) : List Nat := if h : n < 128 then [n] else (n % 128 + 128) :: putOne (n / 128)
  termination_by n
theorem putOne_lt {n : Nat} (h : n < 128) : putOne n = [n] := by rw [putOne, dif_pos h]
theorem putOne_ge {n : Nat} (h : ¬ n < 128) : putOne n = (n % 128 + 128) :: putOne (n / 128) := by rw [putOne, dif_neg h]
def putAll (l : List Nat) : List Nat := l.flatMap putOne

theorem putOne_length (n : Nat) : (putOne n).length = sizeOf n := by
  induction n using Nat.strongRecOn with
  | _ n ih =>
    by_cases h : n < 128
    · rw [putOne_lt h, sizeOf_lt h]; rfl
    · rw [putOne_ge h, sizeOf_ge h, List.length_cons, ih _ (by omega)]; omega

theorem putOne_byte (n : Nat) : ∀ b ∈ putOne n, b < 256 := by
  induction n using Nat.strongRecOn with
  | _ n ih =>
    by_cases h : n < 128
    · rw [putOne_lt h]; intro b hb; simp at hb; omega
    · rw [putOne_ge h]; intro b hb
      rcases List.mem_cons.1 hb with rfl | hb
      · omega
      · exact ih _ (by omega) b hb

theorem putAll_byte (l : List Nat) : ∀ b ∈ putAll l, b < 256 := by
  intro b hb
  obtain ⟨n, _, h⟩ := List.mem_flatMap.1 hb
  exact putOne_byte n b h

abbrev putC : Ctx := ⟨F.varint_Put, 29, [.tmp 2], none⟩

theorem or_byte (n : Nat) : Am.bits .or .u8 (IntKind.u8.wrap (n : Int)) 128 = ((n % 128 + 128 : Nat) : Int) := by
  have h := bits_or (k := .u8) rfl (a := n % 256) (b := 128) (by simp [IntKind.bits]; omega) (by simp [IntKind.bits])
  rw [or128 _ (by omega)] at h
  rw [wrap_u8', show (n : Int) % 256 = ((n % 256 : Nat) : Int) by omega]
  refine Eq.trans h ?_
  omega

theorem put_inner (K : List AItem) (H0 : AHeap) (Q : AVal → AHeap → Prop) (l len i : AVal) (n : Nat) : ∀ (H : AHeap) (a : AVal) (xs : List Nat), n < 18446744073709551616 → Mine .u8 T.uint8 H0.length H a xs → Keeps H0 H → xs.length + sizeOf n ≤ 1000000 →
    (∀ r' H' a' xs' (n' : Nat), n' < 128 → xs' ++ [n'] = xs ++ putOne n → Mine .u8 T.uint8 H0.length H' a' xs' → Keeps H0 H' → rget r' 3 = a' → rget r' 5 = .int .u64 n' → rget r' 6 = l → rget r' 7 = len → rget r' 8 = i → Run Try.prog putC K r' H' Q) →
    Rounds Try.prog putC varint_Put.b0 [.inBlock 2] K [(3, a), (5, .int .u64 n), (6, l), (7, len), (8, i)] H Q := by
  induction n using Nat.strongRecOn with
  | _ n ih =>
  intro H a xs h1 hm hk hs h
  refine loop_V 200 varint_Put.b0.eq_1 ?_
  by_cases hn : n < 128
  · simp (disch := omega) only [std, goK_s2b, dgoK_s2b, isEff_s2b, isPure_s2b, goK_b2s, dgoK_b2s, isEff_b2s, isPure_b2s, evalOp_s2b, s2bR, goK_mark, dgoK_mark, isEff_mark, isPure_mark, evalOp_mark, markA_slc, markB, ↓reduceIte, Nat.reduceEqDiff, Int.reduceToNat, Int.reducePow, Nat.reduceAdd, Nat.reduceLeDiff, Nat.reduceMul, Nat.reduceBEq, reduceCtorEq]
    refine h _ H a xs n hn (by rw [putOne_lt hn]) hm hk ?_ ?_ ?_ ?_ ?_ <;> simp (disch := omega) only [std, goK_s2b, dgoK_s2b, isEff_s2b, isPure_s2b, goK_b2s, dgoK_b2s, isEff_b2s, isPure_b2s, evalOp_s2b, s2bR, goK_mark, dgoK_mark, isEff_mark, isPure_mark, evalOp_mark, markA_slc, markB, ↓reduceIte, Nat.reduceEqDiff, Int.reduceToNat, Int.reducePow, Nat.reduceAdd, Nat.reduceLeDiff, Nat.reduceMul, Nat.reduceBEq, reduceCtorEq]
  · have hs' := sizeOf_ge hn
    simp (disch := omega) only [std, goK_s2b, dgoK_s2b, isEff_s2b, isPure_s2b, goK_b2s, dgoK_b2s, isEff_b2s, isPure_b2s, evalOp_s2b, s2bR, goK_mark, dgoK_mark, isEff_mark, isPure_mark, evalOp_mark, markA_slc, markB, ↓reduceIte, Nat.reduceEqDiff, Int.reduceToNat, Int.reducePow, Nat.reduceAdd, Nat.reduceLeDiff, Nat.reduceMul, Nat.reduceBEq, reduceCtorEq, or_byte]
    obtain ⟨v, H', p, e1, hp, hm', hk'⟩ := Mine.append (H := H ++ [_]) (hm.keep ((Keeps.refl H).push _)) (nats_one (k := .u8) (H := H) (el := T.uint8) (n := n % 128 + 128)) (bytes := 1) (hk.push _) rfl (by simp; omega) (by simp; omega) (by simp)
    simp (disch := omega) only [std, goK_s2b, dgoK_s2b, isEff_s2b, isPure_s2b, goK_b2s, dgoK_b2s, isEff_b2s, isPure_b2s, evalOp_s2b, s2bR, goK_mark, dgoK_mark, isEff_mark, isPure_mark, evalOp_mark, markA_slc, markB, ↓reduceIte, Nat.reduceEqDiff, Int.reduceToNat, Int.reducePow, Nat.reduceAdd, Nat.reduceLeDiff, Nat.reduceMul, Nat.reduceBEq, reduceCtorEq, e1, hp]
    have e : (n : Int) / 128 = ((n / 128 : Nat) : Int) := by omega
    rw [e]
    refine ih (n / 128) (by omega) H' v _ (by omega) hm' hk' (by simp; omega) ?_
    intro r' H'' a' xs' n' g1 g2
    refine h r' H'' a' xs' n' g1 ?_
    rw [g2, putOne_ge hn]; simp

theorem put_loop (H0 : AHeap) (K : List AItem) (Q : AVal → AHeap → Prop) {l : AVal} {ns : List Nat} (hl : Nats .u64 H0 l ns) (hb : ∀ n ∈ ns, n < 18446744073709551616) (hlen : ns.length ≤ 1000) :
    ∀ (m i : Nat) (H : AHeap) (a : AVal) (xs : List Nat), ns.length - i = m → i ≤ ns.length → Mine .u8 T.uint8 H0.length H a xs → Keeps H0 H → xs.length ≤ 10 * i →
    (∀ r' H' a', Mine .u8 T.uint8 H0.length H' a' (xs ++ putAll (ns.drop i)) → Keeps H0 H' → rget r' 3 = a' → Run Try.prog putC K r' H' Q) →
    Rounds Try.prog putC varint_Put.b1 [.inBlock 0] K [(3, a), (6, l), (7, .int .i64 ns.length), (8, .int .i64 i)] H Q
  | m, i, H, a, xs, h1, h2, hm, hk, hx, h => by
    refine loop_V 200 varint_Put.b1.eq_1 ?_
    by_cases hi : i < ns.length
    · have hx' := hl.keep hk
      have hni : ns.getD i 0 < 18446744073709551616 := by
        rw [List.getD_eq_getElem?_getD]; simp [hi]; exact hb _ (List.getElem_mem hi)
      have hdi : ns.drop i = ns.getD i 0 :: ns.drop (i + 1) := by
        rw [List.drop_eq_getElem_cons hi]; simp [hi]
      have hsz := sizeOf_le10 hni
      simp (disch := omega) only [std, goK_s2b, dgoK_s2b, isEff_s2b, isPure_s2b, goK_b2s, dgoK_b2s, isEff_b2s, isPure_b2s, evalOp_s2b, s2bR, goK_mark, dgoK_mark, isEff_mark, isPure_mark, evalOp_mark, markA_slc, markB, ↓reduceIte, Nat.reduceEqDiff, Int.reduceToNat, Int.reducePow, Nat.reduceAdd, Nat.reduceLeDiff, Nat.reduceMul, Nat.reduceBEq, reduceCtorEq, hx'.len, hx'.isSome, hx'.load]
      refine put_inner _ H0 Q _ _ _ _ H a xs hni hm hk (by omega) ?_
      intro r' H' a' xs' n' g1 g2 g3 g4 e1 e2 e3 e4 e5
      refine run_V 100 ?_
      have hu : IntKind.u8.wrap (n' : Int) = (n' : Int) := by rw [wrap_u8']; omega
      have hlx : xs'.length + 1 = xs.length + sizeOf (ns.getD i 0) := by
        have := congrArg List.length g2
        simpa [putOne_length] using this
      simp (disch := omega) only [std, goK_s2b, dgoK_s2b, isEff_s2b, isPure_s2b, goK_b2s, dgoK_b2s, isEff_b2s, isPure_b2s, evalOp_s2b, s2bR, goK_mark, dgoK_mark, isEff_mark, isPure_mark, evalOp_mark, markA_slc, markB, ↓reduceIte, Nat.reduceEqDiff, Int.reduceToNat, Int.reducePow, Nat.reduceAdd, Nat.reduceLeDiff, Nat.reduceMul, Nat.reduceBEq, reduceCtorEq, e1, e2, e3, e4, e5, hu]
      obtain ⟨v, H'', p, q1, hp, hm', hk'⟩ := Mine.append (H := H' ++ [_]) (g3.keep ((Keeps.refl H').push _)) (nats_one (k := .u8) (H := H') (el := T.uint8) (n := n')) (bytes := 1) (g4.push _) rfl (by simp; omega) (by simp; omega) (by simp)
      simp (disch := omega) only [std, goK_s2b, dgoK_s2b, isEff_s2b, isPure_s2b, goK_b2s, dgoK_b2s, isEff_b2s, isPure_b2s, evalOp_s2b, s2bR, goK_mark, dgoK_mark, isEff_mark, isPure_mark, evalOp_mark, markA_slc, markB, ↓reduceIte, Nat.reduceEqDiff, Int.reduceToNat, Int.reducePow, Nat.reduceAdd, Nat.reduceLeDiff, Nat.reduceMul, Nat.reduceBEq, reduceCtorEq, q1, hp, e3, e4, e5]
      refine put_loop H0 K Q hl hb hlen (ns.length - (i + 1)) (i + 1) H'' v _ rfl (by omega) hm' hk' (by simp; omega) ?_
      intro r'' H3 a3 w1
      refine h r'' H3 a3 ?_
      rw [hdi]
      rw [g2] at w1
      simpa [putAll] using w1
    · simp (disch := omega) only [std, goK_s2b, dgoK_s2b, isEff_s2b, isPure_s2b, goK_b2s, dgoK_b2s, isEff_b2s, isPure_b2s, evalOp_s2b, s2bR, goK_mark, dgoK_mark, isEff_mark, isPure_mark, evalOp_mark, markA_slc, markB, ↓reduceIte, Nat.reduceEqDiff, Int.reduceToNat, Int.reducePow, Nat.reduceAdd, Nat.reduceLeDiff, Nat.reduceMul, Nat.reduceBEq, reduceCtorEq]
      refine h _ H a ?_ hk ?_
      · rw [List.drop_eq_nil_of_le (by omega)]; simpa [putAll] using hm
      · simp (disch := omega) only [std, goK_s2b, dgoK_s2b, isEff_s2b, isPure_s2b, goK_b2s, dgoK_b2s, isEff_b2s, isPure_b2s, evalOp_s2b, s2bR, goK_mark, dgoK_mark, isEff_mark, isPure_mark, evalOp_mark, markA_slc, markB, ↓reduceIte, Nat.reduceEqDiff, Int.reduceToNat, Int.reducePow, Nat.reduceAdd, Nat.reduceLeDiff, Nat.reduceMul, Nat.reduceBEq, reduceCtorEq]
  termination_by m => m

/-- The bytes of numbers. -/
theorem put_ok (H : AHeap) {l : AVal} {ns : List Nat} (hl : Nats .u64 H l ns) (hb : ∀ n ∈ ns, n < 18446744073709551616) (hlen : ns.length ≤ 1000) (Q : AVal → AHeap → Prop)
    (h : ∀ a H', Mine .u8 T.uint8 H.length H' a (putAll ns) → Keeps H H' → Q a H') : FunOK Try.prog F.varint_Put [l] H Q := by
  refine fun_V 100 varint_Put_code rfl ?_
  simp (disch := omega) only [std, goK_s2b, dgoK_s2b, isEff_s2b, isPure_s2b, goK_b2s, dgoK_b2s, isEff_b2s, isPure_b2s, evalOp_s2b, s2bR, goK_mark, dgoK_mark, isEff_mark, isPure_mark, evalOp_mark, markA_slc, markB, ↓reduceIte, Nat.reduceEqDiff, Int.reduceToNat, Int.reducePow, Nat.reduceAdd, Nat.reduceLeDiff, Nat.reduceMul, Nat.reduceBEq, reduceCtorEq, varint_Put, varint_Put.body, hl.len]
  refine put_loop H _ Q hl hb hlen _ 0 H .nils [] rfl (by omega) ⟨.inl ⟨rfl, rfl⟩⟩ (Keeps.refl H) (by simp) ?_
  intro r' H' a' g1 g2 g3
  refine run_V 100 ?_
  simp (disch := omega) only [std, goK_s2b, dgoK_s2b, isEff_s2b, isPure_s2b, goK_b2s, dgoK_b2s, isEff_b2s, isPure_b2s, evalOp_s2b, s2bR, goK_mark, dgoK_mark, isEff_mark, isPure_mark, evalOp_mark, markA_slc, markB, ↓reduceIte, Nat.reduceEqDiff, Int.reduceToNat, Int.reducePow, Nat.reduceAdd, Nat.reduceLeDiff, Nat.reduceMul, Nat.reduceBEq, reduceCtorEq, g3]
  exact h a' H' (by simpa using g1) g2
end Go.Proofs.Ytebhlclfiiffbaa

namespace Go.Proofs.Ytebhlclfiiffbaa
open Go Go.Am
set_option linter.unusedSimpArgs false
set_option linter.unusedVariables false

/-- The number that bytes begin with, how many it has, the error's number. -/
def getFrom : Nat → Nat → Nat → List Nat → Nat × Nat × Nat
  | 0, _, _, _ => (0, 0, 3)
  | _ + 1, _, _, [] => (0, 0, 4)
  | f + 1, i, n, b :: rest =>
    if 128 ≤ b then getFrom f (i + 1) (n + (b % 128 % 2 ^ (64 - 7 * i)) * 2 ^ (7 * i)) rest
    else if (0 < i ∧ b % 128 = 0) ∨ b % 128 % 2 ^ (64 - 7 * i) ≠ b % 128 then (0, 0, 3)
    else (n + (b % 128 % 2 ^ (64 - 7 * i)) * 2 ^ (7 * i), i + 1, 0)

def getSpec (bs : List Nat) : Nat × Nat × Nat := getFrom 10 0 0 bs

def got (r : Nat × Nat × Nat) : AVal := .tup [.int .u64 r.1, .int .i64 r.2.1, .int .i64 r.2.2]

abbrev getC : Ctx := ⟨F.varint_Get, 53, [.tmp 2, .tmp 3, .tmp 4], none⟩

theorem shl_part {p i : Nat} (hi : i ≤ 9) : IntKind.u64.wrap ((p : Int) * 2 ^ (7 * i)) = ((p % 2 ^ (64 - 7 * i) * 2 ^ (7 * i) : Nat) : Int) := by
  rw [wrap_u64', show (p : Int) * 2 ^ (7 * i) = ((p * 2 ^ (7 * i) : Nat) : Int) by push_cast; rfl, show (18446744073709551616 : Int) = ((2 ^ (64 - 7 * i) * 2 ^ (7 * i) : Nat) : Int) by
    rw [← Nat.pow_add, show 64 - 7 * i + 7 * i = 64 by omega]; rfl]
  rw [← Int.natCast_emod, Nat.mul_mod_mul_right]

theorem part_lt (p i : Nat) (hi : i ≤ 9) : p % 2 ^ (64 - 7 * i) * 2 ^ (7 * i) + 2 ^ (7 * i) ≤ 2 ^ 64 := by
  have h1 : p % 2 ^ (64 - 7 * i) < 2 ^ (64 - 7 * i) := Nat.mod_lt _ (Nat.two_pow_pos _)
  have h2 : 2 ^ 64 = 2 ^ (64 - 7 * i) * 2 ^ (7 * i) := by rw [← Nat.pow_add, show 64 - 7 * i + 7 * i = 64 by omega]
  rw [h2, ← Nat.succ_mul]
  exact Nat.mul_le_mul_right _ h1

theorem get_loop (K : List AItem) (H : AHeap) (Q : AVal → AHeap → Prop) {l : AVal} {bs : List Nat} (hl : Nats .u8 H l bs) (hb : ∀ b ∈ bs, b < 256) (hlen : bs.length < 9223372036854775808)
    (h : ∀ r', getSpec bs = (0, 0, 3) → Run Try.prog getC K r' H Q) (hQ : getSpec bs ≠ (0, 0, 3) → Q (got (getSpec bs)) H) :
    ∀ (m i n : Nat), 10 - i = m → i ≤ 10 → n < 2 ^ (7 * i) → getSpec bs = getFrom (10 - i) i n (bs.drop i) →
    Rounds Try.prog getC varint_Get.b0 [.inBlock 0] K [(0, l), (5, .int .u64 n), (8, .int .i64 i)] H Q
  | m, i, n, h1, h2, h3, h4 => by
    refine loop_V 24 varint_Get.b0.eq_1 ?_
    by_cases hi : i < 10
    · rw [show 10 - i = (10 - (i + 1)) + 1 by omega] at h4
      by_cases hil : i < bs.length
      · have hdi : bs.drop i = bs.getD i 0 :: bs.drop (i + 1) := by
          rw [List.drop_eq_getElem_cons hil]; simp [hil]
        have hbi : bs.getD i 0 < 256 := by
          rw [List.getD_eq_getElem?_getD]; simp [hil]; exact hb _ (List.getElem_mem hil)
        generalize hbe : bs.getD i 0 = b at *
        rw [hdi, getFrom] at h4
        have hp : ((b : Nat) : Int).tmod 128 = ((b % 128 : Nat) : Int) := by rw [Int.tmod_eq_emod_of_nonneg (by omega)]; omega
        have hc : IntKind.u64.wrap ((b % 128 : Nat) : Int) = ((b % 128 : Nat) : Int) := wrap_u64 (by omega)
        have hs : min ((7 : Int) * (i : Int)).toNat 64 = 7 * i := by omega
        have hsh := shl_part (p := b % 128) (i := i) (by omega)
        have hpl := part_lt (b % 128) i (by omega)
        generalize hq : b % 128 % 2 ^ (64 - 7 * i) = q at *
        have hor : Am.bits .or .u64 (n : Int) ((q * 2 ^ (7 * i) : Nat) : Int) = ((n + q * 2 ^ (7 * i) : Nat) : Int) := by
          have hlt : 2 ^ (7 * i) ≤ 2 ^ 64 := Nat.pow_le_pow_right (by omega) (by omega)
          rw [bits_or rfl (by simp only [IntKind.bits]; omega) (by simp only [IntKind.bits]; have := Nat.two_pow_pos (7 * i); omega), or_shift h3]
        have hdv : ((q * 2 ^ (7 * i) : Nat) : Int) / 2 ^ (7 * i) = (q : Int) := by
          have : ((2 : Int) ^ (7 * i)) = ((2 ^ (7 * i) : Nat) : Int) := by simp
          rw [this, ← Int.natCast_ediv, Nat.mul_div_cancel _ (Nat.two_pow_pos _)]
        by_cases h128 : 128 ≤ b
        · rw [if_pos h128] at h4
          (simp (disch := omega) only [std, goK_s2b, dgoK_s2b, isEff_s2b, isPure_s2b, goK_b2s, dgoK_b2s, isEff_b2s, isPure_b2s, evalOp_s2b, s2bR, goK_mark, dgoK_mark, isEff_mark, isPure_mark, evalOp_mark, markA_slc, markB, ↓reduceIte, Nat.reduceEqDiff, Int.reduceToNat, Int.reducePow, Nat.reduceAdd, Nat.reduceLeDiff, Nat.reduceMul, Nat.reduceBEq, reduceCtorEq, hl.len, hl.isSome, hl.load, hbe, hp, hc, hs, hsh, hor]; repeat (first | (refine runL_V 20 ?_; simp (disch := omega) only [std, goK_s2b, dgoK_s2b, isEff_s2b, isPure_s2b, goK_b2s, dgoK_b2s, isEff_b2s, isPure_b2s, evalOp_s2b, s2bR, goK_mark, dgoK_mark, isEff_mark, isPure_mark, evalOp_mark, markA_slc, markB, ↓reduceIte, Nat.reduceEqDiff, Int.reduceToNat, Int.reducePow, Nat.reduceAdd, Nat.reduceLeDiff, Nat.reduceMul, Nat.reduceBEq, reduceCtorEq, hl.len, hl.isSome, hl.load, hbe, hp, hc, hs, hsh, hor]) | (refine run_V 20 ?_; simp (disch := omega) only [std, goK_s2b, dgoK_s2b, isEff_s2b, isPure_s2b, goK_b2s, dgoK_b2s, isEff_b2s, isPure_b2s, evalOp_s2b, s2bR, goK_mark, dgoK_mark, isEff_mark, isPure_mark, evalOp_mark, markA_slc, markB, ↓reduceIte, Nat.reduceEqDiff, Int.reduceToNat, Int.reducePow, Nat.reduceAdd, Nat.reduceLeDiff, Nat.reduceMul, Nat.reduceBEq, reduceCtorEq, hl.len, hl.isSome, hl.load, hbe, hp, hc, hs, hsh, hor]) | (refine runD_V 20 ?_; simp (disch := omega) only [std, goK_s2b, dgoK_s2b, isEff_s2b, isPure_s2b, goK_b2s, dgoK_b2s, isEff_b2s, isPure_b2s, evalOp_s2b, s2bR, goK_mark, dgoK_mark, isEff_mark, isPure_mark, evalOp_mark, markA_slc, markB, ↓reduceIte, Nat.reduceEqDiff, Int.reduceToNat, Int.reducePow, Nat.reduceAdd, Nat.reduceLeDiff, Nat.reduceMul, Nat.reduceBEq, reduceCtorEq, hl.len, hl.isSome, hl.load, hbe, hp, hc, hs, hsh, hor])))
          refine get_loop K H Q hl hb hlen h hQ _ (i + 1) _ rfl (by omega) ?_ h4
          have hq' : q ≤ 127 := by rw [← hq]; exact Nat.le_trans (Nat.mod_le _ _) (by omega)
          have := Nat.mul_le_mul_right (2 ^ (7 * i)) hq'
          rw [show 7 * (i + 1) = 7 * i + 7 by omega, Nat.pow_add]
          omega
        · rw [if_neg h128] at h4
          by_cases hz : 0 < i ∧ b % 128 = 0
          · rw [if_pos (Or.inl hz)] at h4
            (simp (disch := omega) only [std, goK_s2b, dgoK_s2b, isEff_s2b, isPure_s2b, goK_b2s, dgoK_b2s, isEff_b2s, isPure_b2s, evalOp_s2b, s2bR, goK_mark, dgoK_mark, isEff_mark, isPure_mark, evalOp_mark, markA_slc, markB, ↓reduceIte, Nat.reduceEqDiff, Int.reduceToNat, Int.reducePow, Nat.reduceAdd, Nat.reduceLeDiff, Nat.reduceMul, Nat.reduceBEq, reduceCtorEq, hl.len, hl.isSome, hl.load, hbe, hp, hc, hs, hsh, hor, hdv, hz.2]; repeat (first | (refine runL_V 20 ?_; simp (disch := omega) only [std, goK_s2b, dgoK_s2b, isEff_s2b, isPure_s2b, goK_b2s, dgoK_b2s, isEff_b2s, isPure_b2s, evalOp_s2b, s2bR, goK_mark, dgoK_mark, isEff_mark, isPure_mark, evalOp_mark, markA_slc, markB, ↓reduceIte, Nat.reduceEqDiff, Int.reduceToNat, Int.reducePow, Nat.reduceAdd, Nat.reduceLeDiff, Nat.reduceMul, Nat.reduceBEq, reduceCtorEq, hl.len, hl.isSome, hl.load, hbe, hp, hc, hs, hsh, hor, hdv, hz.2]) | (refine run_V 20 ?_; simp (disch := omega) only [std, goK_s2b, dgoK_s2b, isEff_s2b, isPure_s2b, goK_b2s, dgoK_b2s, isEff_b2s, isPure_b2s, evalOp_s2b, s2bR, goK_mark, dgoK_mark, isEff_mark, isPure_mark, evalOp_mark, markA_slc, markB, ↓reduceIte, Nat.reduceEqDiff, Int.reduceToNat, Int.reducePow, Nat.reduceAdd, Nat.reduceLeDiff, Nat.reduceMul, Nat.reduceBEq, reduceCtorEq, hl.len, hl.isSome, hl.load, hbe, hp, hc, hs, hsh, hor, hdv, hz.2]) | (refine runD_V 20 ?_; simp (disch := omega) only [std, goK_s2b, dgoK_s2b, isEff_s2b, isPure_s2b, goK_b2s, dgoK_b2s, isEff_b2s, isPure_b2s, evalOp_s2b, s2bR, goK_mark, dgoK_mark, isEff_mark, isPure_mark, evalOp_mark, markA_slc, markB, ↓reduceIte, Nat.reduceEqDiff, Int.reduceToNat, Int.reducePow, Nat.reduceAdd, Nat.reduceLeDiff, Nat.reduceMul, Nat.reduceBEq, reduceCtorEq, hl.len, hl.isSome, hl.load, hbe, hp, hc, hs, hsh, hor, hdv, hz.2])))
            exact h _ h4
          · have hq3 : q = b % 128 → Q (got (n + q * 2 ^ (7 * i), i + 1, 0)) H := by
              intro hq2
              rw [if_neg (by omega)] at h4
              rw [h4] at hQ
              exact hQ (by simp)
            have hq4 : q ≠ b % 128 → getSpec bs = (0, 0, 3) := by
              intro hq2
              rw [if_pos (Or.inr hq2)] at h4
              exact h4
            by_cases hi0 : 0 < i
            · have hz0 : ((b % 128 : Nat) : Int) ≠ 0 := by omega
              by_cases hq2 : q = b % 128
              · have hqq : (q : Int) = ((b % 128 : Nat) : Int) := by rw [hq2]
                (simp (disch := omega) only [std, goK_s2b, dgoK_s2b, isEff_s2b, isPure_s2b, goK_b2s, dgoK_b2s, isEff_b2s, isPure_b2s, evalOp_s2b, s2bR, goK_mark, dgoK_mark, isEff_mark, isPure_mark, evalOp_mark, markA_slc, markB, ↓reduceIte, Nat.reduceEqDiff, Int.reduceToNat, Int.reducePow, Nat.reduceAdd, Nat.reduceLeDiff, Nat.reduceMul, Nat.reduceBEq, reduceCtorEq, hl.len, hl.isSome, hl.load, hbe, hp, hc, hs, hsh, hor, hdv, hz0, hqq]; repeat (first | (refine runL_V 20 ?_; simp (disch := omega) only [std, goK_s2b, dgoK_s2b, isEff_s2b, isPure_s2b, goK_b2s, dgoK_b2s, isEff_b2s, isPure_b2s, evalOp_s2b, s2bR, goK_mark, dgoK_mark, isEff_mark, isPure_mark, evalOp_mark, markA_slc, markB, ↓reduceIte, Nat.reduceEqDiff, Int.reduceToNat, Int.reducePow, Nat.reduceAdd, Nat.reduceLeDiff, Nat.reduceMul, Nat.reduceBEq, reduceCtorEq, hl.len, hl.isSome, hl.load, hbe, hp, hc, hs, hsh, hor, hdv, hz0, hqq]) | (refine run_V 20 ?_; simp (disch := omega) only [std, goK_s2b, dgoK_s2b, isEff_s2b, isPure_s2b, goK_b2s, dgoK_b2s, isEff_b2s, isPure_b2s, evalOp_s2b, s2bR, goK_mark, dgoK_mark, isEff_mark, isPure_mark, evalOp_mark, markA_slc, markB, ↓reduceIte, Nat.reduceEqDiff, Int.reduceToNat, Int.reducePow, Nat.reduceAdd, Nat.reduceLeDiff, Nat.reduceMul, Nat.reduceBEq, reduceCtorEq, hl.len, hl.isSome, hl.load, hbe, hp, hc, hs, hsh, hor, hdv, hz0, hqq]) | (refine runD_V 20 ?_; simp (disch := omega) only [std, goK_s2b, dgoK_s2b, isEff_s2b, isPure_s2b, goK_b2s, dgoK_b2s, isEff_b2s, isPure_b2s, evalOp_s2b, s2bR, goK_mark, dgoK_mark, isEff_mark, isPure_mark, evalOp_mark, markA_slc, markB, ↓reduceIte, Nat.reduceEqDiff, Int.reduceToNat, Int.reducePow, Nat.reduceAdd, Nat.reduceLeDiff, Nat.reduceMul, Nat.reduceBEq, reduceCtorEq, hl.len, hl.isSome, hl.load, hbe, hp, hc, hs, hsh, hor, hdv, hz0, hqq])))
                exact hq3 hq2
              · have hqq : (q : Int) ≠ ((b % 128 : Nat) : Int) := by omega
                (simp (disch := omega) only [std, goK_s2b, dgoK_s2b, isEff_s2b, isPure_s2b, goK_b2s, dgoK_b2s, isEff_b2s, isPure_b2s, evalOp_s2b, s2bR, goK_mark, dgoK_mark, isEff_mark, isPure_mark, evalOp_mark, markA_slc, markB, ↓reduceIte, Nat.reduceEqDiff, Int.reduceToNat, Int.reducePow, Nat.reduceAdd, Nat.reduceLeDiff, Nat.reduceMul, Nat.reduceBEq, reduceCtorEq, hl.len, hl.isSome, hl.load, hbe, hp, hc, hs, hsh, hor, hdv, hz0, hqq]; repeat (first | (refine runL_V 20 ?_; simp (disch := omega) only [std, goK_s2b, dgoK_s2b, isEff_s2b, isPure_s2b, goK_b2s, dgoK_b2s, isEff_b2s, isPure_b2s, evalOp_s2b, s2bR, goK_mark, dgoK_mark, isEff_mark, isPure_mark, evalOp_mark, markA_slc, markB, ↓reduceIte, Nat.reduceEqDiff, Int.reduceToNat, Int.reducePow, Nat.reduceAdd, Nat.reduceLeDiff, Nat.reduceMul, Nat.reduceBEq, reduceCtorEq, hl.len, hl.isSome, hl.load, hbe, hp, hc, hs, hsh, hor, hdv, hz0, hqq]) | (refine run_V 20 ?_; simp (disch := omega) only [std, goK_s2b, dgoK_s2b, isEff_s2b, isPure_s2b, goK_b2s, dgoK_b2s, isEff_b2s, isPure_b2s, evalOp_s2b, s2bR, goK_mark, dgoK_mark, isEff_mark, isPure_mark, evalOp_mark, markA_slc, markB, ↓reduceIte, Nat.reduceEqDiff, Int.reduceToNat, Int.reducePow, Nat.reduceAdd, Nat.reduceLeDiff, Nat.reduceMul, Nat.reduceBEq, reduceCtorEq, hl.len, hl.isSome, hl.load, hbe, hp, hc, hs, hsh, hor, hdv, hz0, hqq]) | (refine runD_V 20 ?_; simp (disch := omega) only [std, goK_s2b, dgoK_s2b, isEff_s2b, isPure_s2b, goK_b2s, dgoK_b2s, isEff_b2s, isPure_b2s, evalOp_s2b, s2bR, goK_mark, dgoK_mark, isEff_mark, isPure_mark, evalOp_mark, markA_slc, markB, ↓reduceIte, Nat.reduceEqDiff, Int.reduceToNat, Int.reducePow, Nat.reduceAdd, Nat.reduceLeDiff, Nat.reduceMul, Nat.reduceBEq, reduceCtorEq, hl.len, hl.isSome, hl.load, hbe, hp, hc, hs, hsh, hor, hdv, hz0, hqq])))
                exact h _ (hq4 hq2)
            · by_cases hq2 : q = b % 128
              · have hqq : (q : Int) = ((b % 128 : Nat) : Int) := by rw [hq2]
                (simp (disch := omega) only [std, goK_s2b, dgoK_s2b, isEff_s2b, isPure_s2b, goK_b2s, dgoK_b2s, isEff_b2s, isPure_b2s, evalOp_s2b, s2bR, goK_mark, dgoK_mark, isEff_mark, isPure_mark, evalOp_mark, markA_slc, markB, ↓reduceIte, Nat.reduceEqDiff, Int.reduceToNat, Int.reducePow, Nat.reduceAdd, Nat.reduceLeDiff, Nat.reduceMul, Nat.reduceBEq, reduceCtorEq, hl.len, hl.isSome, hl.load, hbe, hp, hc, hs, hsh, hor, hdv, hqq]; repeat (first | (refine runL_V 20 ?_; simp (disch := omega) only [std, goK_s2b, dgoK_s2b, isEff_s2b, isPure_s2b, goK_b2s, dgoK_b2s, isEff_b2s, isPure_b2s, evalOp_s2b, s2bR, goK_mark, dgoK_mark, isEff_mark, isPure_mark, evalOp_mark, markA_slc, markB, ↓reduceIte, Nat.reduceEqDiff, Int.reduceToNat, Int.reducePow, Nat.reduceAdd, Nat.reduceLeDiff, Nat.reduceMul, Nat.reduceBEq, reduceCtorEq, hl.len, hl.isSome, hl.load, hbe, hp, hc, hs, hsh, hor, hdv, hqq]) | (refine run_V 20 ?_; simp (disch := omega) only [std, goK_s2b, dgoK_s2b, isEff_s2b, isPure_s2b, goK_b2s, dgoK_b2s, isEff_b2s, isPure_b2s, evalOp_s2b, s2bR, goK_mark, dgoK_mark, isEff_mark, isPure_mark, evalOp_mark, markA_slc, markB, ↓reduceIte, Nat.reduceEqDiff, Int.reduceToNat, Int.reducePow, Nat.reduceAdd, Nat.reduceLeDiff, Nat.reduceMul, Nat.reduceBEq, reduceCtorEq, hl.len, hl.isSome, hl.load, hbe, hp, hc, hs, hsh, hor, hdv, hqq]) | (refine runD_V 20 ?_; simp (disch := omega) only [std, goK_s2b, dgoK_s2b, isEff_s2b, isPure_s2b, goK_b2s, dgoK_b2s, isEff_b2s, isPure_b2s, evalOp_s2b, s2bR, goK_mark, dgoK_mark, isEff_mark, isPure_mark, evalOp_mark, markA_slc, markB, ↓reduceIte, Nat.reduceEqDiff, Int.reduceToNat, Int.reducePow, Nat.reduceAdd, Nat.reduceLeDiff, Nat.reduceMul, Nat.reduceBEq, reduceCtorEq, hl.len, hl.isSome, hl.load, hbe, hp, hc, hs, hsh, hor, hdv, hqq])))
                exact hq3 hq2
              · have hqq : (q : Int) ≠ ((b % 128 : Nat) : Int) := by omega
                (simp (disch := omega) only [std, goK_s2b, dgoK_s2b, isEff_s2b, isPure_s2b, goK_b2s, dgoK_b2s, isEff_b2s, isPure_b2s, evalOp_s2b, s2bR, goK_mark, dgoK_mark, isEff_mark, isPure_mark, evalOp_mark, markA_slc, markB, ↓reduceIte, Nat.reduceEqDiff, Int.reduceToNat, Int.reducePow, Nat.reduceAdd, Nat.reduceLeDiff, Nat.reduceMul, Nat.reduceBEq, reduceCtorEq, hl.len, hl.isSome, hl.load, hbe, hp, hc, hs, hsh, hor, hdv, hqq]; repeat (first | (refine runL_V 20 ?_; simp (disch := omega) only [std, goK_s2b, dgoK_s2b, isEff_s2b, isPure_s2b, goK_b2s, dgoK_b2s, isEff_b2s, isPure_b2s, evalOp_s2b, s2bR, goK_mark, dgoK_mark, isEff_mark, isPure_mark, evalOp_mark, markA_slc, markB, ↓reduceIte, Nat.reduceEqDiff, Int.reduceToNat, Int.reducePow, Nat.reduceAdd, Nat.reduceLeDiff, Nat.reduceMul, Nat.reduceBEq, reduceCtorEq, hl.len, hl.isSome, hl.load, hbe, hp, hc, hs, hsh, hor, hdv, hqq]) | (refine run_V 20 ?_; simp (disch := omega) only [std, goK_s2b, dgoK_s2b, isEff_s2b, isPure_s2b, goK_b2s, dgoK_b2s, isEff_b2s, isPure_b2s, evalOp_s2b, s2bR, goK_mark, dgoK_mark, isEff_mark, isPure_mark, evalOp_mark, markA_slc, markB, ↓reduceIte, Nat.reduceEqDiff, Int.reduceToNat, Int.reducePow, Nat.reduceAdd, Nat.reduceLeDiff, Nat.reduceMul, Nat.reduceBEq, reduceCtorEq, hl.len, hl.isSome, hl.load, hbe, hp, hc, hs, hsh, hor, hdv, hqq]) | (refine runD_V 20 ?_; simp (disch := omega) only [std, goK_s2b, dgoK_s2b, isEff_s2b, isPure_s2b, goK_b2s, dgoK_b2s, isEff_b2s, isPure_b2s, evalOp_s2b, s2bR, goK_mark, dgoK_mark, isEff_mark, isPure_mark, evalOp_mark, markA_slc, markB, ↓reduceIte, Nat.reduceEqDiff, Int.reduceToNat, Int.reducePow, Nat.reduceAdd, Nat.reduceLeDiff, Nat.reduceMul, Nat.reduceBEq, reduceCtorEq, hl.len, hl.isSome, hl.load, hbe, hp, hc, hs, hsh, hor, hdv, hqq])))
                exact h _ (hq4 hq2)
      · (simp (disch := omega) only [std, goK_s2b, dgoK_s2b, isEff_s2b, isPure_s2b, goK_b2s, dgoK_b2s, isEff_b2s, isPure_b2s, evalOp_s2b, s2bR, goK_mark, dgoK_mark, isEff_mark, isPure_mark, evalOp_mark, markA_slc, markB, ↓reduceIte, Nat.reduceEqDiff, Int.reduceToNat, Int.reducePow, Nat.reduceAdd, Nat.reduceLeDiff, Nat.reduceMul, Nat.reduceBEq, reduceCtorEq, hl.len]; repeat (first | (refine runL_V 20 ?_; simp (disch := omega) only [std, goK_s2b, dgoK_s2b, isEff_s2b, isPure_s2b, goK_b2s, dgoK_b2s, isEff_b2s, isPure_b2s, evalOp_s2b, s2bR, goK_mark, dgoK_mark, isEff_mark, isPure_mark, evalOp_mark, markA_slc, markB, ↓reduceIte, Nat.reduceEqDiff, Int.reduceToNat, Int.reducePow, Nat.reduceAdd, Nat.reduceLeDiff, Nat.reduceMul, Nat.reduceBEq, reduceCtorEq, hl.len]) | (refine run_V 20 ?_; simp (disch := omega) only [std, goK_s2b, dgoK_s2b, isEff_s2b, isPure_s2b, goK_b2s, dgoK_b2s, isEff_b2s, isPure_b2s, evalOp_s2b, s2bR, goK_mark, dgoK_mark, isEff_mark, isPure_mark, evalOp_mark, markA_slc, markB, ↓reduceIte, Nat.reduceEqDiff, Int.reduceToNat, Int.reducePow, Nat.reduceAdd, Nat.reduceLeDiff, Nat.reduceMul, Nat.reduceBEq, reduceCtorEq, hl.len]) | (refine runD_V 20 ?_; simp (disch := omega) only [std, goK_s2b, dgoK_s2b, isEff_s2b, isPure_s2b, goK_b2s, dgoK_b2s, isEff_b2s, isPure_b2s, evalOp_s2b, s2bR, goK_mark, dgoK_mark, isEff_mark, isPure_mark, evalOp_mark, markA_slc, markB, ↓reduceIte, Nat.reduceEqDiff, Int.reduceToNat, Int.reducePow, Nat.reduceAdd, Nat.reduceLeDiff, Nat.reduceMul, Nat.reduceBEq, reduceCtorEq, hl.len])))
        rw [List.drop_eq_nil_of_le (by omega), getFrom] at h4
        rw [h4] at hQ
        exact hQ (by simp)
    · (simp (disch := omega) only [std, goK_s2b, dgoK_s2b, isEff_s2b, isPure_s2b, goK_b2s, dgoK_b2s, isEff_b2s, isPure_b2s, evalOp_s2b, s2bR, goK_mark, dgoK_mark, isEff_mark, isPure_mark, evalOp_mark, markA_slc, markB, ↓reduceIte, Nat.reduceEqDiff, Int.reduceToNat, Int.reducePow, Nat.reduceAdd, Nat.reduceLeDiff, Nat.reduceMul, Nat.reduceBEq, reduceCtorEq]; repeat (first | (refine runL_V 20 ?_; simp (disch := omega) only [std, goK_s2b, dgoK_s2b, isEff_s2b, isPure_s2b, goK_b2s, dgoK_b2s, isEff_b2s, isPure_b2s, evalOp_s2b, s2bR, goK_mark, dgoK_mark, isEff_mark, isPure_mark, evalOp_mark, markA_slc, markB, ↓reduceIte, Nat.reduceEqDiff, Int.reduceToNat, Int.reducePow, Nat.reduceAdd, Nat.reduceLeDiff, Nat.reduceMul, Nat.reduceBEq, reduceCtorEq]) | (refine run_V 20 ?_; simp (disch := omega) only [std, goK_s2b, dgoK_s2b, isEff_s2b, isPure_s2b, goK_b2s, dgoK_b2s, isEff_b2s, isPure_b2s, evalOp_s2b, s2bR, goK_mark, dgoK_mark, isEff_mark, isPure_mark, evalOp_mark, markA_slc, markB, ↓reduceIte, Nat.reduceEqDiff, Int.reduceToNat, Int.reducePow, Nat.reduceAdd, Nat.reduceLeDiff, Nat.reduceMul, Nat.reduceBEq, reduceCtorEq]) | (refine runD_V 20 ?_; simp (disch := omega) only [std, goK_s2b, dgoK_s2b, isEff_s2b, isPure_s2b, goK_b2s, dgoK_b2s, isEff_b2s, isPure_b2s, evalOp_s2b, s2bR, goK_mark, dgoK_mark, isEff_mark, isPure_mark, evalOp_mark, markA_slc, markB, ↓reduceIte, Nat.reduceEqDiff, Int.reduceToNat, Int.reducePow, Nat.reduceAdd, Nat.reduceLeDiff, Nat.reduceMul, Nat.reduceBEq, reduceCtorEq])))
      refine h _ ?_
      rw [h4, show 10 - i = 0 by omega]; rfl
  termination_by m => m

theorem get_ok (H : AHeap) {l : AVal} {bs : List Nat} (hl : Nats .u8 H l bs) (hb : ∀ b ∈ bs, b < 256) (hlen : bs.length < 9223372036854775808) (Q : AVal → AHeap → Prop) (hQ : Q (got (getSpec bs)) H) : FunOK Try.prog F.varint_Get [l] H Q := by
  refine fun_V 100 varint_Get_code rfl ?_
  simp (disch := omega) only [std, goK_s2b, dgoK_s2b, isEff_s2b, isPure_s2b, goK_b2s, dgoK_b2s, isEff_b2s, isPure_b2s, evalOp_s2b, s2bR, goK_mark, dgoK_mark, isEff_mark, isPure_mark, evalOp_mark, markA_slc, markB, ↓reduceIte, Nat.reduceEqDiff, Int.reduceToNat, Int.reducePow, Nat.reduceAdd, Nat.reduceLeDiff, Nat.reduceMul, Nat.reduceBEq, reduceCtorEq, varint_Get, varint_Get.body]
  refine get_loop _ H Q hl hb hlen ?_ (fun _ => hQ) _ 0 0 rfl (by omega) (by simp) rfl
  intro r' he
  refine run_V 100 ?_
  simp (disch := omega) only [std, goK_s2b, dgoK_s2b, isEff_s2b, isPure_s2b, goK_b2s, dgoK_b2s, isEff_b2s, isPure_b2s, evalOp_s2b, s2bR, goK_mark, dgoK_mark, isEff_mark, isPure_mark, evalOp_mark, markA_slc, markB, ↓reduceIte, Nat.reduceEqDiff, Int.reduceToNat, Int.reducePow, Nat.reduceAdd, Nat.reduceLeDiff, Nat.reduceMul, Nat.reduceBEq, reduceCtorEq]
  rw [he] at hQ
  exact hQ
end Go.Proofs.Ytebhlclfiiffbaa
