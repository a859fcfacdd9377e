/-
  Contracts of the functions of package varint and of its reference, as far as VarintSizes, VarintGets and VarintPuts reach them. By an AI agent. No person has read it.
-/
import Derived.Test.YtdlhdaimjimmkaaCode
import Derived.Test.YtdlhdaimjimmkaaAm5

namespace Go.Proofs.Ytdlhdaimjimmkaa
open Go Go.Am
set_option linter.unusedSimpArgs false
set_option linter.unusedVariables false

def sizeOf (n : Nat) : Nat := if h : n < 128 then 1 else 1 + sizeOf (n / 128)
  termination_by n

theorem sizeOf_lt {n : Nat} (h : n < 128) : sizeOf n = 1 := by rw [sizeOf, dif_pos h]
theorem sizeOf_ge {n : Nat} (h : ¬ n < 128) : sizeOf n = 1 + sizeOf (n / 128) := by rw [sizeOf, dif_neg h]

theorem sizeOf_le : ∀ (k n : Nat), n < 128 ^ (k + 1) → sizeOf n ≤ k + 1
  | 0, n, h => by rw [sizeOf_lt (by simpa using h)]; omega
  | k + 1, n, h => by
    by_cases hn : n < 128
    · rw [sizeOf_lt hn]; omega
    · rw [sizeOf_ge hn]
      have := sizeOf_le k (n / 128) (by rw [Nat.pow_succ] at h; exact Nat.div_lt_of_lt_mul (by rw [Nat.mul_comm]; exact h))
      omega
theorem sizeOf_le10 {n : Nat} (h : n < 18446744073709551616) : sizeOf n ≤ 10 := sizeOf_le 9 n (by omega)
theorem sizeOf_pos (n : Nat) : 1 ≤ sizeOf n := by
  by_cases hn : n < 128
  · rw [sizeOf_lt hn]; omega
  · rw [sizeOf_ge hn]; omega

abbrev sizeC : Ctx := ⟨F.varint_Size, 11, [.tmp 2], none⟩

theorem size_loop (T : List AItem) (H : AHeap) (Q : AVal → AHeap → Prop) (n : Nat) : ∀ (k : Int), n < 18446744073709551616 → 0 ≤ k → k + sizeOf n ≤ 1000000 →
    (∀ r', rget r' 3 = .int .i64 (k - 1 + sizeOf n) → Run Try.prog sizeC T r' H Q) → Rounds Try.prog sizeC varint_Size.b0 [.inBlock 0] T [(0, .int .u64 n), (3, .int .i64 k)] H Q := by
  induction n using Nat.strongRecOn with
  | _ n ih =>
  intro k h1 h2 h3 h
  refine loop_V 100 varint_Size.b0.eq_1 ?_
  by_cases hn : n < 128
  · simp (disch := omega) only [std, ↓reduceIte, Nat.reduceEqDiff, Int.reduceToNat, Int.reducePow, Nat.reduceAdd, Nat.reduceLeDiff, Nat.reduceMul, Nat.reduceBEq, reduceCtorEq]
    refine h _ ?_
    simp (disch := omega) only [std, ↓reduceIte, Nat.reduceEqDiff, Int.reduceToNat, Int.reducePow, Nat.reduceAdd, Nat.reduceLeDiff, Nat.reduceMul, Nat.reduceBEq, reduceCtorEq]
    rw [sizeOf_lt hn]
    congr 1; omega
  · have hs := sizeOf_ge hn
    simp (disch := omega) only [std, ↓reduceIte, Nat.reduceEqDiff, Int.reduceToNat, Int.reducePow, Nat.reduceAdd, Nat.reduceLeDiff, Nat.reduceMul, Nat.reduceBEq, reduceCtorEq]
    have e : (n : Int) / 128 = ((n / 128 : Nat) : Int) := by omega
    rw [e]
    refine ih (n / 128) (by omega) (k + 1) (by omega) (by omega) (by rw [sizeOf_ge hn] at h3; omega) ?_
    intro r' hr
    refine h r' ?_
    rw [hr, sizeOf_ge hn]
    congr 1; omega

/-- How many bytes a number has. -/
theorem size_ok (H : AHeap) (n : Nat) (h1 : n < 18446744073709551616) (Q : AVal → AHeap → Prop) (h : Q (.int .i64 (sizeOf n)) H) : FunOK Try.prog F.varint_Size [.int .u64 n] H Q := by
  refine fun_V 100 varint_Size_code rfl ?_
  simp (disch := omega) only [std, ↓reduceIte, Nat.reduceEqDiff, Int.reduceToNat, Int.reducePow, Nat.reduceAdd, Nat.reduceLeDiff, Nat.reduceMul, Nat.reduceBEq, reduceCtorEq, varint_Size, varint_Size.body]
  have hs := sizeOf_le10 h1
  refine size_loop _ H Q n 1 h1 (by omega) (by omega) ?_
  intro r' hr
  refine run_V 100 ?_
  simp (disch := omega) only [std, ↓reduceIte, Nat.reduceEqDiff, Int.reduceToNat, Int.reducePow, Nat.reduceAdd, Nat.reduceLeDiff, Nat.reduceMul, Nat.reduceBEq, reduceCtorEq, hr]
  rw [show (1 : Int) - 1 + (sizeOf n : Int) = sizeOf n by omega]
  exact h
end Go.Proofs.Ytdlhdaimjimmkaa

namespace Go.Proofs.Ytdlhdaimjimmkaa
open Go Go.Am
set_option linter.unusedSimpArgs false
set_option linter.unusedVariables false

abbrev sameC : Ctx := ⟨F.cuneiformref01_Same, 26, [.tmp 4], none⟩

theorem same_loop (T : List AItem) (H : AHeap) (Q : AVal → AHeap → Prop) {a b : AVal} {xs ys : List Nat} (ha : Nats .u8 H a xs) (hb : Nats .u8 H b ys) (hl : xs.length = ys.length) (hm : xs.length < 9223372036854775808) :
    ∀ (m i : Nat), xs.length - i = m → i ≤ xs.length → (xs.drop i = ys.drop i → ∀ r', Run Try.prog sameC T r' H Q) → (xs.drop i ≠ ys.drop i → Q (.bool false) H) →
    Rounds Try.prog sameC cuneiformref01_Same.b1 [.inBlock 0] T [(0, a), (1, b), (5, .int .i64 i)] H Q
  | m, i, h1, h2, h3, h4 => by
    refine loop_V 200 cuneiformref01_Same.b1.eq_1 ?_
    by_cases hi : i < xs.length
    · have hxi : xs.drop i = xs.getD i 0 :: xs.drop (i + 1) := by
        rw [List.drop_eq_getElem_cons hi]; simp [hi]
      have hyi : ys.drop i = ys.getD i 0 :: ys.drop (i + 1) := by
        rw [List.drop_eq_getElem_cons (by omega : i < ys.length)]; simp [show i < ys.length by omega]
      by_cases he : xs.getD i 0 = ys.getD i 0
      · have he' : ((xs.getD i 0 : Nat) : Int) = ((ys.getD i 0 : Nat) : Int) := by rw [he]
        simp (disch := omega) only [std, ↓reduceIte, Nat.reduceEqDiff, Int.reduceToNat, Int.reducePow, Nat.reduceAdd, Nat.reduceLeDiff, Nat.reduceMul, Nat.reduceBEq, reduceCtorEq, ha.len, hb.len, ha.isSome, hb.isSome, cuneiformref01_Same.d0, ha.load, hb.load, he']
        refine same_loop T H Q ha hb hl hm (xs.length - (i + 1)) (i + 1) rfl (by omega) (fun h => h3 (by rw [hxi, hyi, he, h])) (fun h => h4 (by rw [hxi, hyi, he]; simpa using h))
      · have he' : ((xs.getD i 0 : Nat) : Int) ≠ ((ys.getD i 0 : Nat) : Int) := by omega
        simp (disch := omega) only [std, ↓reduceIte, Nat.reduceEqDiff, Int.reduceToNat, Int.reducePow, Nat.reduceAdd, Nat.reduceLeDiff, Nat.reduceMul, Nat.reduceBEq, reduceCtorEq, ha.len, hb.len, ha.isSome, hb.isSome, cuneiformref01_Same.d0, ha.load, hb.load, he']
        exact h4 (by rw [hxi, hyi]; intro h; exact he (List.cons.inj h).1)
    · simp (disch := omega) only [std, ↓reduceIte, Nat.reduceEqDiff, Int.reduceToNat, Int.reducePow, Nat.reduceAdd, Nat.reduceLeDiff, Nat.reduceMul, Nat.reduceBEq, reduceCtorEq, ha.len, hb.len]
      exact h3 (by rw [List.drop_eq_nil_of_le (by omega), List.drop_eq_nil_of_le (by omega)]) _
  termination_by m => m

theorem same_ok (H : AHeap) {a b : AVal} {xs ys : List Nat} (ha : Nats .u8 H a xs) (hb : Nats .u8 H b ys) (hm : xs.length < 9223372036854775808) (Q : AVal → AHeap → Prop) (h : Q (.bool (decide (xs = ys))) H) : FunOK Try.prog F.cuneiformref01_Same [a, b] H Q := by
  refine fun_V 100 cuneiformref01_Same_code rfl ?_
  by_cases hl : xs.length = ys.length
  · simp (disch := omega) only [std, ↓reduceIte, Nat.reduceEqDiff, Int.reduceToNat, Int.reducePow, Nat.reduceAdd, Nat.reduceLeDiff, Nat.reduceMul, Nat.reduceBEq, reduceCtorEq, cuneiformref01_Same, cuneiformref01_Same.body, ha.len, hb.len, hl]
    refine same_loop _ H Q ha hb hl hm _ 0 rfl (by omega) ?_ ?_
    · intro he r'
      refine run_V 100 ?_
      simp (disch := omega) only [std, ↓reduceIte, Nat.reduceEqDiff, Int.reduceToNat, Int.reducePow, Nat.reduceAdd, Nat.reduceLeDiff, Nat.reduceMul, Nat.reduceBEq, reduceCtorEq]
      simpa [show xs = ys by simpa using he] using h
    · intro he
      simpa [show xs ≠ ys by simpa using he] using h
  · simp (disch := omega) only [std, ↓reduceIte, Nat.reduceEqDiff, Int.reduceToNat, Int.reducePow, Nat.reduceAdd, Nat.reduceLeDiff, Nat.reduceMul, Nat.reduceBEq, reduceCtorEq, cuneiformref01_Same, cuneiformref01_Same.body, ha.len, hb.len]
    simpa [show xs ≠ ys by intro he; exact hl (by rw [he])] using h
end Go.Proofs.Ytdlhdaimjimmkaa

namespace Go.Proofs.Ytdlhdaimjimmkaa
open Go Go.Am
set_option linter.unusedSimpArgs false
set_option linter.unusedVariables false

/-- A number's bytes. -/
def putOne (n : Nat) : List Nat := if h : n < 128 then [n] else (n % 128 + 128) :: putOne (n / 128)
  termination_by n
theorem putOne_lt {n : Nat} (h : n < 128) : putOne n = [n] := by rw [putOne, dif_pos h]
theorem putOne_ge {n : Nat} (h : ¬ n < 128) : putOne n = (n % 128 + 128) :: putOne (n / 128) := by rw [putOne, dif_neg h]
def putAll (l : List Nat) : List Nat := l.flatMap putOne

theorem putOne_length (n : Nat) : (putOne n).length = sizeOf n := by
  induction n using Nat.strongRecOn with
  | _ n ih =>
    by_cases h : n < 128
    · rw [putOne_lt h, sizeOf_lt h]; rfl
    · rw [putOne_ge h, sizeOf_ge h, List.length_cons, ih _ (by omega)]; omega

theorem putOne_byte (n : Nat) : ∀ b ∈ putOne n, b < 256 := by
  induction n using Nat.strongRecOn with
  | _ n ih =>
    by_cases h : n < 128
    · rw [putOne_lt h]; intro b hb; simp at hb; omega
    · rw [putOne_ge h]; intro b hb
      rcases List.mem_cons.1 hb with rfl | hb
      · omega
      · exact ih _ (by omega) b hb

theorem putAll_byte (l : List Nat) : ∀ b ∈ putAll l, b < 256 := by
  intro b hb
  obtain ⟨n, _, h⟩ := List.mem_flatMap.1 hb
  exact putOne_byte n b h

abbrev putC : Ctx := ⟨F.varint_Put, 29, [.tmp 2], none⟩

theorem or_byte (n : Nat) : Am.bits .or .u8 (IntKind.u8.wrap (n : Int)) 128 = ((n % 128 + 128 : Nat) : Int) := by
  have h := bits_or (k := .u8) rfl (a := n % 256) (b := 128) (by simp [IntKind.bits]; omega) (by simp [IntKind.bits])
  rw [or128 _ (by omega)] at h
  rw [wrap_u8', show (n : Int) % 256 = ((n % 256 : Nat) : Int) by omega]
  refine Eq.trans h ?_
  omega

theorem put_inner (K : List AItem) (H0 : AHeap) (Q : AVal → AHeap → Prop) (l len i : AVal) (n : Nat) : ∀ (H : AHeap) (a : AVal) (xs : List Nat), n < 18446744073709551616 → Mine .u8 T.uint8 H0.length H a xs → Keeps H0 H → xs.length + sizeOf n ≤ 1000000 →
    (∀ r' H' a' xs' (n' : Nat), n' < 128 → xs' ++ [n'] = xs ++ putOne n → Mine .u8 T.uint8 H0.length H' a' xs' → Keeps H0 H' → rget r' 3 = a' → rget r' 5 = .int .u64 n' → rget r' 6 = l → rget r' 7 = len → rget r' 8 = i → Run Try.prog putC K r' H' Q) →
    Rounds Try.prog putC varint_Put.b0 [.inBlock 2] K [(3, a), (5, .int .u64 n), (6, l), (7, len), (8, i)] H Q := by
  induction n using Nat.strongRecOn with
  | _ n ih =>
  intro H a xs h1 hm hk hs h
  refine loop_V 200 varint_Put.b0.eq_1 ?_
  by_cases hn : n < 128
  · simp (disch := omega) only [std, ↓reduceIte, Nat.reduceEqDiff, Int.reduceToNat, Int.reducePow, Nat.reduceAdd, Nat.reduceLeDiff, Nat.reduceMul, Nat.reduceBEq, reduceCtorEq]
    refine h _ H a xs n hn (by rw [putOne_lt hn]) hm hk ?_ ?_ ?_ ?_ ?_ <;> simp (disch := omega) only [std, ↓reduceIte, Nat.reduceEqDiff, Int.reduceToNat, Int.reducePow, Nat.reduceAdd, Nat.reduceLeDiff, Nat.reduceMul, Nat.reduceBEq, reduceCtorEq]
  · have hs' := sizeOf_ge hn
    simp (disch := omega) only [std, ↓reduceIte, Nat.reduceEqDiff, Int.reduceToNat, Int.reducePow, Nat.reduceAdd, Nat.reduceLeDiff, Nat.reduceMul, Nat.reduceBEq, reduceCtorEq, or_byte]
    obtain ⟨v, H', p, e1, hp, hm', hk'⟩ := Mine.append (H := H ++ [_]) (hm.keep ((Keeps.refl H).push _)) (nats_one (k := .u8) (H := H) (el := T.uint8) (n := n % 128 + 128)) (bytes := 1) (hk.push _) rfl (by simp; omega) (by simp; omega) (by simp)
    simp (disch := omega) only [std, ↓reduceIte, Nat.reduceEqDiff, Int.reduceToNat, Int.reducePow, Nat.reduceAdd, Nat.reduceLeDiff, Nat.reduceMul, Nat.reduceBEq, reduceCtorEq, e1, hp]
    have e : (n : Int) / 128 = ((n / 128 : Nat) : Int) := by omega
    rw [e]
    refine ih (n / 128) (by omega) H' v _ (by omega) hm' hk' (by simp; omega) ?_
    intro r' H'' a' xs' n' g1 g2
    refine h r' H'' a' xs' n' g1 ?_
    rw [g2, putOne_ge hn]; simp

theorem put_loop (H0 : AHeap) (K : List AItem) (Q : AVal → AHeap → Prop) {l : AVal} {ns : List Nat} (hl : Nats .u64 H0 l ns) (hb : ∀ n ∈ ns, n < 18446744073709551616) (hlen : ns.length ≤ 1000) :
    ∀ (m i : Nat) (H : AHeap) (a : AVal) (xs : List Nat), ns.length - i = m → i ≤ ns.length → Mine .u8 T.uint8 H0.length H a xs → Keeps H0 H → xs.length ≤ 10 * i →
    (∀ r' H' a', Mine .u8 T.uint8 H0.length H' a' (xs ++ putAll (ns.drop i)) → Keeps H0 H' → rget r' 3 = a' → Run Try.prog putC K r' H' Q) →
    Rounds Try.prog putC varint_Put.b1 [.inBlock 0] K [(3, a), (6, l), (7, .int .i64 ns.length), (8, .int .i64 i)] H Q
  | m, i, H, a, xs, h1, h2, hm, hk, hx, h => by
    refine loop_V 200 varint_Put.b1.eq_1 ?_
    by_cases hi : i < ns.length
    · have hx' := hl.keep hk
      have hni : ns.getD i 0 < 18446744073709551616 := by
        rw [List.getD_eq_getElem?_getD]; simp [hi]; exact hb _ (List.getElem_mem hi)
      have hdi : ns.drop i = ns.getD i 0 :: ns.drop (i + 1) := by
        rw [List.drop_eq_getElem_cons hi]; simp [hi]
      have hsz := sizeOf_le10 hni
      simp (disch := omega) only [std, ↓reduceIte, Nat.reduceEqDiff, Int.reduceToNat, Int.reducePow, Nat.reduceAdd, Nat.reduceLeDiff, Nat.reduceMul, Nat.reduceBEq, reduceCtorEq, hx'.len, hx'.isSome, hx'.load]
      refine put_inner _ H0 Q _ _ _ _ H a xs hni hm hk (by omega) ?_
      intro r' H' a' xs' n' g1 g2 g3 g4 e1 e2 e3 e4 e5
      refine run_V 100 ?_
      have hu : IntKind.u8.wrap (n' : Int) = (n' : Int) := by rw [wrap_u8']; omega
      have hlx : xs'.length + 1 = xs.length + sizeOf (ns.getD i 0) := by
        have := congrArg List.length g2
        simpa [putOne_length] using this
      simp (disch := omega) only [std, ↓reduceIte, Nat.reduceEqDiff, Int.reduceToNat, Int.reducePow, Nat.reduceAdd, Nat.reduceLeDiff, Nat.reduceMul, Nat.reduceBEq, reduceCtorEq, e1, e2, e3, e4, e5, hu]
      obtain ⟨v, H'', p, q1, hp, hm', hk'⟩ := Mine.append (H := H' ++ [_]) (g3.keep ((Keeps.refl H').push _)) (nats_one (k := .u8) (H := H') (el := T.uint8) (n := n')) (bytes := 1) (g4.push _) rfl (by simp; omega) (by simp; omega) (by simp)
      simp (disch := omega) only [std, ↓reduceIte, Nat.reduceEqDiff, Int.reduceToNat, Int.reducePow, Nat.reduceAdd, Nat.reduceLeDiff, Nat.reduceMul, Nat.reduceBEq, reduceCtorEq, q1, hp, e3, e4, e5]
      refine put_loop H0 K Q hl hb hlen (ns.length - (i + 1)) (i + 1) H'' v _ rfl (by omega) hm' hk' (by simp; omega) ?_
      intro r'' H3 a3 w1
      refine h r'' H3 a3 ?_
      rw [hdi]
      rw [g2] at w1
      simpa [putAll] using w1
    · simp (disch := omega) only [std, ↓reduceIte, Nat.reduceEqDiff, Int.reduceToNat, Int.reducePow, Nat.reduceAdd, Nat.reduceLeDiff, Nat.reduceMul, Nat.reduceBEq, reduceCtorEq]
      refine h _ H a ?_ hk ?_
      · rw [List.drop_eq_nil_of_le (by omega)]; simpa [putAll] using hm
      · simp (disch := omega) only [std, ↓reduceIte, Nat.reduceEqDiff, Int.reduceToNat, Int.reducePow, Nat.reduceAdd, Nat.reduceLeDiff, Nat.reduceMul, Nat.reduceBEq, reduceCtorEq]
  termination_by m => m

/-- The bytes of numbers. -/
theorem put_ok (H : AHeap) {l : AVal} {ns : List Nat} (hl : Nats .u64 H l ns) (hb : ∀ n ∈ ns, n < 18446744073709551616) (hlen : ns.length ≤ 1000) (Q : AVal → AHeap → Prop)
    (h : ∀ a H', Mine .u8 T.uint8 H.length H' a (putAll ns) → Keeps H H' → Q a H') : FunOK Try.prog F.varint_Put [l] H Q := by
  refine fun_V 100 varint_Put_code rfl ?_
  simp (disch := omega) only [std, ↓reduceIte, Nat.reduceEqDiff, Int.reduceToNat, Int.reducePow, Nat.reduceAdd, Nat.reduceLeDiff, Nat.reduceMul, Nat.reduceBEq, reduceCtorEq, varint_Put, varint_Put.body, hl.len]
  refine put_loop H _ Q hl hb hlen _ 0 H .nils [] rfl (by omega) ⟨.inl ⟨rfl, rfl⟩⟩ (Keeps.refl H) (by simp) ?_
  intro r' H' a' g1 g2 g3
  refine run_V 100 ?_
  simp (disch := omega) only [std, ↓reduceIte, Nat.reduceEqDiff, Int.reduceToNat, Int.reducePow, Nat.reduceAdd, Nat.reduceLeDiff, Nat.reduceMul, Nat.reduceBEq, reduceCtorEq, g3]
  exact h a' H' (by simpa using g1) g2
end Go.Proofs.Ytdlhdaimjimmkaa

namespace Go.Proofs.Ytdlhdaimjimmkaa
open Go Go.Am
set_option linter.unusedSimpArgs false
set_option linter.unusedVariables false

def zig (s : Int) : Nat := if s < 0 then (-(s + 1) * 2 + 1).toNat else (2 * s).toNat
def zag (n : Nat) : Int := if n % 2 = 1 then -((n / 2 : Nat) : Int) - 1 else ((n / 2 : Nat) : Int)

theorem wrap_neg {s : Int} (h0 : -9223372036854775808 ≤ s) (h1 : s < 0) : IntKind.u64.wrap s = s + 18446744073709551616 := by rw [wrap_u64']; omega

theorem zig_ok (H : AHeap) (s : Int) (h0 : -9223372036854775808 ≤ s) (h1 : s < 9223372036854775808) (Q : AVal → AHeap → Prop) (h : Q (.int .u64 (zig s)) H) : FunOK Try.prog F.varint_Zig [.int .i64 s] H Q := by
  refine fun_V 100 varint_Zig_code rfl ?_
  by_cases hs : s < 0
  · have e1 : s / 9223372036854775808 = -1 := by omega
    have e2 : IntKind.u64.wrap ((s + 18446744073709551616) * 2) = 2 * s + 18446744073709551616 := by rw [wrap_u64']; omega
    have e3 : IntKind.u64.wrap (-1) = 18446744073709551615 := by rw [wrap_u64']; omega
    have e4 := xor_ones_u64 (x := 2 * s + 18446744073709551616) (by omega)
    have e5 : (18446744073709551615 : Int) - (2 * s + 18446744073709551616) = (zig s : Int) := by unfold zig; rw [if_pos hs]; omega
    simp (disch := omega) only [std, ↓reduceIte, Nat.reduceEqDiff, Int.reduceToNat, Int.reducePow, Nat.reduceAdd, Nat.reduceLeDiff, Nat.reduceMul, Nat.reduceBEq, reduceCtorEq, varint_Zig, varint_Zig.body, wrap_neg h0 hs, fdiv_pow, e1, Int.reduceMul, e2, e3, e4, e5]
    exact h
  · have e1 : s / 9223372036854775808 = 0 := by omega
    have e2 : IntKind.u64.wrap (s * 2) = 2 * s := by rw [wrap_u64']; omega
    have e5 : 2 * s = (zig s : Int) := by unfold zig; rw [if_neg hs]; omega
    have e4 := (xor_zero_u64 (x := 2 * s) (by omega)).trans e5
    simp (disch := omega) only [std, ↓reduceIte, Nat.reduceEqDiff, Int.reduceToNat, Int.reducePow, Nat.reduceAdd, Nat.reduceLeDiff, Nat.reduceMul, Nat.reduceBEq, reduceCtorEq, varint_Zig, varint_Zig.body, e1, e2, e4]
    exact h

theorem rzig_ok (H : AHeap) (s : Int) (h0 : -9223372036854775808 ≤ s) (h1 : s < 9223372036854775808) (Q : AVal → AHeap → Prop) (h : Q (.int .u64 (zig s)) H) : FunOK Try.prog F.cuneiformref01_Zig [.int .i64 s] H Q := by
  refine fun_V 100 cuneiformref01_Zig_code rfl ?_
  by_cases hs : s < 0
  · have e5 : 2 * (0 - (s + 1)) + 1 = (zig s : Int) := by unfold zig; rw [if_pos hs]; omega
    simp (disch := omega) only [std, ↓reduceIte, Nat.reduceEqDiff, Int.reduceToNat, Int.reducePow, Nat.reduceAdd, Nat.reduceLeDiff, Nat.reduceMul, Nat.reduceBEq, reduceCtorEq, cuneiformref01_Zig, cuneiformref01_Zig.body, e5]
    exact h
  · have e5 : 2 * s = (zig s : Int) := by unfold zig; rw [if_neg hs]; omega
    simp (disch := omega) only [std, ↓reduceIte, Nat.reduceEqDiff, Int.reduceToNat, Int.reducePow, Nat.reduceAdd, Nat.reduceLeDiff, Nat.reduceMul, Nat.reduceBEq, reduceCtorEq, cuneiformref01_Zig, cuneiformref01_Zig.body, e5]
    exact h

theorem zag_ok (H : AHeap) (n : Nat) (h1 : n < 18446744073709551616) (Q : AVal → AHeap → Prop) (h : Q (.int .i64 (zag n)) H) : FunOK Try.prog F.varint_Zag [.int .u64 n] H Q := by
  refine fun_V 100 varint_Zag_code rfl ?_
  have e0 : (n : Int) / 2 = ((n / 2 : Nat) : Int) := by omega
  have ea : Am.bits .and .u64 (n : Int) 1 = ((n % 2 : Nat) : Int) := by
    have := bits_and (k := .u64) rfl (a := n) (b := 1) (by simp [IntKind.bits]; omega) (by simp [IntKind.bits])
    rw [Nat.and_one_is_mod] at this
    exact this
  by_cases hn : n % 2 = 1
  · have e1 := (xor_ones_i64 (x := ((n / 2 : Nat) : Int)) (by omega)).trans (show -((n / 2 : Nat) : Int) - 1 = zag n by unfold zag; rw [if_pos hn])
    have e2 : (0 : Int) - ((n % 2 : Nat) : Int) = -1 := by omega
    simp (disch := omega) only [std, ↓reduceIte, Nat.reduceEqDiff, Int.reduceToNat, Int.reducePow, Nat.reduceAdd, Nat.reduceLeDiff, Nat.reduceMul, Nat.reduceBEq, reduceCtorEq, varint_Zag, varint_Zag.body, e0, ea, e2, e1]
    exact h
  · have e1 := (xor_zero_i64 (x := ((n / 2 : Nat) : Int)) (by omega)).trans (show ((n / 2 : Nat) : Int) = zag n by unfold zag; rw [if_neg hn])
    have e2 : (0 : Int) - ((n % 2 : Nat) : Int) = 0 := by omega
    simp (disch := omega) only [std, ↓reduceIte, Nat.reduceEqDiff, Int.reduceToNat, Int.reducePow, Nat.reduceAdd, Nat.reduceLeDiff, Nat.reduceMul, Nat.reduceBEq, reduceCtorEq, varint_Zag, varint_Zag.body, e0, ea, e2, e1]
    exact h

theorem rzag_ok (H : AHeap) (n : Nat) (h1 : n < 18446744073709551616) (Q : AVal → AHeap → Prop) (h : Q (.int .i64 (zag n)) H) : FunOK Try.prog F.cuneiformref01_Zag [.int .u64 n] H Q := by
  refine fun_V 100 cuneiformref01_Zag_code rfl ?_
  have e0 : (n : Int).tdiv 2 = ((n / 2 : Nat) : Int) := by rw [Int.tdiv_eq_ediv_of_nonneg (by omega)]; omega
  have e3 : (n : Int).tmod 2 = ((n % 2 : Nat) : Int) := by rw [Int.tmod_eq_emod_of_nonneg (by omega)]; omega
  by_cases hn : n % 2 = 1
  · have e1 : (0 : Int) - ((n / 2 : Nat) : Int) - 1 = zag n := by unfold zag; rw [if_pos hn]; omega
    have hc : ((n % 2 : Nat) : Int) = 1 := by omega
    simp (disch := omega) only [std, ↓reduceIte, Nat.reduceEqDiff, Int.reduceToNat, Int.reducePow, Nat.reduceAdd, Nat.reduceLeDiff, Nat.reduceMul, Nat.reduceBEq, reduceCtorEq, cuneiformref01_Zag, cuneiformref01_Zag.body, e0, e3, hc, e1, ne_eq, not_false_eq_true]
    exact h
  · have e1 : ((n / 2 : Nat) : Int) = zag n := by unfold zag; rw [if_neg hn]
    have hc : ((n % 2 : Nat) : Int) ≠ 1 := by omega
    simp (disch := omega) only [std, ↓reduceIte, Nat.reduceEqDiff, Int.reduceToNat, Int.reducePow, Nat.reduceAdd, Nat.reduceLeDiff, Nat.reduceMul, Nat.reduceBEq, reduceCtorEq, cuneiformref01_Zag, cuneiformref01_Zag.body, e0, e3, hc, e1, ne_eq, not_false_eq_true]
    exact h

theorem zag_zig (s : Int) : zag (zig s) = s := by
  unfold zag zig
  split <;> split <;> omega
theorem zig_zag (n : Nat) : zig (zag n) = n := by
  unfold zag zig
  split <;> split <;> omega
theorem zig_lt {s : Int} (h0 : -9223372036854775808 ≤ s) (h1 : s < 9223372036854775808) : zig s < 18446744073709551616 := by unfold zig; split <;> omega
theorem zag_range {n : Nat} (h : n < 18446744073709551616) : -9223372036854775808 ≤ zag n ∧ zag n < 9223372036854775808 := by unfold zag; split <;> omega

end Go.Proofs.Ytdlhdaimjimmkaa

namespace Go.Proofs.Ytdlhdaimjimmkaa
open Go Go.Am
set_option linter.unusedSimpArgs false
set_option linter.unusedVariables false

abbrev rputC : Ctx := ⟨F.cuneiformref01_Put, 33, [.tmp 2], none⟩

theorem rput_inner (K : List AItem) (H0 : AHeap) (Q : AVal → AHeap → Prop) (l i : AVal) (n : Nat) : ∀ (H : AHeap) (a : AVal) (xs : List Nat), n < 18446744073709551616 → Mine .u8 T.uint8 H0.length H a xs → Keeps H0 H → xs.length + sizeOf n ≤ 1000000 →
    (∀ r' H' a' xs' (n' : Nat), n' < 128 → xs' ++ [n'] = xs ++ putOne n → Mine .u8 T.uint8 H0.length H' a' xs' → Keeps H0 H' → rget r' 3 = a' → rget r' 5 = .int .u64 n' → rget r' 0 = l → rget r' 4 = i → Run Try.prog rputC K r' H' Q) →
    Rounds Try.prog rputC cuneiformref01_Put.b0 [.inBlock 2] K [(0, l), (3, a), (4, i), (5, .int .u64 n)] H Q := by
  induction n using Nat.strongRecOn with
  | _ n ih =>
  intro H a xs h1 hm hk hs h
  refine loop_V 200 cuneiformref01_Put.b0.eq_1 ?_
  by_cases hn : n < 128
  · simp (disch := omega) only [std, ↓reduceIte, Nat.reduceEqDiff, Int.reduceToNat, Int.reducePow, Nat.reduceAdd, Nat.reduceLeDiff, Nat.reduceMul, Nat.reduceBEq, reduceCtorEq]
    refine h _ H a xs n hn (by rw [putOne_lt hn]) hm hk ?_ ?_ ?_ ?_ <;> simp (disch := omega) only [std, ↓reduceIte, Nat.reduceEqDiff, Int.reduceToNat, Int.reducePow, Nat.reduceAdd, Nat.reduceLeDiff, Nat.reduceMul, Nat.reduceBEq, reduceCtorEq]
  · have hs' := sizeOf_ge hn
    have e3 : IntKind.u8.wrap (128 + (n : Int).tmod 128) = ((n % 128 + 128 : Nat) : Int) := by rw [Int.tmod_eq_emod_of_nonneg (by omega), wrap_u8']; omega
    have e4 : 0 ≤ (n : Int).tmod 128 ∧ (n : Int).tmod 128 < 128 := by rw [Int.tmod_eq_emod_of_nonneg (by omega)]; omega
    simp (disch := omega) only [std, ↓reduceIte, Nat.reduceEqDiff, Int.reduceToNat, Int.reducePow, Nat.reduceAdd, Nat.reduceLeDiff, Nat.reduceMul, Nat.reduceBEq, reduceCtorEq, e3]
    obtain ⟨v, H', p, e1, hp, hm', hk'⟩ := Mine.append (H := H ++ [_]) (hm.keep ((Keeps.refl H).push _)) (nats_one (k := .u8) (H := H) (el := T.uint8) (n := n % 128 + 128)) (bytes := 1) (hk.push _) rfl (by simp; omega) (by simp; omega) (by simp)
    have e : (n : Int).tdiv 128 = ((n / 128 : Nat) : Int) := by rw [Int.tdiv_eq_ediv_of_nonneg (by omega)]; omega
    simp (disch := omega) only [std, ↓reduceIte, Nat.reduceEqDiff, Int.reduceToNat, Int.reducePow, Nat.reduceAdd, Nat.reduceLeDiff, Nat.reduceMul, Nat.reduceBEq, reduceCtorEq, e1, hp, e, ne_eq, not_false_eq_true, Int.reduceEq]
    refine ih (n / 128) (by omega) H' v _ (by omega) hm' hk' (by simp; omega) ?_
    intro r' H'' a' xs' n' g1 g2
    refine h r' H'' a' xs' n' g1 ?_
    rw [g2, putOne_ge hn]; simp

theorem rput_loop (H0 : AHeap) (K : List AItem) (Q : AVal → AHeap → Prop) {l : AVal} {ns : List Nat} (hl : Nats .u64 H0 l ns) (hb : ∀ n ∈ ns, n < 18446744073709551616) (hlen : ns.length ≤ 1000) :
    ∀ (m i : Nat) (H : AHeap) (a : AVal) (xs : List Nat), ns.length - i = m → i ≤ ns.length → Mine .u8 T.uint8 H0.length H a xs → Keeps H0 H → xs.length ≤ 10 * i →
    (∀ r' H' a', Mine .u8 T.uint8 H0.length H' a' (xs ++ putAll (ns.drop i)) → Keeps H0 H' → rget r' 3 = a' → Run Try.prog rputC K r' H' Q) →
    Rounds Try.prog rputC cuneiformref01_Put.b1 [.inBlock 0] K [(0, l), (3, a), (4, .int .i64 i)] H Q
  | m, i, H, a, xs, h1, h2, hm, hk, hx, h => by
    refine loop_V 200 cuneiformref01_Put.b1.eq_1 ?_
    have hx' := hl.keep hk
    by_cases hi : i < ns.length
    · have hni : ns.getD i 0 < 18446744073709551616 := by
        rw [List.getD_eq_getElem?_getD]; simp [hi]; exact hb _ (List.getElem_mem hi)
      have hdi : ns.drop i = ns.getD i 0 :: ns.drop (i + 1) := by
        rw [List.drop_eq_getElem_cons hi]; simp [hi]
      have hsz := sizeOf_le10 hni
      simp (disch := omega) only [std, ↓reduceIte, Nat.reduceEqDiff, Int.reduceToNat, Int.reducePow, Nat.reduceAdd, Nat.reduceLeDiff, Nat.reduceMul, Nat.reduceBEq, reduceCtorEq, hx'.len, hx'.isSome, hx'.load]
      refine rput_inner _ H0 Q _ _ _ H a xs hni hm hk (by omega) ?_
      intro r' H' a' xs' n' g1 g2 g3 g4 e1 e2 e3 e4
      refine run_V 100 ?_
      have hu : IntKind.u8.wrap (n' : Int) = (n' : Int) := by rw [wrap_u8']; omega
      have hlx : xs'.length + 1 = xs.length + sizeOf (ns.getD i 0) := by
        have := congrArg List.length g2
        simpa [putOne_length] using this
      simp (disch := omega) only [std, ↓reduceIte, Nat.reduceEqDiff, Int.reduceToNat, Int.reducePow, Nat.reduceAdd, Nat.reduceLeDiff, Nat.reduceMul, Nat.reduceBEq, reduceCtorEq, e1, e2, e3, e4, hu]
      obtain ⟨v, H'', p, q1, hp, hm', hk'⟩ := Mine.append (H := H' ++ [_]) (g3.keep ((Keeps.refl H').push _)) (nats_one (k := .u8) (H := H') (el := T.uint8) (n := n')) (bytes := 1) (g4.push _) rfl (by simp; omega) (by simp; omega) (by simp)
      simp (disch := omega) only [std, ↓reduceIte, Nat.reduceEqDiff, Int.reduceToNat, Int.reducePow, Nat.reduceAdd, Nat.reduceLeDiff, Nat.reduceMul, Nat.reduceBEq, reduceCtorEq, q1, hp, e3, e4]
      refine rput_loop H0 K Q hl hb hlen (ns.length - (i + 1)) (i + 1) H'' v _ rfl (by omega) hm' hk' (by simp; omega) ?_
      intro r'' H3 a3 w1
      refine h r'' H3 a3 ?_
      rw [hdi]
      rw [g2] at w1
      simpa [putAll] using w1
    · simp (disch := omega) only [std, ↓reduceIte, Nat.reduceEqDiff, Int.reduceToNat, Int.reducePow, Nat.reduceAdd, Nat.reduceLeDiff, Nat.reduceMul, Nat.reduceBEq, reduceCtorEq, hx'.len]
      refine h _ H a ?_ hk ?_
      · rw [List.drop_eq_nil_of_le (by omega)]; simpa [putAll] using hm
      · simp (disch := omega) only [std, ↓reduceIte, Nat.reduceEqDiff, Int.reduceToNat, Int.reducePow, Nat.reduceAdd, Nat.reduceLeDiff, Nat.reduceMul, Nat.reduceBEq, reduceCtorEq]
  termination_by m => m

/-- The document's bytes of numbers. -/
theorem rput_ok (H : AHeap) {l : AVal} {ns : List Nat} (hl : Nats .u64 H l ns) (hb : ∀ n ∈ ns, n < 18446744073709551616) (hlen : ns.length ≤ 1000) (Q : AVal → AHeap → Prop)
    (h : ∀ a H', Mine .u8 T.uint8 H.length H' a (putAll ns) → Keeps H H' → Q a H') : FunOK Try.prog F.cuneiformref01_Put [l] H Q := by
  refine fun_V 100 cuneiformref01_Put_code rfl ?_
  simp (disch := omega) only [std, ↓reduceIte, Nat.reduceEqDiff, Int.reduceToNat, Int.reducePow, Nat.reduceAdd, Nat.reduceLeDiff, Nat.reduceMul, Nat.reduceBEq, reduceCtorEq, cuneiformref01_Put, cuneiformref01_Put.body]
  refine rput_loop H _ Q hl hb hlen _ 0 H .nils [] rfl (by omega) ⟨.inl ⟨rfl, rfl⟩⟩ (Keeps.refl H) (by simp) ?_
  intro r' H' a' g1 g2 g3
  refine run_V 100 ?_
  simp (disch := omega) only [std, ↓reduceIte, Nat.reduceEqDiff, Int.reduceToNat, Int.reducePow, Nat.reduceAdd, Nat.reduceLeDiff, Nat.reduceMul, Nat.reduceBEq, reduceCtorEq, g3]
  exact h a' H' (by simpa using g1) g2
end Go.Proofs.Ytdlhdaimjimmkaa

namespace Go.Proofs.Ytdlhdaimjimmkaa
open Go Go.Am
set_option linter.unusedSimpArgs false
set_option linter.unusedVariables false

/-- The number that bytes begin with, how many it has, the error's number. -/
def getFrom : Nat → Nat → Nat → List Nat → Nat × Nat × Nat
  | 0, _, _, _ => (0, 0, 3)
  | _ + 1, _, _, [] => (0, 0, 4)
  | f + 1, i, n, b :: rest =>
    if 128 ≤ b then getFrom f (i + 1) (n + (b % 128 % 2 ^ (64 - 7 * i)) * 2 ^ (7 * i)) rest
    else if (0 < i ∧ b % 128 = 0) ∨ b % 128 % 2 ^ (64 - 7 * i) ≠ b % 128 then (0, 0, 3)
    else (n + (b % 128 % 2 ^ (64 - 7 * i)) * 2 ^ (7 * i), i + 1, 0)

def getSpec (bs : List Nat) : Nat × Nat × Nat := getFrom 10 0 0 bs

def got (r : Nat × Nat × Nat) : AVal := .tup [.int .u64 r.1, .int .i64 r.2.1, .int .i64 r.2.2]

abbrev getC : Ctx := ⟨F.varint_Get, 53, [.tmp 2, .tmp 3, .tmp 4], none⟩

theorem shl_part {p i : Nat} (hi : i ≤ 9) : IntKind.u64.wrap ((p : Int) * 2 ^ (7 * i)) = ((p % 2 ^ (64 - 7 * i) * 2 ^ (7 * i) : Nat) : Int) := by
  rw [wrap_u64', show (p : Int) * 2 ^ (7 * i) = ((p * 2 ^ (7 * i) : Nat) : Int) by push_cast; rfl, show (18446744073709551616 : Int) = ((2 ^ (64 - 7 * i) * 2 ^ (7 * i) : Nat) : Int) by
    rw [← Nat.pow_add, show 64 - 7 * i + 7 * i = 64 by omega]; rfl]
  rw [← Int.natCast_emod, Nat.mul_mod_mul_right]

theorem part_lt (p i : Nat) (hi : i ≤ 9) : p % 2 ^ (64 - 7 * i) * 2 ^ (7 * i) + 2 ^ (7 * i) ≤ 2 ^ 64 := by
  have h1 : p % 2 ^ (64 - 7 * i) < 2 ^ (64 - 7 * i) := Nat.mod_lt _ (Nat.two_pow_pos _)
  have h2 : 2 ^ 64 = 2 ^ (64 - 7 * i) * 2 ^ (7 * i) := by rw [← Nat.pow_add, show 64 - 7 * i + 7 * i = 64 by omega]
  rw [h2, ← Nat.succ_mul]
  exact Nat.mul_le_mul_right _ h1

theorem get_loop (K : List AItem) (H : AHeap) (Q : AVal → AHeap → Prop) {l : AVal} {bs : List Nat} (hl : Nats .u8 H l bs) (hb : ∀ b ∈ bs, b < 256) (hlen : bs.length < 9223372036854775808)
    (h : ∀ r', getSpec bs = (0, 0, 3) → Run Try.prog getC K r' H Q) (hQ : getSpec bs ≠ (0, 0, 3) → Q (got (getSpec bs)) H) :
    ∀ (m i n : Nat), 10 - i = m → i ≤ 10 → n < 2 ^ (7 * i) → getSpec bs = getFrom (10 - i) i n (bs.drop i) →
    Rounds Try.prog getC varint_Get.b0 [.inBlock 0] K [(0, l), (5, .int .u64 n), (8, .int .i64 i)] H Q
  | m, i, n, h1, h2, h3, h4 => by
    refine loop_V 24 varint_Get.b0.eq_1 ?_
    by_cases hi : i < 10
    · rw [show 10 - i = (10 - (i + 1)) + 1 by omega] at h4
      by_cases hil : i < bs.length
      · have hdi : bs.drop i = bs.getD i 0 :: bs.drop (i + 1) := by
          rw [List.drop_eq_getElem_cons hil]; simp [hil]
        have hbi : bs.getD i 0 < 256 := by
          rw [List.getD_eq_getElem?_getD]; simp [hil]; exact hb _ (List.getElem_mem hil)
        generalize hbe : bs.getD i 0 = b at *
        rw [hdi, getFrom] at h4
        have hp : ((b : Nat) : Int).tmod 128 = ((b % 128 : Nat) : Int) := by rw [Int.tmod_eq_emod_of_nonneg (by omega)]; omega
        have hc : IntKind.u64.wrap ((b % 128 : Nat) : Int) = ((b % 128 : Nat) : Int) := wrap_u64 (by omega)
        have hs : min ((7 : Int) * (i : Int)).toNat 64 = 7 * i := by omega
        have hsh := shl_part (p := b % 128) (i := i) (by omega)
        have hpl := part_lt (b % 128) i (by omega)
        generalize hq : b % 128 % 2 ^ (64 - 7 * i) = q at *
        have hor : Am.bits .or .u64 (n : Int) ((q * 2 ^ (7 * i) : Nat) : Int) = ((n + q * 2 ^ (7 * i) : Nat) : Int) := by
          have hlt : 2 ^ (7 * i) ≤ 2 ^ 64 := Nat.pow_le_pow_right (by omega) (by omega)
          rw [bits_or rfl (by simp only [IntKind.bits]; omega) (by simp only [IntKind.bits]; have := Nat.two_pow_pos (7 * i); omega), or_shift h3]
        have hdv : ((q * 2 ^ (7 * i) : Nat) : Int) / 2 ^ (7 * i) = (q : Int) := by
          have : ((2 : Int) ^ (7 * i)) = ((2 ^ (7 * i) : Nat) : Int) := by simp
          rw [this, ← Int.natCast_ediv, Nat.mul_div_cancel _ (Nat.two_pow_pos _)]
        by_cases h128 : 128 ≤ b
        · rw [if_pos h128] at h4
          (simp (disch := omega) only [std, ↓reduceIte, Nat.reduceEqDiff, Int.reduceToNat, Int.reducePow, Nat.reduceAdd, Nat.reduceLeDiff, Nat.reduceMul, Nat.reduceBEq, reduceCtorEq, hl.len, hl.isSome, hl.load, hbe, hp, hc, hs, hsh, hor]; repeat (first | (refine runL_V 20 ?_; simp (disch := omega) only [std, ↓reduceIte, Nat.reduceEqDiff, Int.reduceToNat, Int.reducePow, Nat.reduceAdd, Nat.reduceLeDiff, Nat.reduceMul, Nat.reduceBEq, reduceCtorEq, hl.len, hl.isSome, hl.load, hbe, hp, hc, hs, hsh, hor]) | (refine run_V 20 ?_; simp (disch := omega) only [std, ↓reduceIte, Nat.reduceEqDiff, Int.reduceToNat, Int.reducePow, Nat.reduceAdd, Nat.reduceLeDiff, Nat.reduceMul, Nat.reduceBEq, reduceCtorEq, hl.len, hl.isSome, hl.load, hbe, hp, hc, hs, hsh, hor]) | (refine runD_V 20 ?_; simp (disch := omega) only [std, ↓reduceIte, Nat.reduceEqDiff, Int.reduceToNat, Int.reducePow, Nat.reduceAdd, Nat.reduceLeDiff, Nat.reduceMul, Nat.reduceBEq, reduceCtorEq, hl.len, hl.isSome, hl.load, hbe, hp, hc, hs, hsh, hor])))
          refine get_loop K H Q hl hb hlen h hQ _ (i + 1) _ rfl (by omega) ?_ h4
          have hq' : q ≤ 127 := by rw [← hq]; exact Nat.le_trans (Nat.mod_le _ _) (by omega)
          have := Nat.mul_le_mul_right (2 ^ (7 * i)) hq'
          rw [show 7 * (i + 1) = 7 * i + 7 by omega, Nat.pow_add]
          omega
        · rw [if_neg h128] at h4
          by_cases hz : 0 < i ∧ b % 128 = 0
          · rw [if_pos (Or.inl hz)] at h4
            (simp (disch := omega) only [std, ↓reduceIte, Nat.reduceEqDiff, Int.reduceToNat, Int.reducePow, Nat.reduceAdd, Nat.reduceLeDiff, Nat.reduceMul, Nat.reduceBEq, reduceCtorEq, hl.len, hl.isSome, hl.load, hbe, hp, hc, hs, hsh, hor, hdv, hz.2]; repeat (first | (refine runL_V 20 ?_; simp (disch := omega) only [std, ↓reduceIte, Nat.reduceEqDiff, Int.reduceToNat, Int.reducePow, Nat.reduceAdd, Nat.reduceLeDiff, Nat.reduceMul, Nat.reduceBEq, reduceCtorEq, hl.len, hl.isSome, hl.load, hbe, hp, hc, hs, hsh, hor, hdv, hz.2]) | (refine run_V 20 ?_; simp (disch := omega) only [std, ↓reduceIte, Nat.reduceEqDiff, Int.reduceToNat, Int.reducePow, Nat.reduceAdd, Nat.reduceLeDiff, Nat.reduceMul, Nat.reduceBEq, reduceCtorEq, hl.len, hl.isSome, hl.load, hbe, hp, hc, hs, hsh, hor, hdv, hz.2]) | (refine runD_V 20 ?_; simp (disch := omega) only [std, ↓reduceIte, Nat.reduceEqDiff, Int.reduceToNat, Int.reducePow, Nat.reduceAdd, Nat.reduceLeDiff, Nat.reduceMul, Nat.reduceBEq, reduceCtorEq, hl.len, hl.isSome, hl.load, hbe, hp, hc, hs, hsh, hor, hdv, hz.2])))
            exact h _ h4
          · have hq3 : q = b % 128 → Q (got (n + q * 2 ^ (7 * i), i + 1, 0)) H := by
              intro hq2
              rw [if_neg (by omega)] at h4
              rw [h4] at hQ
              exact hQ (by simp)
            have hq4 : q ≠ b % 128 → getSpec bs = (0, 0, 3) := by
              intro hq2
              rw [if_pos (Or.inr hq2)] at h4
              exact h4
            by_cases hi0 : 0 < i
            · have hz0 : ((b % 128 : Nat) : Int) ≠ 0 := by omega
              by_cases hq2 : q = b % 128
              · have hqq : (q : Int) = ((b % 128 : Nat) : Int) := by rw [hq2]
                (simp (disch := omega) only [std, ↓reduceIte, Nat.reduceEqDiff, Int.reduceToNat, Int.reducePow, Nat.reduceAdd, Nat.reduceLeDiff, Nat.reduceMul, Nat.reduceBEq, reduceCtorEq, hl.len, hl.isSome, hl.load, hbe, hp, hc, hs, hsh, hor, hdv, hz0, hqq]; repeat (first | (refine runL_V 20 ?_; simp (disch := omega) only [std, ↓reduceIte, Nat.reduceEqDiff, Int.reduceToNat, Int.reducePow, Nat.reduceAdd, Nat.reduceLeDiff, Nat.reduceMul, Nat.reduceBEq, reduceCtorEq, hl.len, hl.isSome, hl.load, hbe, hp, hc, hs, hsh, hor, hdv, hz0, hqq]) | (refine run_V 20 ?_; simp (disch := omega) only [std, ↓reduceIte, Nat.reduceEqDiff, Int.reduceToNat, Int.reducePow, Nat.reduceAdd, Nat.reduceLeDiff, Nat.reduceMul, Nat.reduceBEq, reduceCtorEq, hl.len, hl.isSome, hl.load, hbe, hp, hc, hs, hsh, hor, hdv, hz0, hqq]) | (refine runD_V 20 ?_; simp (disch := omega) only [std, ↓reduceIte, Nat.reduceEqDiff, Int.reduceToNat, Int.reducePow, Nat.reduceAdd, Nat.reduceLeDiff, Nat.reduceMul, Nat.reduceBEq, reduceCtorEq, hl.len, hl.isSome, hl.load, hbe, hp, hc, hs, hsh, hor, hdv, hz0, hqq])))
                exact hq3 hq2
              · have hqq : (q : Int) ≠ ((b % 128 : Nat) : Int) := by omega
                (simp (disch := omega) only [std, ↓reduceIte, Nat.reduceEqDiff, Int.reduceToNat, Int.reducePow, Nat.reduceAdd, Nat.reduceLeDiff, Nat.reduceMul, Nat.reduceBEq, reduceCtorEq, hl.len, hl.isSome, hl.load, hbe, hp, hc, hs, hsh, hor, hdv, hz0, hqq]; repeat (first | (refine runL_V 20 ?_; simp (disch := omega) only [std, ↓reduceIte, Nat.reduceEqDiff, Int.reduceToNat, Int.reducePow, Nat.reduceAdd, Nat.reduceLeDiff, Nat.reduceMul, Nat.reduceBEq, reduceCtorEq, hl.len, hl.isSome, hl.load, hbe, hp, hc, hs, hsh, hor, hdv, hz0, hqq]) | (refine run_V 20 ?_; simp (disch := omega) only [std, ↓reduceIte, Nat.reduceEqDiff, Int.reduceToNat, Int.reducePow, Nat.reduceAdd, Nat.reduceLeDiff, Nat.reduceMul, Nat.reduceBEq, reduceCtorEq, hl.len, hl.isSome, hl.load, hbe, hp, hc, hs, hsh, hor, hdv, hz0, hqq]) | (refine runD_V 20 ?_; simp (disch := omega) only [std, ↓reduceIte, Nat.reduceEqDiff, Int.reduceToNat, Int.reducePow, Nat.reduceAdd, Nat.reduceLeDiff, Nat.reduceMul, Nat.reduceBEq, reduceCtorEq, hl.len, hl.isSome, hl.load, hbe, hp, hc, hs, hsh, hor, hdv, hz0, hqq])))
                exact h _ (hq4 hq2)
            · by_cases hq2 : q = b % 128
              · have hqq : (q : Int) = ((b % 128 : Nat) : Int) := by rw [hq2]
                (simp (disch := omega) only [std, ↓reduceIte, Nat.reduceEqDiff, Int.reduceToNat, Int.reducePow, Nat.reduceAdd, Nat.reduceLeDiff, Nat.reduceMul, Nat.reduceBEq, reduceCtorEq, hl.len, hl.isSome, hl.load, hbe, hp, hc, hs, hsh, hor, hdv, hqq]; repeat (first | (refine runL_V 20 ?_; simp (disch := omega) only [std, ↓reduceIte, Nat.reduceEqDiff, Int.reduceToNat, Int.reducePow, Nat.reduceAdd, Nat.reduceLeDiff, Nat.reduceMul, Nat.reduceBEq, reduceCtorEq, hl.len, hl.isSome, hl.load, hbe, hp, hc, hs, hsh, hor, hdv, hqq]) | (refine run_V 20 ?_; simp (disch := omega) only [std, ↓reduceIte, Nat.reduceEqDiff, Int.reduceToNat, Int.reducePow, Nat.reduceAdd, Nat.reduceLeDiff, Nat.reduceMul, Nat.reduceBEq, reduceCtorEq, hl.len, hl.isSome, hl.load, hbe, hp, hc, hs, hsh, hor, hdv, hqq]) | (refine runD_V 20 ?_; simp (disch := omega) only [std, ↓reduceIte, Nat.reduceEqDiff, Int.reduceToNat, Int.reducePow, Nat.reduceAdd, Nat.reduceLeDiff, Nat.reduceMul, Nat.reduceBEq, reduceCtorEq, hl.len, hl.isSome, hl.load, hbe, hp, hc, hs, hsh, hor, hdv, hqq])))
                exact hq3 hq2
              · have hqq : (q : Int) ≠ ((b % 128 : Nat) : Int) := by omega
                (simp (disch := omega) only [std, ↓reduceIte, Nat.reduceEqDiff, Int.reduceToNat, Int.reducePow, Nat.reduceAdd, Nat.reduceLeDiff, Nat.reduceMul, Nat.reduceBEq, reduceCtorEq, hl.len, hl.isSome, hl.load, hbe, hp, hc, hs, hsh, hor, hdv, hqq]; repeat (first | (refine runL_V 20 ?_; simp (disch := omega) only [std, ↓reduceIte, Nat.reduceEqDiff, Int.reduceToNat, Int.reducePow, Nat.reduceAdd, Nat.reduceLeDiff, Nat.reduceMul, Nat.reduceBEq, reduceCtorEq, hl.len, hl.isSome, hl.load, hbe, hp, hc, hs, hsh, hor, hdv, hqq]) | (refine run_V 20 ?_; simp (disch := omega) only [std, ↓reduceIte, Nat.reduceEqDiff, Int.reduceToNat, Int.reducePow, Nat.reduceAdd, Nat.reduceLeDiff, Nat.reduceMul, Nat.reduceBEq, reduceCtorEq, hl.len, hl.isSome, hl.load, hbe, hp, hc, hs, hsh, hor, hdv, hqq]) | (refine runD_V 20 ?_; simp (disch := omega) only [std, ↓reduceIte, Nat.reduceEqDiff, Int.reduceToNat, Int.reducePow, Nat.reduceAdd, Nat.reduceLeDiff, Nat.reduceMul, Nat.reduceBEq, reduceCtorEq, hl.len, hl.isSome, hl.load, hbe, hp, hc, hs, hsh, hor, hdv, hqq])))
                exact h _ (hq4 hq2)
      · (simp (disch := omega) only [std, ↓reduceIte, Nat.reduceEqDiff, Int.reduceToNat, Int.reducePow, Nat.reduceAdd, Nat.reduceLeDiff, Nat.reduceMul, Nat.reduceBEq, reduceCtorEq, hl.len]; repeat (first | (refine runL_V 20 ?_; simp (disch := omega) only [std, ↓reduceIte, Nat.reduceEqDiff, Int.reduceToNat, Int.reducePow, Nat.reduceAdd, Nat.reduceLeDiff, Nat.reduceMul, Nat.reduceBEq, reduceCtorEq, hl.len]) | (refine run_V 20 ?_; simp (disch := omega) only [std, ↓reduceIte, Nat.reduceEqDiff, Int.reduceToNat, Int.reducePow, Nat.reduceAdd, Nat.reduceLeDiff, Nat.reduceMul, Nat.reduceBEq, reduceCtorEq, hl.len]) | (refine runD_V 20 ?_; simp (disch := omega) only [std, ↓reduceIte, Nat.reduceEqDiff, Int.reduceToNat, Int.reducePow, Nat.reduceAdd, Nat.reduceLeDiff, Nat.reduceMul, Nat.reduceBEq, reduceCtorEq, hl.len])))
        rw [List.drop_eq_nil_of_le (by omega), getFrom] at h4
        rw [h4] at hQ
        exact hQ (by simp)
    · (simp (disch := omega) only [std, ↓reduceIte, Nat.reduceEqDiff, Int.reduceToNat, Int.reducePow, Nat.reduceAdd, Nat.reduceLeDiff, Nat.reduceMul, Nat.reduceBEq, reduceCtorEq]; repeat (first | (refine runL_V 20 ?_; simp (disch := omega) only [std, ↓reduceIte, Nat.reduceEqDiff, Int.reduceToNat, Int.reducePow, Nat.reduceAdd, Nat.reduceLeDiff, Nat.reduceMul, Nat.reduceBEq, reduceCtorEq]) | (refine run_V 20 ?_; simp (disch := omega) only [std, ↓reduceIte, Nat.reduceEqDiff, Int.reduceToNat, Int.reducePow, Nat.reduceAdd, Nat.reduceLeDiff, Nat.reduceMul, Nat.reduceBEq, reduceCtorEq]) | (refine runD_V 20 ?_; simp (disch := omega) only [std, ↓reduceIte, Nat.reduceEqDiff, Int.reduceToNat, Int.reducePow, Nat.reduceAdd, Nat.reduceLeDiff, Nat.reduceMul, Nat.reduceBEq, reduceCtorEq])))
      refine h _ ?_
      rw [h4, show 10 - i = 0 by omega]; rfl
  termination_by m => m

theorem get_ok (H : AHeap) {l : AVal} {bs : List Nat} (hl : Nats .u8 H l bs) (hb : ∀ b ∈ bs, b < 256) (hlen : bs.length < 9223372036854775808) (Q : AVal → AHeap → Prop) (hQ : Q (got (getSpec bs)) H) : FunOK Try.prog F.varint_Get [l] H Q := by
  refine fun_V 100 varint_Get_code rfl ?_
  simp (disch := omega) only [std, ↓reduceIte, Nat.reduceEqDiff, Int.reduceToNat, Int.reducePow, Nat.reduceAdd, Nat.reduceLeDiff, Nat.reduceMul, Nat.reduceBEq, reduceCtorEq, varint_Get, varint_Get.body]
  refine get_loop _ H Q hl hb hlen ?_ (fun _ => hQ) _ 0 0 rfl (by omega) (by simp) rfl
  intro r' he
  refine run_V 100 ?_
  simp (disch := omega) only [std, ↓reduceIte, Nat.reduceEqDiff, Int.reduceToNat, Int.reducePow, Nat.reduceAdd, Nat.reduceLeDiff, Nat.reduceMul, Nat.reduceBEq, reduceCtorEq]
  rw [he] at hQ
  exact hQ
end Go.Proofs.Ytdlhdaimjimmkaa

namespace Go.Proofs.Ytdlhdaimjimmkaa
open Go Go.Am
set_option linter.unusedSimpArgs false
set_option linter.unusedVariables false

def lead : Nat → List Nat → Nat
  | 0, _ => 0
  | _ + 1, [] => 0
  | f + 1, b :: bs => if 128 ≤ b then 1 + lead f bs else 0

def val : List Nat → Nat
  | [] => 0
  | b :: bs => b % 128 + 128 * val bs

theorem lead_le : ∀ (f : Nat) (bs : List Nat), lead f bs ≤ f
  | 0, _ => by simp [lead]
  | _ + 1, [] => by simp [lead]
  | f + 1, b :: bs => by
    simp only [lead]
    have := lead_le f bs
    split <;> omega

def rgetSpec (bs : List Nat) : Nat × Nat × Nat :=
  if lead 10 bs = 10 then (0, 0, 3)
  else if bs.length ≤ lead 10 bs then (0, 0, 4)
  else if 18446744073709551616 ≤ val (bs.take (lead 10 bs + 1)) then (0, 0, 3)
  else if 0 < lead 10 bs ∧ bs.getD (lead 10 bs) 0 = 0 then (0, 0, 3)
  else (val (bs.take (lead 10 bs + 1)), lead 10 bs + 1, 0)

theorem getFrom_eq : ∀ (f i n : Nat) (bs : List Nat), i + f = 10 → n < 2 ^ (7 * i) →
    getFrom f i n bs = if lead f bs = f then (0, 0, 3) else if bs.length ≤ lead f bs then (0, 0, 4) else if 18446744073709551616 ≤ n + val (bs.take (lead f bs + 1)) * 2 ^ (7 * i) then (0, 0, 3)
      else if 0 < i + lead f bs ∧ bs.getD (lead f bs) 0 % 128 = 0 then (0, 0, 3) else (n + val (bs.take (lead f bs + 1)) * 2 ^ (7 * i), i + lead f bs + 1, 0)
  | 0, i, n, bs, h, hn => by simp [getFrom, lead]
  | f + 1, i, n, [], h, hn => by simp [getFrom, lead]
  | f + 1, i, n, b :: rest, h, hn => by
    have hp2 := Nat.two_pow_pos (7 * i)
    have h64 : (18446744073709551616 : Nat) = 2 ^ (64 - 7 * i) * 2 ^ (7 * i) := by rw [← Nat.pow_add, show 64 - 7 * i + 7 * i = 64 by omega]
    by_cases hb : 128 ≤ b
    · simp only [getFrom, lead, if_pos hb]
      by_cases hf : f = 0
      · subst hf; simp [getFrom, lead]
      · have hq : b % 128 % 2 ^ (64 - 7 * i) = b % 128 := by
          refine Nat.mod_eq_of_lt (Nat.lt_of_lt_of_le (Nat.mod_lt _ (by omega)) ?_)
          exact Nat.pow_le_pow_right (n := 2) (by omega) (show 7 ≤ 64 - 7 * i by omega)
        rw [hq]
        have hlt : n + b % 128 * 2 ^ (7 * i) < 2 ^ (7 * (i + 1)) := by
          have : b % 128 ≤ 127 := by omega
          have := Nat.mul_le_mul_right (2 ^ (7 * i)) this
          rw [show 7 * (i + 1) = 7 * i + 7 by omega, Nat.pow_add]
          omega
        rw [getFrom_eq f (i + 1) _ rest (by omega) hlt]
        have hv : n + b % 128 * 2 ^ (7 * i) + val (rest.take (lead f rest + 1)) * 2 ^ (7 * (i + 1)) = n + val ((b :: rest).take (1 + lead f rest + 1)) * 2 ^ (7 * i) := by
          rw [List.take_succ_cons, show 1 + lead f rest = lead f rest + 1 by omega, val, show 7 * (i + 1) = 7 * i + 7 by omega, Nat.pow_add, Nat.add_mul]
          have : val (rest.take (lead f rest + 1)) * (2 ^ (7 * i) * 2 ^ 7) = 128 * val (rest.take (lead f rest + 1)) * 2 ^ (7 * i) := by
            rw [Nat.mul_comm (2 ^ (7 * i)), ← Nat.mul_assoc, Nat.mul_comm (val _)]
          omega
        rw [hv]
        have e1 : (lead f rest = f) = (1 + lead f rest = f + 1) := propext ⟨fun h => by omega, fun h => by omega⟩
        have e2 : (rest.length ≤ lead f rest) = ((b :: rest).length ≤ 1 + lead f rest) := by simp only [List.length_cons]; exact propext ⟨fun h => by omega, fun h => by omega⟩
        have e3 : rest.getD (lead f rest) 0 = (b :: rest).getD (1 + lead f rest) 0 := by rw [Nat.add_comm 1]; simp
        rw [e3, show i + 1 + lead f rest = i + (1 + lead f rest) by omega]
        simp only [e1, e2]
    · have hbm : b % 128 = b := by omega
      simp only [getFrom, lead, if_neg hb, hbm]
      have e1 : (0 = f + 1) = False := by simp
      have e2 : ((b :: rest).length ≤ 0) = False := by simp
      simp only [e1, e2, if_false, List.take_succ_cons, List.take_zero, val, hbm, Nat.mul_zero, Nat.add_zero, List.getD_cons_zero]
      by_cases hq : b < 2 ^ (64 - 7 * i)
      · have hqm : b % 2 ^ (64 - 7 * i) = b := Nat.mod_eq_of_lt hq
        have hlt : n + b * 2 ^ (7 * i) < 18446744073709551616 := by
          have := Nat.mul_le_mul_right (2 ^ (7 * i)) (show b + 1 ≤ 2 ^ (64 - 7 * i) from hq)
          rw [← h64, Nat.add_mul] at this
          omega
        simp only [hqm, Nat.not_le.2 hlt, if_false, ne_eq, not_true_eq_false, or_false]
      · have hqm : b % 2 ^ (64 - 7 * i) ≠ b := by
          intro he
          have := Nat.mod_lt b (Nat.two_pow_pos (64 - 7 * i))
          omega
        have hge : 18446744073709551616 ≤ n + b * 2 ^ (7 * i) := by
          have := Nat.mul_le_mul_right (2 ^ (7 * i)) (show 2 ^ (64 - 7 * i) ≤ b by omega)
          rw [← h64] at this
          omega
        simp only [hqm, hge, if_true, ne_eq, not_false_eq_true, or_true]

theorem lead_last : ∀ (f : Nat) (bs : List Nat), lead f bs ≠ f → ∀ (h : lead f bs < bs.length), bs.getD (lead f bs) 0 < 128
  | 0, _, h, _ => by simp [lead] at h
  | f + 1, [], h, h' => by simp [lead] at h'
  | f + 1, b :: bs, h, h' => by
    by_cases hb : 128 ≤ b
    · simp only [lead, if_pos hb] at h h' ⊢
      have := lead_last f bs (by omega) (by simp at h'; omega)
      rw [Nat.add_comm 1]; simpa using this
    · simp only [lead, if_neg hb]
      simp; omega

/-- Both ways come to the same. -/
theorem rgetSpec_eq (bs : List Nat) : rgetSpec bs = getSpec bs := by
  unfold rgetSpec getSpec
  rw [getFrom_eq 10 0 0 bs rfl (by simp)]
  simp only [Nat.mul_zero, Nat.pow_zero, Nat.mul_one, Nat.zero_add]
  by_cases h1 : lead 10 bs = 10
  · simp [h1]
  · by_cases h2 : bs.length ≤ lead 10 bs
    · simp [h1, h2]
    · have := lead_last 10 bs h1 (by omega)
      rw [Nat.mod_eq_of_lt this]

/-! ### The walk -/

abbrev rgetC : Ctx := ⟨F.cuneiformref01_Get, 72, [.tmp 4, .tmp 5, .tmp 6], none⟩

theorem lead_step {f j : Nat} {bs : List Nat} (hj : j ≤ lead f bs) : lead f bs = j + lead (f - j) (bs.drop j) := by
  induction j generalizing f bs with
  | zero => simp
  | succ j ih =>
    cases f with
    | zero => simp [lead] at hj
    | succ f =>
      cases bs with
      | nil => simp [lead] at hj
      | cons b bs =>
        simp only [lead] at hj ⊢
        by_cases hb : 128 ≤ b
        · simp only [if_pos hb] at hj ⊢
          rw [ih (f := f) (bs := bs) (by omega)]
          simp only [List.drop_succ_cons, show f + 1 - (j + 1) = f - j by omega]; omega
        · simp only [if_neg hb] at hj; omega

theorem rget_find (K : List AItem) (H : AHeap) (Q : AVal → AHeap → Prop) {l : AVal} {bs : List Nat} {at_ : Nat} (hl : Nats .u8 H l bs) (hlen : bs.length < 9223372036854775000) (hat : at_ ≤ bs.length)
    (h : ∀ r', rget r' 0 = l → rget r' 1 = .int .i64 at_ → rget r' 7 = .int .i64 ((at_ + lead 10 (bs.drop at_) : Nat) : Int) → Run Try.prog rgetC K r' H Q) :
    ∀ (m j : Nat), 10 - j = m → j ≤ lead 10 (bs.drop at_) → Rounds Try.prog rgetC cuneiformref01_Get.b0 [.inBlock 0] K [(0, l), (1, .int .i64 at_), (7, .int .i64 ((at_ + j : Nat) : Int))] H Q
  | m, j, hm, hj => by
    refine loop_V 300 cuneiformref01_Get.b0.eq_1 ?_
    have hs := lead_step hj
    have hle := lead_le 10 (bs.drop at_)
    by_cases h1 : at_ + j < bs.length
    · by_cases h2 : j < 10
      · have hd : (bs.drop at_).drop j = bs.getD (at_ + j) 0 :: bs.drop (at_ + (j + 1)) := by
          rw [List.drop_drop, List.drop_eq_getElem_cons h1]; simp [h1, Nat.add_assoc]
        rw [hd, show 10 - j = (10 - (j + 1)) + 1 by omega, lead] at hs
        by_cases h3 : 128 ≤ bs.getD (at_ + j) 0
        · rw [if_pos h3] at hs
          simp (disch := omega) only [std, ↓reduceIte, Nat.reduceEqDiff, Int.reduceToNat, Int.reducePow, Nat.reduceAdd, Nat.reduceLeDiff, Nat.reduceMul, Nat.reduceBEq, reduceCtorEq, hl.len, hl.isSome, hl.load]
          exact rget_find K H Q hl hlen hat h (10 - (j + 1)) (j + 1) rfl (by omega)
        · rw [if_neg h3] at hs
          simp (disch := omega) only [std, ↓reduceIte, Nat.reduceEqDiff, Int.reduceToNat, Int.reducePow, Nat.reduceAdd, Nat.reduceLeDiff, Nat.reduceMul, Nat.reduceBEq, reduceCtorEq, hl.len, hl.isSome, hl.load]
          refine h _ ?_ ?_ ?_ <;> simp (disch := omega) only [std, ↓reduceIte, Nat.reduceEqDiff, Int.reduceToNat, Int.reducePow, Nat.reduceAdd, Nat.reduceLeDiff, Nat.reduceMul, Nat.reduceBEq, reduceCtorEq]
          rw [hs]; rfl
      · have : j = 10 := by omega
        subst this
        simp (disch := omega) only [std, ↓reduceIte, Nat.reduceEqDiff, Int.reduceToNat, Int.reducePow, Nat.reduceAdd, Nat.reduceLeDiff, Nat.reduceMul, Nat.reduceBEq, reduceCtorEq, hl.len, hl.isSome, hl.load]
        refine h _ ?_ ?_ ?_ <;> simp (disch := omega) only [std, ↓reduceIte, Nat.reduceEqDiff, Int.reduceToNat, Int.reducePow, Nat.reduceAdd, Nat.reduceLeDiff, Nat.reduceMul, Nat.reduceBEq, reduceCtorEq]
        rw [show lead 10 (bs.drop at_) = 10 by omega]
    · have hd : (bs.drop at_).drop j = [] := by rw [List.drop_drop]; exact List.drop_eq_nil_of_le (by omega)
      rw [hd] at hs
      have : lead (10 - j) [] = 0 := by cases 10 - j <;> rfl
      rw [this] at hs
      simp (disch := omega) only [std, ↓reduceIte, Nat.reduceEqDiff, Int.reduceToNat, Int.reducePow, Nat.reduceAdd, Nat.reduceLeDiff, Nat.reduceMul, Nat.reduceBEq, reduceCtorEq, hl.len, hl.isSome, hl.load]
      refine h _ ?_ ?_ ?_ <;> simp (disch := omega) only [std, ↓reduceIte, Nat.reduceEqDiff, Int.reduceToNat, Int.reducePow, Nat.reduceAdd, Nat.reduceLeDiff, Nat.reduceMul, Nat.reduceBEq, reduceCtorEq]
      rw [hs]; rfl
  termination_by m => m

theorem val_drop (d : List Nat) (j : Nat) (hj : j < d.length) : val (d.drop j) = d.getD j 0 % 128 + 128 * val (d.drop (j + 1)) := by
  rw [List.drop_eq_getElem_cons hj, val]; simp [hj]

theorem val_ge (d : List Nat) : ∀ j, val (d.drop j) ≤ val d
  | 0 => by simp
  | j + 1 => by
    have := val_ge d j
    by_cases hj : j < d.length
    · rw [val_drop d j hj] at this; omega
    · rw [List.drop_eq_nil_of_le (by omega)]; simp [val]

/-- From the last byte back to the first. -/
theorem rget_back (K : List AItem) (H : AHeap) (Q : AVal → AHeap → Prop) {l : AVal} {bs : List Nat} {at_ e : Nat} (hl : Nats .u8 H l bs) (hb : ∀ b ∈ bs, b < 256) (hlen : bs.length < 9223372036854775000) (hat : at_ + e < bs.length)
    (h : ∀ r', val ((bs.drop at_).take (e + 1)) < 18446744073709551616 → rget r' 0 = l → rget r' 1 = .int .i64 at_ → rget r' 7 = .int .i64 ((at_ + e : Nat) : Int) → rget r' 8 = .int .u64 (val ((bs.drop at_).take (e + 1))) → Run Try.prog rgetC K r' H Q)
    (hQ : 18446744073709551616 ≤ val ((bs.drop at_).take (e + 1)) → Q (.tup [.int .u64 0, .int .i64 at_, .int .i64 3]) H) :
    ∀ (j : Nat), j ≤ e + 1 → val (((bs.drop at_).take (e + 1)).drop j) < 18446744073709551616 →
    Rounds Try.prog rgetC cuneiformref01_Get.b1 [.inBlock 2] K [(0, l), (1, .int .i64 at_), (7, .int .i64 ((at_ + e : Nat) : Int)), (8, .int .u64 (val (((bs.drop at_).take (e + 1)).drop j))), (9, .int .i64 ((at_ : Int) + (j : Int) - 1))] H Q
  | 0, hj, hv => by
    refine loop_V 300 cuneiformref01_Get.b1.eq_1 ?_
    rw [List.drop_zero] at hv
    simp (disch := omega) only [std, ↓reduceIte, Nat.reduceEqDiff, Int.reduceToNat, Int.reducePow, Nat.reduceAdd, Nat.reduceLeDiff, Nat.reduceMul, Nat.reduceBEq, reduceCtorEq]
    refine h _ hv ?_ ?_ ?_ ?_ <;> simp (disch := omega) only [std, ↓reduceIte, Nat.reduceEqDiff, Int.reduceToNat, Int.reducePow, Nat.reduceAdd, Nat.reduceLeDiff, Nat.reduceMul, Nat.reduceBEq, reduceCtorEq, List.drop_zero]
  | j + 1, hj, hv => by
    refine loop_V 300 cuneiformref01_Get.b1.eq_1 ?_
    have hdl : ((bs.drop at_).take (e + 1)).length = e + 1 := by simp; omega
    have hvd := val_drop ((bs.drop at_).take (e + 1)) j (by omega)
    have hge := val_ge ((bs.drop at_).take (e + 1)) j
    have hgd : ((bs.drop at_).take (e + 1)).getD j 0 = bs.getD (at_ + j) 0 := by
      simp [List.getD_eq_getElem?_getD, List.getElem?_take, List.getElem?_drop, show j < e + 1 by omega]
    have hbi : bs.getD (at_ + j) 0 < 256 := by
      rw [List.getD_eq_getElem?_getD, List.getElem?_eq_getElem (by omega)]; exact hb _ (List.getElem_mem _)
    rw [hgd] at hvd
    generalize hw : val (((bs.drop at_).take (e + 1)).drop (j + 1)) = w at *
    have ht : ((at_ : Int) + ((j + 1 : Nat) : Int) - 1).toNat = at_ + j := by omega
    have e9 : (at_ : Int) + ((j + 1 : Nat) : Int) - 1 - 1 = (at_ : Int) + (j : Int) - 1 := by omega
    by_cases hbig : 144115188075855871 < w
    · simp (disch := omega) only [std, ↓reduceIte, Nat.reduceEqDiff, Int.reduceToNat, Int.reducePow, Nat.reduceAdd, Nat.reduceLeDiff, Nat.reduceMul, Nat.reduceBEq, reduceCtorEq]
      exact hQ (by omega)
    · have et : ((bs.getD (at_ + j) 0 : Nat) : Int).tmod 128 = ((bs.getD (at_ + j) 0 % 128 : Nat) : Int) := by rw [Int.tmod_eq_emod_of_nonneg (by omega)]; omega
      have e8 : (w : Int) * 128 + ((bs.getD (at_ + j) 0 % 128 : Nat) : Int) = ((val (((bs.drop at_).take (e + 1)).drop j) : Nat) : Int) := by omega
      simp (disch := omega) only [std, ↓reduceIte, Nat.reduceEqDiff, Int.reduceToNat, Int.reducePow, Nat.reduceAdd, Nat.reduceLeDiff, Nat.reduceMul, Nat.reduceBEq, reduceCtorEq, hl.len, hl.isSome, hl.load, ht, et, e8, e9, ne_eq, not_false_eq_true, Int.reduceEq]
      exact rget_back K H Q hl hb hlen hat h hQ j (by omega) (by omega)

theorem rget_from {K : List AItem} (H : AHeap) (Q : AVal → AHeap → Prop) {l : AVal} {bs : List Nat} {at_ e : Nat} (hl : Nats .u8 H l bs) (hb : ∀ b ∈ bs, b < 256) (hlen : bs.length < 9223372036854775000) (hat : at_ + e < bs.length) {v8 v9 : Int} (j : Nat) (hj : j ≤ e + 1)
    (hv : val (((bs.drop at_).take (e + 1)).drop j) < 18446744073709551616) (h8 : v8 = val (((bs.drop at_).take (e + 1)).drop j)) (h9 : v9 = (at_ : Int) + (j : Int) - 1)
    (h : ∀ r', val ((bs.drop at_).take (e + 1)) < 18446744073709551616 → rget r' 0 = l → rget r' 1 = .int .i64 at_ → rget r' 7 = .int .i64 ((at_ + e : Nat) : Int) → rget r' 8 = .int .u64 (val ((bs.drop at_).take (e + 1))) → Run Try.prog rgetC K r' H Q)
    (hQ : 18446744073709551616 ≤ val ((bs.drop at_).take (e + 1)) → Q (.tup [.int .u64 0, .int .i64 at_, .int .i64 3]) H) :
    Rounds Try.prog rgetC cuneiformref01_Get.b1 [.inBlock 2] K [(0, l), (1, .int .i64 at_), (7, .int .i64 ((at_ + e : Nat) : Int)), (8, .int .u64 v8), (9, .int .i64 v9)] H Q := by
  rw [h8, h9]; exact rget_back K H Q hl hb hlen hat h hQ j hj hv

/-- The document's number at a place, and where it ends. -/
theorem rget_ok (H : AHeap) {l : AVal} {bs : List Nat} {at_ : Nat} (hl : Nats .u8 H l bs) (hb : ∀ b ∈ bs, b < 256) (hlen : bs.length < 9223372036854775000) (hat : at_ ≤ bs.length) (Q : AVal → AHeap → Prop)
    (h : Q (.tup [.int .u64 (getSpec (bs.drop at_)).1, .int .i64 ((at_ + (getSpec (bs.drop at_)).2.1 : Nat) : Int), .int .i64 (getSpec (bs.drop at_)).2.2]) H) : FunOK Try.prog F.cuneiformref01_Get [l, .int .i64 at_] H Q := by
  refine fun_V 100 cuneiformref01_Get_code rfl ?_
  simp (disch := omega) only [std, ↓reduceIte, Nat.reduceEqDiff, Int.reduceToNat, Int.reducePow, Nat.reduceAdd, Nat.reduceLeDiff, Nat.reduceMul, Nat.reduceBEq, reduceCtorEq, cuneiformref01_Get, cuneiformref01_Get.body]
  have hle := lead_le 10 (bs.drop at_)
  rw [← rgetSpec_eq] at h
  unfold rgetSpec at h
  refine rget_find _ H Q hl hlen hat ?_ _ 0 rfl (by omega)
  intro r' e0 e1 e7
  refine run_V 100 ?_
  generalize hE : lead 10 (bs.drop at_) = E at *
  by_cases h10 : E = 10
  · subst h10
    simp (disch := omega) only [std, ↓reduceIte, Nat.reduceEqDiff, Int.reduceToNat, Int.reducePow, Nat.reduceAdd, Nat.reduceLeDiff, Nat.reduceMul, Nat.reduceBEq, reduceCtorEq, e0, e1, e7, hl.len]
    simpa using h
  · rw [if_neg h10] at h
    by_cases hend : bs.length ≤ at_ + E
    · rw [if_pos (by simp; omega)] at h
      simp (disch := omega) only [std, ↓reduceIte, Nat.reduceEqDiff, Int.reduceToNat, Int.reducePow, Nat.reduceAdd, Nat.reduceLeDiff, Nat.reduceMul, Nat.reduceBEq, reduceCtorEq, e0, e1, e7, hl.len]
      simpa using h
    · rw [if_neg (by simp; omega)] at h
      simp (disch := omega) only [std, ↓reduceIte, Nat.reduceEqDiff, Int.reduceToNat, Int.reducePow, Nat.reduceAdd, Nat.reduceLeDiff, Nat.reduceMul, Nat.reduceBEq, reduceCtorEq, e0, e1, e7, hl.len]
      have hd0 : ((bs.drop at_).take (E + 1)).drop (E + 1) = [] := List.drop_eq_nil_of_le (by simp; omega)
      refine rget_from H Q (at_ := at_) (e := E) hl hb hlen (by omega) (v8 := 0) (v9 := ((at_ + E : Nat) : Int)) (E + 1) (by omega) (by rw [hd0]; simp [val]) (by rw [hd0]; rfl) (by omega) ?_ ?_
      · intro r'' hv f0 f1 f7 f8
        rw [if_neg (by omega)] at h
        refine run_V 100 ?_
        have hgd : (bs.drop at_).getD E 0 = bs.getD (at_ + E) 0 := by simp [List.getD_eq_getElem?_getD, List.getElem?_drop]
        rw [hgd] at h
        by_cases hE0 : 0 < E
        · by_cases hz : bs.getD (at_ + E) 0 = 0
          · rw [if_pos ⟨hE0, hz⟩] at h
            have hz' : ((bs.getD (at_ + E) 0 : Nat) : Int) = 0 := by omega
            simp (disch := omega) only [std, ↓reduceIte, Nat.reduceEqDiff, Int.reduceToNat, Int.reducePow, Nat.reduceAdd, Nat.reduceLeDiff, Nat.reduceMul, Nat.reduceBEq, reduceCtorEq, f0, f1, f7, f8, hl.len, hl.isSome, hl.load, hz']
            simpa using h
          · rw [if_neg (by omega)] at h
            have hz' : ((bs.getD (at_ + E) 0 : Nat) : Int) ≠ 0 := by omega
            simp (disch := omega) only [std, ↓reduceIte, Nat.reduceEqDiff, Int.reduceToNat, Int.reducePow, Nat.reduceAdd, Nat.reduceLeDiff, Nat.reduceMul, Nat.reduceBEq, reduceCtorEq, f0, f1, f7, f8, hl.len, hl.isSome, hl.load, hz']
            simpa [Int.add_assoc] using h
        · rw [if_neg (by omega)] at h
          simp (disch := omega) only [std, ↓reduceIte, Nat.reduceEqDiff, Int.reduceToNat, Int.reducePow, Nat.reduceAdd, Nat.reduceLeDiff, Nat.reduceMul, Nat.reduceBEq, reduceCtorEq, f0, f1, f7, f8, hl.len, hl.isSome, hl.load]
          simpa [Int.add_assoc] using h
      · intro hv
        rw [if_pos hv] at h
        simpa using h
end Go.Proofs.Ytdlhdaimjimmkaa

namespace Go.Proofs.Ytdlhdaimjimmkaa
open Go Go.Am
set_option linter.unusedSimpArgs false
set_option linter.unusedVariables false

theorem put_known : putAll [5, 300] = [5, 172, 2] := by
  simp only [putAll, List.flatMap_cons, List.flatMap_nil, putOne_lt (show 5 < 128 by decide), putOne_ge (show ¬ 300 < 128 by decide), Nat.reduceDiv, putOne_lt (show 2 < 128 by decide)]
  rfl

theorem known_ok (H : AHeap) (Q : AVal → AHeap → Prop) (h : ∀ H', Keeps H H' → Q (.bool true) H') : FunOK Try.prog F.cuneiformlaw01_known [] H Q := by
  refine fun_V 100 cuneiformlaw01_known_code rfl ?_
  simp (disch := omega) only [std, ↓reduceIte, Nat.reduceEqDiff, Int.reduceToNat, Int.reducePow, Nat.reduceAdd, Nat.reduceLeDiff, Nat.reduceMul, Nat.reduceBEq, reduceCtorEq, cuneiformlaw01_known, cuneiformlaw01_known.body]
  refine callK_fn (get_ok _ (nats_lit (k := .u8) [128, 0]) (by decide) (by decide) _ ?_)
  rw [show got (getSpec [128, 0]) = .tup [.int .u64 0, .int .i64 0, .int .i64 3] from rfl]
  refine runL_V 100 ?_
  simp (disch := omega) only [std, ↓reduceIte, Nat.reduceEqDiff, Int.reduceToNat, Int.reducePow, Nat.reduceAdd, Nat.reduceLeDiff, Nat.reduceMul, Nat.reduceBEq, reduceCtorEq]
  refine callK_fn (put_ok _ (nats_lit (k := .u64) [5, 300]) (by decide) (by decide) _ ?_)
  intro a1 H1 m1 k1
  rw [put_known] at m1
  refine runL_V 100 ?_
  simp (disch := omega) only [std, ↓reduceIte, Nat.reduceEqDiff, Int.reduceToNat, Int.reducePow, Nat.reduceAdd, Nat.reduceLeDiff, Nat.reduceMul, Nat.reduceBEq, reduceCtorEq]
  refine callK_fn (same_ok _ (m1.nats.keep ((Keeps.refl _).push _)) (nats_lit (k := .u8) [5, 172, 2]) (by decide) _ ?_)
  refine runL_V 100 ?_
  simp (disch := omega) only [std, ↓reduceIte, Nat.reduceEqDiff, Int.reduceToNat, Int.reducePow, Nat.reduceAdd, Nat.reduceLeDiff, Nat.reduceMul, Nat.reduceBEq, reduceCtorEq]
  refine callK_fn (zig_ok _ _ (by decide) (by decide) _ ?_)
  rw [show zig (-3) = 5 from rfl]
  refine runL_V 100 ?_
  simp (disch := omega) only [std, ↓reduceIte, Nat.reduceEqDiff, Int.reduceToNat, Int.reducePow, Nat.reduceAdd, Nat.reduceLeDiff, Nat.reduceMul, Nat.reduceBEq, reduceCtorEq]
  exact h _ (((((Keeps.refl H).push _).push _).trans k1).push _)
end Go.Proofs.Ytdlhdaimjimmkaa

namespace Go.Proofs.Ytdlhdaimjimmkaa
open Go Go.Am
set_option linter.unusedSimpArgs false
set_option linter.unusedVariables false

def Canon : List Nat → Prop
  | [] => False
  | [b] => b < 128
  | b :: c :: rest => 128 ≤ b ∧ b < 256 ∧ val (c :: rest) ≠ 0 ∧ Canon (c :: rest)

theorem putOne_val : ∀ (d : List Nat), Canon d → putOne (val d) = d
  | [], h => h.elim
  | [b], h => by
    simp only [Canon] at h
    have : val [b] = b := by simp only [val]; omega
    rw [this, putOne_lt h]
  | b :: c :: rest, h => by
    obtain ⟨h1, h2, h3, h4⟩ := h
    have hv : val (b :: c :: rest) = b % 128 + 128 * val (c :: rest) := rfl
    rw [hv, putOne_ge (by omega), show (b % 128 + 128 * val (c :: rest)) % 128 + 128 = b by omega, show (b % 128 + 128 * val (c :: rest)) / 128 = val (c :: rest) by omega, putOne_val _ h4]

theorem val_pos {d : List Nat} {j : Nat} (hj : j < d.length) (h : d.getD j 0 % 128 ≠ 0) : val d ≠ 0 := by
  have h1 := val_ge d j
  have h2 := val_drop d j hj
  omega

theorem canon_lead : ∀ (f : Nat) (bs : List Nat), (∀ b ∈ bs, b < 256) → lead f bs ≠ f → lead f bs < bs.length → (0 < lead f bs → bs.getD (lead f bs) 0 ≠ 0) → Canon (bs.take (lead f bs + 1))
  | 0, bs, _, h, _, _ => by simp [lead] at h
  | f + 1, [], _, _, h, _ => by simp [lead] at h
  | f + 1, b :: bs, hb, h1, h2, h3 => by
    by_cases hc : 128 ≤ b
    · simp only [lead, if_pos hc] at h1 h2 h3 ⊢
      simp only [List.length_cons] at h2
      have hlt : lead f bs < bs.length := by omega
      have h3' := h3 (by omega)
      rw [Nat.add_comm 1, List.getD_cons_succ] at h3'
      have ih := canon_lead f bs (fun x hx => hb x (by simp [hx])) (by omega) hlt (fun _ => h3')
      rw [show 1 + lead f bs + 1 = (lead f bs + 1) + 1 by omega, List.take_succ_cons]
      have hlen : (bs.take (lead f bs + 1)).length = lead f bs + 1 := by simp; omega
      have hlast := lead_last f bs (by omega) hlt
      have hval : val (bs.take (lead f bs + 1)) ≠ 0 := by
        refine val_pos (j := lead f bs) (by omega) ?_
        have : (bs.take (lead f bs + 1)).getD (lead f bs) 0 = bs.getD (lead f bs) 0 := by
          simp [List.getD_eq_getElem?_getD, List.getElem?_take]
        rw [this]; omega
      cases htk : bs.take (lead f bs + 1) with
      | nil => rw [htk] at hlen; simp at hlen
      | cons c rest =>
        rw [htk] at ih hval
        exact ⟨hc, hb b (by simp), hval, ih⟩
    · simp only [lead, if_neg hc]
      simp only [Nat.zero_add, List.take_succ_cons, List.take_zero, Canon]
      omega

theorem get_facts {bs : List Nat} (hb : ∀ b ∈ bs, b < 256) (h : (getSpec bs).2.2 = 0) : (getSpec bs).2.1 ≤ bs.length ∧ (getSpec bs).1 < 18446744073709551616 ∧ putOne (getSpec bs).1 = bs.take (getSpec bs).2.1 := by
  rw [← rgetSpec_eq] at h ⊢
  unfold rgetSpec at h ⊢
  by_cases h1 : lead 10 bs = 10
  · rw [if_pos h1] at h; simp at h
  · rw [if_neg h1] at h ⊢
    by_cases h2 : bs.length ≤ lead 10 bs
    · rw [if_pos h2] at h; simp at h
    · rw [if_neg h2] at h ⊢
      by_cases h3 : 18446744073709551616 ≤ val (bs.take (lead 10 bs + 1))
      · rw [if_pos h3] at h; simp at h
      · rw [if_neg h3] at h ⊢
        by_cases h4 : 0 < lead 10 bs ∧ bs.getD (lead 10 bs) 0 = 0
        · rw [if_pos h4] at h; simp at h
        · rw [if_neg h4]
          refine ⟨by simp; omega, by simp; omega, ?_⟩
          exact putOne_val _ (canon_lead 10 bs hb h1 (by omega) (fun hp hz => h4 ⟨hp, hz⟩))

theorem gets_ok {a : AVal} {bs : List Nat} (ha : Nats .u8 [] a bs) (hb : ∀ b ∈ bs, b < 256) (hlen : bs.length ≤ 9223372036854775807) : FunOK Try.prog F.cuneiformlaw01_VarintGets [a] [] fun av _ => av = .bool true := by
  refine fun_V 30 cuneiformlaw01_VarintGets_code rfl ?_
  have hmin : (if (20 : Int) < (bs.length : Int) then (20 : Int) else (bs.length : Int)) = ((min bs.length 20 : Nat) : Int) := by split <;> omega
  obtain ⟨p, v, e1, hp, hv⟩ := ha.slice none (some ((min bs.length 20 : Nat) : Int)) (l := 0) (r := min bs.length 20) rfl rfl (by omega) (by omega)
  simp (disch := omega) only [std, ↓reduceIte, Nat.reduceEqDiff, Int.reduceToNat, Int.reducePow, Nat.reduceAdd, Nat.reduceLeDiff, Nat.reduceMul, Nat.reduceBEq, reduceCtorEq, cuneiformlaw01_VarintGets, cuneiformlaw01_VarintGets.body, ha.len, hmin, e1, hp, Bool.false_eq_true, if_false]
  simp only [List.drop_zero, Nat.sub_zero] at hv
  have hb' : ∀ b ∈ bs.take (min bs.length 20), b < 256 := fun b h => hb b (List.mem_of_mem_take h)
  have hl' : (bs.take (min bs.length 20)).length ≤ 20 := by simp; omega
  generalize bs.take (min bs.length 20) = cs at *
  refine callK_fn (get_ok _ hv hb' (by omega) _ ?_)
  refine runL_V 30 ?_
  simp (disch := omega) only [std, ↓reduceIte, Nat.reduceEqDiff, Int.reduceToNat, Int.reducePow, Nat.reduceAdd, Nat.reduceLeDiff, Nat.reduceMul, Nat.reduceBEq, reduceCtorEq, got]
  refine callK_fn (rget_ok _ (at_ := 0) hv hb' (by omega) (by omega) _ ?_)
  rw [List.drop_zero, Nat.zero_add]
  refine runL_V 30 ?_
  simp (disch := omega) only [std, ↓reduceIte, Nat.reduceEqDiff, Int.reduceToNat, Int.reducePow, Nat.reduceAdd, Nat.reduceLeDiff, Nat.reduceMul, Nat.reduceBEq, reduceCtorEq, cuneiformlaw01_VarintGets.d0]
  refine callD_fn (known_ok _ _ ?_)
  intro H1 k1
  refine ⟨by simp only [recheck], ?_⟩
  have hv := hv.keep k1
  by_cases he : (getSpec cs).2.2 = 0
  · have he' : (((getSpec cs).2.2 : Nat) : Int) = 0 := by omega
    obtain ⟨f1, f2, f3⟩ := get_facts hb' he
    obtain ⟨p2, v2, e2, hp2, hv2⟩ := hv.slice none (some (((getSpec cs).2.1 : Nat) : Int)) (l := 0) (r := (getSpec cs).2.1) rfl rfl (by omega) f1
    simp only [List.drop_zero, Nat.sub_zero] at hv2
    rw [← f3] at hv2
    generalize (getSpec cs).1 = n at *
    generalize (getSpec cs).2.1 = k at *
    refine runD_V 30 ?_
    simp (disch := omega) only [std, ↓reduceIte, Nat.reduceEqDiff, Int.reduceToNat, Int.reducePow, Nat.reduceAdd, Nat.reduceLeDiff, Nat.reduceMul, Nat.reduceBEq, reduceCtorEq, cuneiformlaw01_VarintGets.d0, he', e2, hp2]
    refine callD_fn (put_ok _ (nats_one (k := .u64) (n := n)) (by simp; omega) (by simp) _ ?_)
    intro a2 H2 m2 k2
    refine ⟨by simp only [recheck], ?_⟩
    refine runD_V 30 ?_
    simp (disch := omega) only [std, ↓reduceIte, Nat.reduceEqDiff, Int.reduceToNat, Int.reducePow, Nat.reduceAdd, Nat.reduceLeDiff, Nat.reduceMul, Nat.reduceBEq, reduceCtorEq]
    refine callD_fn (same_ok _ m2.nats (hv2.keep (((Keeps.refl _).push _).trans k2)) ?_ _ ?_)
    · rw [putAll]; simp [putOne_length]; have := sizeOf_le10 f2; omega
    refine ⟨by simp only [recheck], ?_⟩
    refine runD_V 30 ?_
    have hpp : (putAll [n] = putOne n) = True := by simp [putAll]
    simp (disch := omega) only [std, ↓reduceIte, Nat.reduceEqDiff, Int.reduceToNat, Int.reducePow, Nat.reduceAdd, Nat.reduceLeDiff, Nat.reduceMul, Nat.reduceBEq, reduceCtorEq, hpp]
  · have he' : (((getSpec cs).2.2 : Nat) : Int) ≠ 0 := by omega
    refine runD_V 40 ?_
    simp (disch := omega) only [std, ↓reduceIte, Nat.reduceEqDiff, Int.reduceToNat, Int.reducePow, Nat.reduceAdd, Nat.reduceLeDiff, Nat.reduceMul, Nat.reduceBEq, reduceCtorEq, cuneiformlaw01_VarintGets.d0, he', if_false]
end Go.Proofs.Ytdlhdaimjimmkaa

namespace Go.Proofs.Ytdlhdaimjimmkaa
open Go Go.Am
set_option linter.unusedSimpArgs false
set_option linter.unusedVariables false

/-- The numbers of bytes, and where they are; the error behind them. -/
def itemsOf : Nat → Nat → List Nat → List (Nat × Nat) × Nat
  | 0, _, _ => ([], 0)
  | f + 1, at_, bs => if (getSpec bs).2.2 = 0 then ((at_, (getSpec bs).1) :: (itemsOf f (at_ + (getSpec bs).2.1) (bs.drop (getSpec bs).2.1)).1, (itemsOf f (at_ + (getSpec bs).2.1) (bs.drop (getSpec bs).2.1)).2) else ([], (getSpec bs).2.2)

theorem get_pos {bs : List Nat} (h : (getSpec bs).2.2 = 0) : 1 ≤ (getSpec bs).2.1 := by
  rw [← rgetSpec_eq] at h ⊢
  unfold rgetSpec at h ⊢
  by_cases h1 : lead 10 bs = 10
  · rw [if_pos h1] at h; simp at h
  · rw [if_neg h1] at h ⊢
    by_cases h2 : bs.length ≤ lead 10 bs
    · rw [if_pos h2] at h; simp at h
    · rw [if_neg h2] at h ⊢
      by_cases h3 : 18446744073709551616 ≤ val (bs.take (lead 10 bs + 1))
      · rw [if_pos h3] at h; simp at h
      · rw [if_neg h3] at h ⊢
        by_cases h4 : 0 < lead 10 bs ∧ bs.getD (lead 10 bs) 0 = 0
        · rw [if_pos h4] at h; simp at h
        · rw [if_neg h4]; simp

def itemArgs (L : List (Nat × Nat)) (j : Nat) : List AVal := [.int .i64 ((L.getD j (0, 0)).1 : Nat), .int .u64 ((L.getD j (0, 0)).2 : Nat)]

abbrev all1C : Ctx := ⟨F.varint_All_1, 27, [], none⟩

theorem all1_loop {n : Nat} {t : Bool} {bs : List Nat} (hb : ∀ b ∈ bs, b < 256) (hlen : bs.length < 9223372036854775000) {L : List (Nat × Nat)} {I : Bool → Nat → List Nat → AHeap → Prop} (hI : Fed Try.prog n (itemArgs L) L.length I)
    (K : List AItem) (Q : AVal → AHeap → Prop) {H0 : AHeap} {fp0 : List Nat}
    (hQ : ∀ b j fp H, H0.length ≤ H.length → (∀ m, m < H0.length → m ∉ fp0 → H[m]? = H0[m]?) → (b = true → j = L.length) → I b j fp H → Q (.tup []) H) :
    ∀ (f j at_ : Nat) (H : AHeap) (fp : List Nat), bs.length - at_ < f → at_ ≤ bs.length → j ≤ L.length → L.drop j = (itemsOf f at_ (bs.drop at_)).1 → Touches fp0 H0 fp H → I true j fp H →
    Rounds Try.prog all1C varint_All_1.b0 [.inBlock 0] K [(0, .yld n), (1, cell (nums .u8 t bs)), (3, .int .i64 at_)] H Q
  | 0, j, at_, H, fp, h1, h2, h3, h4, ht, hi => by omega
  | f + 1, j, at_, H, fp, h1, h2, h3, h4, ht, hi => by
    refine loop_V 40 varint_All_1.b0.eq_1 ?_
    simp (disch := first | omega | (simp only [List.length_append, List.length_cons, List.length_nil, List.length_set, List.length_map, List.length_take, List.length_drop]; omega)) only [stdh, ↓reduceIte, Nat.reduceEqDiff, Int.reduceToNat, Int.reducePow, Nat.reduceAdd, Nat.reduceLeDiff, Nat.reduceMul, Nat.reduceBEq, reduceCtorEq]
    have hb' : ∀ b ∈ bs.drop at_, b < 256 := fun b h => hb b (List.mem_of_mem_drop h)
    refine callK_fn (get_ok _ (nums_nats .u8 t _ _) hb' (by simp; omega) _ ?_)
    refine runL_V 30 ?_
    rw [itemsOf] at h4
    by_cases he : (getSpec (bs.drop at_)).2.2 = 0
    · rw [if_pos he] at h4
      have he' : (((getSpec (bs.drop at_)).2.2 : Nat) : Int) = 0 := by omega
      obtain ⟨f1, f2, f3⟩ := get_facts hb' he
      have f4 := get_pos he
      simp at f1
      have hj : j < L.length := by
        refine Classical.byContradiction fun hn => ?_
        rw [List.drop_eq_nil_of_le (by omega)] at h4
        cases h4
      have hd := List.drop_eq_getElem_cons hj
      rw [hd] at h4
      obtain ⟨h5, h6⟩ := List.cons.inj h4
      have hargs : itemArgs L j = [.int .i64 (at_ : Int), .int .u64 ((getSpec (bs.drop at_)).1 : Nat)] := by
        simp [itemArgs, List.getD_eq_getElem?_getD, hj, h5]
      have hstep := hI.step j fp H hj hi
      rw [hargs] at hstep
      simp (disch := first | omega | (simp only [List.length_append, List.length_cons, List.length_nil, List.length_set, List.length_map, List.length_take, List.length_drop]; omega)) only [stdh, ↓reduceIte, Nat.reduceEqDiff, Int.reduceToNat, Int.reducePow, Nat.reduceAdd, Nat.reduceLeDiff, Nat.reduceMul, Nat.reduceBEq, reduceCtorEq, got, he']
      refine CallV.mono hstep fun av H' hh => ?_
      obtain ⟨fp', ht', hh⟩ := hh
      have ht2 : Touches fp0 H0 fp' H' := ht.trans ht'
      rcases hh with ⟨rfl, hi'⟩ | ⟨rfl, hi'⟩
      · refine runL_V 40 ?_
        simp (disch := first | omega | (simp only [List.length_append, List.length_cons, List.length_nil, List.length_set, List.length_map, List.length_take, List.length_drop]; omega)) only [stdh, ↓reduceIte, Nat.reduceEqDiff, Int.reduceToNat, Int.reducePow, Nat.reduceAdd, Nat.reduceLeDiff, Nat.reduceMul, Nat.reduceBEq, reduceCtorEq]
        rw [List.drop_drop] at h6
        have ea : (at_ : Int) + ((getSpec (bs.drop at_)).2.1 : Int) = ((at_ + (getSpec (bs.drop at_)).2.1 : Nat) : Int) := by omega
        rw [ea]
        exact all1_loop hb hlen hI K Q hQ f (j + 1) _ H' fp' (by omega) (by omega) (by omega) h6 ht2 hi'
      · refine runL_V 40 ?_
        simp (disch := first | omega | (simp only [List.length_append, List.length_cons, List.length_nil, List.length_set, List.length_map, List.length_take, List.length_drop]; omega)) only [stdh, ↓reduceIte, Nat.reduceEqDiff, Int.reduceToNat, Int.reducePow, Nat.reduceAdd, Nat.reduceLeDiff, Nat.reduceMul, Nat.reduceBEq, reduceCtorEq]
        exact hQ false _ fp' H' ht2.le ht2.kept (fun hh => by cases hh) hi'
    · rw [if_neg he] at h4
      have he' : (((getSpec (bs.drop at_)).2.2 : Nat) : Int) ≠ 0 := by omega
      simp (disch := first | omega | (simp only [List.length_append, List.length_cons, List.length_nil, List.length_set, List.length_map, List.length_take, List.length_drop]; omega)) only [stdh, ↓reduceIte, Nat.reduceEqDiff, Int.reduceToNat, Int.reducePow, Nat.reduceAdd, Nat.reduceLeDiff, Nat.reduceMul, Nat.reduceBEq, reduceCtorEq, got, he']
      have : j = L.length := by
        have := congrArg List.length h4
        simp at this; omega
      exact hQ true j fp H ht.le ht.kept (fun _ => this) hi

theorem all1_iter {H : AHeap} {n : Nat} {t : Bool} {bs : List Nat} (hb : ∀ b ∈ bs, b < 256) (hlen : bs.length < 9223372036854775000) :
    Iter Try.prog F.varint_All_1 [.yld n, cell (nums .u8 t bs)] n (itemArgs (itemsOf (bs.length + 1) 0 bs).1) (itemsOf (bs.length + 1) 0 bs).1.length [] H := by
  intro I hI fp hi hown
  refine fun_V 100 varint_All_1_code rfl ?_
  simp (disch := first | omega | (simp only [List.length_append, List.length_cons, List.length_nil, List.length_set, List.length_map, List.length_take, List.length_drop]; omega)) only [stdh, ↓reduceIte, Nat.reduceEqDiff, Int.reduceToNat, Int.reducePow, Nat.reduceAdd, Nat.reduceLeDiff, Nat.reduceMul, Nat.reduceBEq, reduceCtorEq, varint_All_1, varint_All_1.body]
  refine all1_loop hb hlen hI _ _ ?_ (bs.length + 1) 0 0 H fp (by omega) (by omega) (by omega) rfl (Touches.refl _ _) hi
  intro b j fp' H' h1 h2 h3 h4
  exact ⟨b, j, fp', h1, h2, h3, h4⟩

theorem all_ok (H : AHeap) (t : Bool) (bs : List Nat) (Q : AVal → AHeap → Prop) (h : Q (.fn F.varint_All_1 [] [cell (nums .u8 t bs)]) H) : FunOK Try.prog F.varint_All [nums .u8 t bs] H Q := by
  refine fun_iced varint_All_code fun ha => ?_
  refine fun_V 100 varint_All_code rfl ?_
  simp (disch := first | omega | (simp only [List.length_append, List.length_cons, List.length_nil, List.length_set, List.length_map, List.length_take, List.length_drop]; omega)) only [stdh, ↓reduceIte, Nat.reduceEqDiff, Int.reduceToNat, Int.reducePow, Nat.reduceAdd, Nat.reduceLeDiff, Nat.reduceMul, Nat.reduceBEq, reduceCtorEq, varint_All, varint_All.body]
  exact ice_clo1 (closed_nums _ _ _) h
end Go.Proofs.Ytdlhdaimjimmkaa

namespace Go.Proofs.Ytdlhdaimjimmkaa
open Go Go.Am
set_option linter.unusedSimpArgs false
set_option linter.unusedVariables false

abbrev rallC : Ctx := ⟨F.cuneiformref01_All, 38, [.tmp 2, .tmp 3, .tmp 4], none⟩

/-- The error that is told: none at the end. -/
def errOf (bs : List Nat) (x : List (Nat × Nat) × Nat) (rest : List Nat) : Nat := if rest = [] then 0 else x.2

theorem itemsOf_nil (f at_ : Nat) : itemsOf (f + 1) at_ [] = ([], 4) := by
  have : getSpec [] = (0, 0, 4) := by rfl
  simp [itemsOf, this]

/-- What is left behind the last number. -/
def restOf : Nat → List Nat → List Nat
  | 0, bs => bs
  | f + 1, bs => if (getSpec bs).2.2 = 0 then restOf f (bs.drop (getSpec bs).2.1) else bs

theorem rall_loop (K : List AItem) (H0 : AHeap) (Q : AVal → AHeap → Prop) {l : AVal} {bs : List Nat} (hl : Nats .u8 H0 l bs) (hb : ∀ b ∈ bs, b < 256) (hlen : bs.length ≤ 1000) (all : List (Nat × Nat)) (err : Nat)
    (h : ∀ r' H' a1 a2, Mine .i64 T.int H0.length H' a1 (all.map (·.1)) → Mine .u64 T.uint64 H0.length H' a2 (all.map (·.2)) → Keeps H0 H' → err = 0 → rget r' 5 = a1 → rget r' 6 = a2 → Run Try.prog rallC K r' H' Q)
    (hQ : ∀ H' a1 a2, Mine .i64 T.int H0.length H' a1 (all.map (·.1)) → Mine .u64 T.uint64 H0.length H' a2 (all.map (·.2)) → Keeps H0 H' → Q (.tup [a1, a2, .int .i64 err]) H') :
    ∀ (f at_ : Nat) (H : AHeap) (a1 a2 : AVal) (xs : List (Nat × Nat)), bs.length - at_ < f → at_ ≤ bs.length → xs.length ≤ at_ → all = xs ++ (itemsOf f at_ (bs.drop at_)).1 → err = (if restOf f (bs.drop at_) = [] then 0 else (itemsOf f at_ (bs.drop at_)).2) →
    Mine .i64 T.int H0.length H a1 (xs.map (·.1)) → Mine .u64 T.uint64 H0.length H a2 (xs.map (·.2)) → (∀ m ∈ a1.names, m ∉ a2.names) → Keeps H0 H →
    Rounds Try.prog rallC cuneiformref01_All.b0 [.inBlock 0] K [(0, l), (5, a1), (6, a2), (7, .int .i64 at_)] H Q
  | 0, at_, H, a1, a2, xs, h1, h2, hxs, h3, h3e, m1, m2, hd, hk => by omega
  | f + 1, at_, H, a1, a2, xs, h1, h2, hxs, h3, h3e, m1, m2, hd, hk => by
    have hlH := hl.keep hk
    refine loop_V 40 cuneiformref01_All.b0.eq_1 ?_
    by_cases hat : at_ < bs.length
    · simp (disch := omega) only [std, ↓reduceIte, Nat.reduceEqDiff, Int.reduceToNat, Int.reducePow, Nat.reduceAdd, Nat.reduceLeDiff, Nat.reduceMul, Nat.reduceBEq, reduceCtorEq, hlH.len]
      refine callK_fn (rget_ok _ hlH hb (by omega) h2 _ ?_)
      have hb' : ∀ b ∈ bs.drop at_, b < 256 := fun b h => hb b (List.mem_of_mem_drop h)
      refine runL_V 30 ?_
      by_cases he : (getSpec (bs.drop at_)).2.2 = 0
      · have he' : (((getSpec (bs.drop at_)).2.2 : Nat) : Int) = 0 := by omega
        obtain ⟨f1, f2, f3⟩ := get_facts hb' he
        have f4 := get_pos he
        simp at f1
        rw [itemsOf, if_pos he] at h3
        simp only [itemsOf, restOf, if_pos he] at h3e
        rw [List.drop_drop] at h3 h3e
        simp (disch := omega) only [std, ↓reduceIte, Nat.reduceEqDiff, Int.reduceToNat, Int.reducePow, Nat.reduceAdd, Nat.reduceLeDiff, Nat.reduceMul, Nat.reduceBEq, reduceCtorEq, he']
        obtain ⟨v1, H1, p1, e1, hp1, n1, t1, o1⟩ := Mine.append2 (H := H ++ [_]) (m1.keep ((Keeps.refl H).push _)) (nats_one (k := .i64) (H := H) (el := T.int) (n := at_)) 8 (by simp; have := hk.le; omega) (by simp; omega) (by simp; omega) (by simp)
        simp (disch := omega) only [std, ↓reduceIte, Nat.reduceEqDiff, Int.reduceToNat, Int.reducePow, Nat.reduceAdd, Nat.reduceLeDiff, Nat.reduceMul, Nat.reduceBEq, reduceCtorEq, e1, hp1]
        have m2' : Mine .u64 T.uint64 H0.length H1 a2 (xs.map (·.2)) := (m2.keep ((Keeps.refl H).push _)).moved fun m hm => by
          refine t1.kept m ?_ fun hm1 => hd m hm1 hm
          have := (m2.lt m hm).2
          simp; omega
        have hk1 : Keeps H0 H1 := (hk.push _).touch t1 fun m hm => (m1.lt m hm).1
        obtain ⟨v2, H2, p2, e2, hp2, n2, t2, o2⟩ := Mine.append2 (H := H1 ++ [_]) (m2'.keep ((Keeps.refl H1).push _)) (nats_one (k := .u64) (H := H1) (el := T.uint64) (n := (getSpec (bs.drop at_)).1)) 8 (by simp; have := hk1.le; omega) (by simp; omega) (by simp; omega) (by simp)
        (simp (disch := omega) only [std, ↓reduceIte, Nat.reduceEqDiff, Int.reduceToNat, Int.reducePow, Nat.reduceAdd, Nat.reduceLeDiff, Nat.reduceMul, Nat.reduceBEq, reduceCtorEq, e2, hp2]; repeat (first | (refine runL_V 20 ?_; simp (disch := omega) only [std, ↓reduceIte, Nat.reduceEqDiff, Int.reduceToNat, Int.reducePow, Nat.reduceAdd, Nat.reduceLeDiff, Nat.reduceMul, Nat.reduceBEq, reduceCtorEq, e2, hp2]) | (refine run_V 20 ?_; simp (disch := omega) only [std, ↓reduceIte, Nat.reduceEqDiff, Int.reduceToNat, Int.reducePow, Nat.reduceAdd, Nat.reduceLeDiff, Nat.reduceMul, Nat.reduceBEq, reduceCtorEq, e2, hp2]) | (refine runD_V 20 ?_; simp (disch := omega) only [std, ↓reduceIte, Nat.reduceEqDiff, Int.reduceToNat, Int.reducePow, Nat.reduceAdd, Nat.reduceLeDiff, Nat.reduceMul, Nat.reduceBEq, reduceCtorEq, e2, hp2])))
        have n1' : Mine .i64 T.int H0.length H2 v1 (xs.map (·.1) ++ [at_]) := (n1.keep ((Keeps.refl H1).push _)).moved fun m hm => by
          have hlt := (n1.lt m hm).2
          refine t2.kept m (by simp; omega) fun hm2 => ?_
          have h5 := o1 m hm
          have h6 := (m2.lt m hm2).2
          simp at h5; omega
        have hk2 : Keeps H0 H2 := (hk1.push _).touch t2 fun m hm => (m2.lt m hm).1
        refine rall_loop K H0 Q hl hb hlen all err h hQ f _ H2 v1 v2 (xs ++ [(at_, (getSpec (bs.drop at_)).1)]) (by omega) (by omega) (by simp; omega) (by simpa using h3) h3e (by simpa using n1') (by simpa using n2) ?_ hk2
        intro m hm hm2
        have h5 := (n1.lt m hm).2
        have h6 := o2 m hm2
        simp at h6; omega
      · have he' : (((getSpec (bs.drop at_)).2.2 : Nat) : Int) ≠ 0 := by omega
        rw [itemsOf, if_neg he] at h3
        simp only [itemsOf, restOf, if_neg he] at h3e
        rw [if_neg (by simp; omega)] at h3e
        simp (disch := omega) only [std, ↓reduceIte, Nat.reduceEqDiff, Int.reduceToNat, Int.reducePow, Nat.reduceAdd, Nat.reduceLeDiff, Nat.reduceMul, Nat.reduceBEq, reduceCtorEq, he']
        have hall : all = xs := by simpa using h3
        rw [← hall] at m1 m2
        rw [← h3e]
        exact hQ H a1 a2 m1 m2 hk
    · simp (disch := omega) only [std, ↓reduceIte, Nat.reduceEqDiff, Int.reduceToNat, Int.reducePow, Nat.reduceAdd, Nat.reduceLeDiff, Nat.reduceMul, Nat.reduceBEq, reduceCtorEq, hlH.len]
      have hdr : bs.drop at_ = [] := List.drop_eq_nil_of_le (by omega)
      rw [hdr] at h3 h3e
      rw [itemsOf_nil] at h3
      have hs : getSpec [] = (0, 0, 4) := rfl
      have hr : restOf (f + 1) [] = [] := by simp [restOf, hs]
      rw [hr, if_pos rfl] at h3e
      have hall : all = xs := by simpa using h3
      rw [← hall] at m1 m2
      refine h _ H a1 a2 m1 m2 hk h3e ?_ ?_ <;> simp (disch := omega) only [std, ↓reduceIte, Nat.reduceEqDiff, Int.reduceToNat, Int.reducePow, Nat.reduceAdd, Nat.reduceLeDiff, Nat.reduceMul, Nat.reduceBEq, reduceCtorEq]

/-- The document's numbers, where they are, and the error. -/
theorem rall_ok (H : AHeap) {l : AVal} {bs : List Nat} (hl : Nats .u8 H l bs) (hb : ∀ b ∈ bs, b < 256) (hlen : bs.length ≤ 1000) (Q : AVal → AHeap → Prop)
    (h : ∀ H' a1 a2, Mine .i64 T.int H.length H' a1 ((itemsOf (bs.length + 1) 0 bs).1.map (·.1)) → Mine .u64 T.uint64 H.length H' a2 ((itemsOf (bs.length + 1) 0 bs).1.map (·.2)) → Keeps H H' →
      Q (.tup [a1, a2, .int .i64 ((if restOf (bs.length + 1) bs = [] then 0 else (itemsOf (bs.length + 1) 0 bs).2 : Nat) : Int)]) H') : FunOK Try.prog F.cuneiformref01_All [l] H Q := by
  refine fun_V 100 cuneiformref01_All_code rfl ?_
  simp (disch := omega) only [std, ↓reduceIte, Nat.reduceEqDiff, Int.reduceToNat, Int.reducePow, Nat.reduceAdd, Nat.reduceLeDiff, Nat.reduceMul, Nat.reduceBEq, reduceCtorEq, cuneiformref01_All, cuneiformref01_All.body]
  refine rall_loop _ H Q hl hb hlen (itemsOf (bs.length + 1) 0 bs).1 (if restOf (bs.length + 1) bs = [] then 0 else (itemsOf (bs.length + 1) 0 bs).2) ?_ h (bs.length + 1) 0 H .nils .nils [] (by omega) (by omega) (by simp) (by simp) (by simp) ⟨.inl ⟨rfl, rfl⟩⟩ ⟨.inl ⟨rfl, rfl⟩⟩ (by simp [AVal.names]) (Keeps.refl H)
  intro r' H' a1 a2 m1 m2 hk he e5 e6
  refine run_V 100 ?_
  simp (disch := omega) only [std, ↓reduceIte, Nat.reduceEqDiff, Int.reduceToNat, Int.reducePow, Nat.reduceAdd, Nat.reduceLeDiff, Nat.reduceMul, Nat.reduceBEq, reduceCtorEq, e5, e6]
  have := h H' a1 a2 m1 m2 hk
  rw [he] at this
  exact this

theorem mine_own {k : IntKind} {el : TypeId} {B : Nat} {H : AHeap} {a : AVal} {xs : List Nat} (h : Mine k el B H a xs) : Own 1 el B H a xs.length (xs.map fun n : Nat => AVal.int k (n : Int)) := by
  refine ⟨by simp, ?_⟩
  rcases h.is with ⟨rfl, rfl⟩ | ⟨m, hm, rfl, hb⟩
  · exact .inl ⟨rfl, rfl⟩
  · exact .inr ⟨m, hm, rfl, hb⟩

/-- Likewise, the lists never written to again. -/
theorem rall_ok' (H : AHeap) {l : AVal} {bs : List Nat} (hl : Nats .u8 H l bs) (hb : ∀ b ∈ bs, b < 256) (hlen : bs.length ≤ 1000) (Q : AVal → AHeap → Prop)
    (h : Q (.tup [nums .i64 false ((itemsOf (bs.length + 1) 0 bs).1.map (·.1)), nums .u64 false ((itemsOf (bs.length + 1) 0 bs).1.map (·.2)), .int .i64 ((if restOf (bs.length + 1) bs = [] then 0 else (itemsOf (bs.length + 1) 0 bs).2 : Nat) : Int)]) H) : FunOK Try.prog F.cuneiformref01_All [l] H Q := by
  refine fun_iced cuneiformref01_All_code fun _ => rall_ok H hl hb hlen _ ?_
  intro H' a1 a2 m1 m2 hk
  have o1 := mine_own m1
  have o2 := mine_own m2
  refine ice_tup [(a1, _), (a2, _), (.int .i64 _, .int .i64 _)] hk ?_ h
  intro p hp
  simp only [List.mem_cons, List.not_mem_nil, or_false] at hp
  rcases hp with rfl | rfl | rfl
  · exact Fin.own o1 (closeds_ints _ _)
  · exact Fin.own o2 (closeds_ints _ _)
  · exact Fin.same trivial
end Go.Proofs.Ytdlhdaimjimmkaa

namespace Go.Proofs.Ytdlhdaimjimmkaa
open Go Go.Am
set_option linter.unusedSimpArgs false
set_option linter.unusedVariables false

abbrev countC : Ctx := ⟨F.varint_Count, 36, [.tmp 2, .tmp 3], none⟩

/-- Where the j-th of the numbers begins. -/
def endAt (L : List (Nat × Nat)) (j : Nat) : Nat := if j = 0 then 0 else (L.getD (j - 1) (0, 0)).1 + sizeOf (L.getD (j - 1) (0, 0)).2

def countJ (L : List (Nat × Nat)) (c4 c5 : Nat) (j : Nat) (fp : List Nat) (H : AHeap) : Prop :=
  fp = [c4, c5] ∧ c4 < H.length ∧ c5 < H.length ∧ H[c4]? = some (.cells [.int .i64 j] T.int) ∧ H[c5]? = some (.cells [.int .i64 (endAt L j)] T.int)

theorem countJ_foot (L : List (Nat × Nat)) (c4 c5 j : Nat) : Foot (countJ L c4 c5 j) where
  lt := by
    rintro fp H ⟨rfl, h1, h2, _⟩ m hm
    simp at hm
    rcases hm with rfl | rfl <;> assumption
  stable := by
    rintro fp H H' ⟨rfl, h1, h2, h3, h4⟩ hle hk
    exact ⟨rfl, by omega, by omega, (hk c4 (by simp)).trans h3, (hk c5 (by simp)).trans h4⟩

theorem no_foot : Foot (fun (_ : List Nat) (_ : AHeap) => False) := ⟨fun _ _ h => h.elim, fun _ _ _ h => h.elim⟩

theorem items_end : ∀ (f at_ : Nat) (bs : List Nat), (∀ b ∈ bs, b < 256) → bs.length < f →
    (itemsOf f at_ bs).2 = (getSpec (restOf f bs)).2.2 ∧ ∃ e, e ≤ bs.length ∧ restOf f bs = bs.drop e ∧ ((itemsOf f at_ bs).1 = [] → e = 0) ∧ ∀ (h : (itemsOf f at_ bs).1 ≠ []), ((itemsOf f at_ bs).1.getLast h).1 + sizeOf ((itemsOf f at_ bs).1.getLast h).2 = at_ + e
  | 0, at_, bs, hb, h => by omega
  | f + 1, at_, bs, hb, h => by
    by_cases he : (getSpec bs).2.2 = 0
    · obtain ⟨f1, f2, f3⟩ := get_facts hb he
      have f4 := get_pos he
      obtain ⟨g1, e, g2, g3, g4, g5⟩ := items_end f (at_ + (getSpec bs).2.1) (bs.drop (getSpec bs).2.1) (fun b hb' => hb b (List.mem_of_mem_drop hb')) (by simp; omega)
      have hr : restOf (f + 1) bs = restOf f (bs.drop (getSpec bs).2.1) := by rw [restOf, if_pos he]
      have hi : itemsOf (f + 1) at_ bs = ((at_, (getSpec bs).1) :: (itemsOf f (at_ + (getSpec bs).2.1) (bs.drop (getSpec bs).2.1)).1, (itemsOf f (at_ + (getSpec bs).2.1) (bs.drop (getSpec bs).2.1)).2) := by rw [itemsOf, if_pos he]
      have hsz : sizeOf (getSpec bs).1 = (getSpec bs).2.1 := by
        have := congrArg List.length f3
        rw [putOne_length, List.length_take] at this; omega
      simp only [List.length_drop] at g2
      rw [hr, hi]
      refine ⟨g1, (getSpec bs).2.1 + e, by omega, by rw [g3, List.drop_drop], by simp, fun hne => ?_⟩
      by_cases hn : (itemsOf f (at_ + (getSpec bs).2.1) (bs.drop (getSpec bs).2.1)).1 = []
      · have := g4 hn
        simp only [hn, List.getLast_singleton, hsz]; omega
      · rw [List.getLast_cons hn, g5 hn]; omega
    · have hr : restOf (f + 1) bs = bs := by rw [restOf, if_neg he]
      have hi : itemsOf (f + 1) at_ bs = ([], (getSpec bs).2.2) := by rw [itemsOf, if_neg he]
      rw [hr, hi]
      exact ⟨rfl, 0, by omega, by simp, by simp, fun h => absurd rfl h⟩

theorem items_length : ∀ (f at_ : Nat) (bs : List Nat), (itemsOf f at_ bs).1.length ≤ f
  | 0, _, _ => by simp [itemsOf]
  | f + 1, at_, bs => by
    rw [itemsOf]
    split
    · have := items_length f (at_ + (getSpec bs).2.1) (bs.drop (getSpec bs).2.1)
      simp only [List.length_cons]; omega
    · simp

theorem items_lt : ∀ (f at_ : Nat) (bs : List Nat), (∀ b ∈ bs, b < 256) → ∀ x ∈ (itemsOf f at_ bs).1, x.2 < 18446744073709551616 ∧ x.1 ≤ at_ + bs.length
  | 0, at_, bs, hb, x, hx => by simp [itemsOf] at hx
  | f + 1, at_, bs, hb, x, hx => by
    by_cases he : (getSpec bs).2.2 = 0
    · obtain ⟨f1, f2, f3⟩ := get_facts hb he
      rw [itemsOf, if_pos he] at hx
      rcases List.mem_cons.1 hx with rfl | hx
      · exact ⟨f2, by simp⟩
      · have := items_lt f _ _ (fun b hb' => hb b (List.mem_of_mem_drop hb')) x hx
        simp only [List.length_drop] at this
        exact ⟨this.1, by omega⟩
    · rw [itemsOf, if_neg he] at hx; simp at hx

theorem endAt_len (L : List (Nat × Nat)) : (L = [] → endAt L L.length = 0) ∧ ∀ h : L ≠ [], endAt L L.length = (L.getLast h).1 + sizeOf (L.getLast h).2 := by
  refine ⟨fun h => by subst h; rfl, fun h => ?_⟩
  have hl : L.length ≠ 0 := by intro h'; exact h (List.length_eq_zero_iff.1 h')
  simp only [endAt, hl, if_false]
  rw [List.getD_eq_getElem?_getD, List.getElem?_eq_getElem (by omega), Option.getD_some, List.getLast_eq_getElem]

theorem count_ok (H : AHeap) (t : Bool) {bs : List Nat} (hb : ∀ b ∈ bs, b < 256) (hlen : bs.length ≤ 1000) (Q : AVal → AHeap → Prop)
    (h : Q (.tup [.int .i64 ((itemsOf (bs.length + 1) 0 bs).1.length : Nat), .int .i64 ((if restOf (bs.length + 1) bs = [] then 0 else (itemsOf (bs.length + 1) 0 bs).2 : Nat) : Int)]) H) : FunOK Try.prog F.varint_Count [nums .u8 t bs] H Q := by
  refine fun_iced varint_Count_code fun _ => ?_
  refine fun_V 40 varint_Count_code rfl ?_
  simp (disch := first | omega | (simp only [List.length_append, List.length_cons, List.length_nil, List.length_set, List.length_map, List.length_take, List.length_drop]; omega)) only [stdh, ↓reduceIte, Nat.reduceEqDiff, Int.reduceToNat, Int.reducePow, Nat.reduceAdd, Nat.reduceLeDiff, Nat.reduceMul, Nat.reduceBEq, reduceCtorEq, varint_Count, varint_Count.body]
  refine callK_fn (all_ok _ _ _ _ ?_)
  refine runL_V 30 ?_
  simp (disch := first | omega | (simp only [List.length_append, List.length_cons, List.length_nil, List.length_set, List.length_map, List.length_take, List.length_drop]; omega)) only [stdh, ↓reduceIte, Nat.reduceEqDiff, Int.reduceToNat, Int.reducePow, Nat.reduceAdd, Nat.reduceLeDiff, Nat.reduceMul, Nat.reduceBEq, reduceCtorEq]
  generalize hL : (itemsOf (bs.length + 1) 0 bs).1 = L at *
  have hk2 : Keeps H (H ++ [ABlk.cells [.int .i64 0] T.int, ABlk.cells [.int .i64 0] T.int]) := keeps_append _ _
  have h4 : (H ++ [ABlk.cells [.int .i64 0] T.int, ABlk.cells [.int .i64 0] T.int])[H.length]? = some (.cells [.int .i64 0] T.int) := at_0
  have h5 : (H ++ [ABlk.cells [.int .i64 0] T.int, ABlk.cells [.int .i64 0] T.int])[H.length + 1]? = some (.cells [.int .i64 0] T.int) := at_k
  have hlen2 : (H ++ [ABlk.cells [.int .i64 0] T.int, ABlk.cells [.int .i64 0] T.int]).length = H.length + 2 := by simp
  generalize H ++ [ABlk.cells [.int .i64 0] T.int, ABlk.cells [.int .i64 0] T.int] = H2 at *
  refine range_of (g := F.varint_All_1) (first := []) (captured := [cell (nums .u8 t bs)]) rfl (by intro n hn; cases hn) (item := itemArgs L) (len := L.length) (fun j => rfl) (countJ L H.length (H.length + 1)) (fun _ _ _ _ => False) (countJ_foot L _ _) (fun _ _ => no_foot)
    (fp0 := [H.length, H.length + 1]) ⟨rfl, by omega, by omega, h4, h5⟩ ?_ [] (by simp) ?_ ?_ (fun _ _ _ _ _ _ hh => hh.elim)
  · rintro a' b' j fp H1 hj hn hlt hrec ⟨rfl, q1, q2, q3, q4⟩
    refine run_V0 40 ?_
    have hne4 : H2.length ≠ H.length := by omega
    have hne5 : H2.length ≠ H.length + 1 := by omega
    simp (disch := first | omega | (simp only [List.length_append, List.length_cons, List.length_nil, List.length_set, List.length_map, List.length_take, List.length_drop]; omega)) only [stdh, ↓reduceIte, Nat.reduceEqDiff, Int.reduceToNat, Int.reducePow, Nat.reduceAdd, Nat.reduceLeDiff, Nat.reduceMul, Nat.reduceBEq, reduceCtorEq, varint_Count.a1, varint_Count.b1, varint_Count.d0, hrec, q3, q4, itemArgs, List.zip_cons_cons, List.zip_nil_left, List.reverse_cons, List.reverse_nil, hne4, hne5, List.getElem?_set_self, List.getElem?_set_ne]
    have hmem : L.getD j (0, 0) ∈ L := by
      rw [List.getD_eq_getElem?_getD, List.getElem?_eq_getElem hj]; exact List.getElem_mem hj
    have hit := items_lt (bs.length + 1) 0 bs hb (L.getD j (0, 0)) (by rw [hL]; exact hmem)
    have hs10 := sizeOf_le10 hit.1
    have hjl : L.length ≤ bs.length + 1 := by rw [← hL]; exact items_length _ _ _
    have hend : endAt L (j + 1) = (L.getD j (0, 0)).1 + sizeOf (L.getD j (0, 0)).2 := by simp [endAt]
    generalize L.getD j (0, 0) = x at *
    refine callD_fn (size_ok _ _ hit.1 _ ?_)
    refine ⟨?_, ?_⟩
    · simp (disch := first | omega | (simp only [List.length_append, List.length_cons, List.length_nil, List.length_set, List.length_map, List.length_take, List.length_drop]; omega)) only [stdh, ↓reduceIte, Nat.reduceEqDiff, Int.reduceToNat, Int.reducePow, Nat.reduceAdd, Nat.reduceLeDiff, Nat.reduceMul, Nat.reduceBEq, reduceCtorEq, q3, q4, List.getElem?_set_ne]
    refine runD_V 40 ?_
    simp (disch := first | omega | (simp only [List.length_append, List.length_cons, List.length_nil, List.length_set, List.length_map, List.length_take, List.length_drop]; omega)) only [stdh, ↓reduceIte, Nat.reduceEqDiff, Int.reduceToNat, Int.reducePow, Nat.reduceAdd, Nat.reduceLeDiff, Nat.reduceMul, Nat.reduceBEq, reduceCtorEq, q3, q4, List.getElem?_set_ne, List.getElem?_set_self]
    refine round_fin (n := H2.length) (L := lrec _ _ _ a' b' .busy none) rfl (by
      rw [List.getElem?_set_ne (by omega), List.getElem?_set_ne (by omega), List.getElem?_set_self (by omega)]; rfl) ?_
    refine ⟨[H.length, H.length + 1], ⟨by simp, fun m hm => .inl hm, fun m hm hf => ?_⟩, hn, .inl ⟨rfl, ?_, rfl, ?_, ?_, ?_, ?_⟩⟩
    · simp only [List.mem_cons, List.not_mem_nil, or_false, not_or] at hf
      rw [List.getElem?_set_ne (by omega), List.getElem?_set_ne (by omega), List.getElem?_set_ne (by omega), List.getElem?_set_ne (by omega)]
    · rw [List.getElem?_set_self (by simp; omega)]; rfl
    · simp; omega
    · simp; omega
    · rw [List.getElem?_set_ne (by omega), List.getElem?_set_ne (by omega), List.getElem?_set_self (by simp; omega)]; rfl
    · rw [List.getElem?_set_ne (by omega), List.getElem?_set_self (by simp; omega), hend]; rfl
  · intro H4 h1 h2
    have := all1_iter (H := H4) (n := H2.length) (t := t) hb (by omega)
    rw [hL] at this
    exact this
  · rintro fp H' hlt hkept ⟨rfl, q1, q2, q3, q4⟩
    have hkH : Keeps H H' := ⟨by omega, fun m hm => by rw [hkept m (by omega) (by simp; omega), hk2.at_ m hm]⟩
    obtain ⟨g1, e, g2, g3, g4, g5⟩ := items_end (bs.length + 1) 0 bs hb (by omega)
    rw [hL] at g4 g5
    have hend : endAt L L.length = e := by
      obtain ⟨k1, k2⟩ := endAt_len L
      by_cases hn : L = []
      · rw [k1 hn, g4 hn]
      · rw [k2 hn, g5 hn]; omega
    rw [hend] at q4
    refine run_V0 40 ?_
    by_cases hee : e = bs.length
    · have hre : restOf (bs.length + 1) bs = [] := by rw [g3]; exact List.drop_eq_nil_of_le (by omega)
      rw [if_pos hre] at h
      simp (disch := first | omega | (simp only [List.length_append, List.length_cons, List.length_nil, List.length_set, List.length_map, List.length_take, List.length_drop]; omega)) only [stdh, ↓reduceIte, Nat.reduceEqDiff, Int.reduceToNat, Int.reducePow, Nat.reduceAdd, Nat.reduceLeDiff, Nat.reduceMul, Nat.reduceBEq, reduceCtorEq, q3, q4, hee]
      exact ice_keeps hkH ⟨trivial, trivial, trivial⟩ h
    · have hre : restOf (bs.length + 1) bs ≠ [] := by
        rw [g3]; intro hc
        have := congrArg List.length hc
        simp at this; omega
      rw [if_neg hre, g1, g3] at h
      simp (disch := first | omega | (simp only [List.length_append, List.length_cons, List.length_nil, List.length_set, List.length_map, List.length_take, List.length_drop]; omega)) only [stdh, ↓reduceIte, Nat.reduceEqDiff, Int.reduceToNat, Int.reducePow, Nat.reduceAdd, Nat.reduceLeDiff, Nat.reduceMul, Nat.reduceBEq, reduceCtorEq, q3, q4, hee]
      refine callK_fn (get_ok _ (nums_nats _ _ _ _) (fun b hb' => hb b (List.mem_of_mem_drop hb')) (by simp; omega) _ ?_)
      refine runL_V 40 ?_
      simp (disch := first | omega | (simp only [List.length_append, List.length_cons, List.length_nil, List.length_set, List.length_map, List.length_take, List.length_drop]; omega)) only [stdh, ↓reduceIte, Nat.reduceEqDiff, Int.reduceToNat, Int.reducePow, Nat.reduceAdd, Nat.reduceLeDiff, Nat.reduceMul, Nat.reduceBEq, reduceCtorEq, got, q3]
      exact ice_keeps hkH ⟨trivial, trivial, trivial⟩ h
end Go.Proofs.Ytdlhdaimjimmkaa
