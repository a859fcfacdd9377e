/-
  Lemmas on the way to the statements of this seat. By an AI agent. No person has read it.
-/
import Derived.Test.YtgjldipoagkncaaCode
import Derived.Test.YtgjldipoagkncaaAm6
set_option linter.unusedSimpArgs false
set_option linter.unusedVariables false

namespace Go.Proofs.Ytgjldipoagkncaa
open Go Go.Am
def sizeOf (n : Nat) : Nat := if h : n < 128 then 1 else 1 + sizeOf (n / 128)
 termination_by n
theorem sizeOf_lt {n : Nat} (h : n < 128) : sizeOf n = 1 := by rw [sizeOf, dif_pos h]
theorem sizeOf_ge {n : Nat} (h : ¬ n < 128) : sizeOf n = 1 + sizeOf (n / 128) := by rw [sizeOf, dif_neg h]
theorem sizeOf_le : ∀ (k n : Nat), n < 128 ^ (k + 1) → sizeOf n ≤ k + 1
 | 0, n, h => by rw [sizeOf_lt (by simpa using h)]; omega
 | k + 1, n, h => by
  by_cases hn : n < 128
  ·rw [sizeOf_lt hn]; omega
  ·rw [sizeOf_ge hn]
   have := sizeOf_le k (n / 128) (by rw [Nat.pow_succ] at h; exact Nat.div_lt_of_lt_mul (by rw [Nat.mul_comm]; exact h))
   omega
theorem sizeOf_le10 {n : Nat} (h : n < 18446744073709551616) : sizeOf n ≤ 10 := sizeOf_le 9 n (by omega)
abbrev sameC : Ctx := ⟨F.cuneiformref01_Same, 26, [.tmp 4], none⟩
theorem same_loop (T : List AItem) (H : AHeap) (Q : AVal → AHeap → Prop) {a b : AVal} {xs ys : List Nat} (ha : Nats .u8 H a xs) (hb : Nats .u8 H b ys) (hl : xs.length = ys.length) (hm : xs.length < 9223372036854775808) :
  ∀ (m i : Nat), xs.length - i = m → i ≤ xs.length → (xs.drop i = ys.drop i → ∀ r', Run Try.prog sameC T r' H Q) → (xs.drop i ≠ ys.drop i → Q (.bool false) H) →
  Rounds Try.prog sameC cuneiformref01_Same.b1 [.inBlock 0] T [(0, a), (1, b), (5, .int .i64 i)] H Q
 | m, i, h1, h2, h3, h4 => by
  refine loop_V 200 cuneiformref01_Same.b1.eq_1 ?_
  by_cases hi : i < xs.length
  ·have hxi : xs.drop i = xs.getD i 0 :: xs.drop (i + 1) := by
    rw [List.drop_eq_getElem_cons hi]; simp [hi]
   have hyi : ys.drop i = ys.getD i 0 :: ys.drop (i + 1) := by
    rw [List.drop_eq_getElem_cons (by omega : i < ys.length)]; simp [show i < ys.length by omega]
   by_cases he : xs.getD i 0 = ys.getD i 0
   ·have he' : ((xs.getD i 0 : Nat) : Int) = ((ys.getD i 0 : Nat) : Int) := by rw [he]
    simp (disch := omega) only [std, stdx, ↓reduceIte, seval, ha.len, hb.len, ha.isSome, hb.isSome, cuneiformref01_Same.d0, ha.load, hb.load, he']
    refine same_loop T H Q ha hb hl hm (xs.length - (i + 1)) (i + 1) rfl (by omega) (fun h => h3 (by rw [hxi, hyi, he, h])) (fun h => h4 (by rw [hxi, hyi, he]; simpa using h))
   ·have he' : ((xs.getD i 0 : Nat) : Int) ≠ ((ys.getD i 0 : Nat) : Int) := by omega
    simp (disch := omega) only [std, stdx, ↓reduceIte, seval, ha.len, hb.len, ha.isSome, hb.isSome, cuneiformref01_Same.d0, ha.load, hb.load, he']
    exact h4 (by rw [hxi, hyi]; intro h; exact he (List.cons.inj h).1)
  ·simp (disch := omega) only [std, stdx, ↓reduceIte, seval, ha.len, hb.len]
   exact h3 (by rw [List.drop_eq_nil_of_le (by omega), List.drop_eq_nil_of_le (by omega)]) _
 termination_by m => m
theorem bsame_ok (H : AHeap) {a b : AVal} {xs ys : List Nat} (ha : Nats .u8 H a xs) (hb : Nats .u8 H b ys) (hm : xs.length < 9223372036854775808) (Q : AVal → AHeap → Prop) (h : Q (.bool (decide (xs = ys))) H) : FunOK Try.prog F.cuneiformref01_Same [a, b] H Q := by
 refine fun_V 100 cuneiformref01_Same_code rfl ?_
 by_cases hl : xs.length = ys.length
 ·simp (disch := omega) only [std, stdx, ↓reduceIte, seval, cuneiformref01_Same, cuneiformref01_Same.body, ha.len, hb.len, hl]
  refine same_loop _ H Q ha hb hl hm _ 0 rfl (by omega) ?_ ?_
  ·intro he r'
   refine run_V 100 ?_
   simp (disch := omega) only [std, stdx, ↓reduceIte, seval]
   simpa [show xs = ys by simpa using he] using h
  ·intro he
   simpa [show xs ≠ ys by simpa using he] using h
 ·simp (disch := omega) only [std, stdx, ↓reduceIte, seval, cuneiformref01_Same, cuneiformref01_Same.body, ha.len, hb.len]
  simpa [show xs ≠ ys by intro he; exact hl (by rw [he])] using h
def putOne (n : Nat) : List Nat := if h : n < 128 then [n] else (n % 128 + 128) :: putOne (n / 128)
 termination_by n
theorem putOne_lt {n : Nat} (h : n < 128) : putOne n = [n] := by rw [putOne, dif_pos h]
theorem putOne_ge {n : Nat} (h : ¬ n < 128) : putOne n = (n % 128 + 128) :: putOne (n / 128) := by rw [putOne, dif_neg h]
def putAll (l : List Nat) : List Nat := l.flatMap putOne
theorem putOne_length (n : Nat) : (putOne n).length = sizeOf n := by
 induction n using Nat.strongRecOn with
 | _ n ih =>
  by_cases h : n < 128
  ·rw [putOne_lt h, sizeOf_lt h]; rfl
  ·rw [putOne_ge h, sizeOf_ge h, List.length_cons, ih _ (by omega)]; omega
theorem putOne_byte (n : Nat) : ∀ b ∈ putOne n, b < 256 := by
 induction n using Nat.strongRecOn with
 | _ n ih =>
  by_cases h : n < 128
  ·rw [putOne_lt h]; intro b hb; simp at hb; omega
  ·rw [putOne_ge h]; intro b hb
   rcases List.mem_cons.1 hb with rfl | hb
   ·omega
   ·exact ih _ (by omega) b hb
theorem putAll_byte (l : List Nat) : ∀ b ∈ putAll l, b < 256 := by
 intro b hb
 obtain ⟨n, _, h⟩ := List.mem_flatMap.1 hb
 exact putOne_byte n b h
abbrev putC : Ctx := ⟨F.varint_Put, 29, [.tmp 2], none⟩
theorem or_byte (n : Nat) : Am.bits .or .u8 (IntKind.u8.wrap (n : Int)) 128 = ((n % 128 + 128 : Nat) : Int) := by
 have h := bits_or (k := .u8) rfl (a := n % 256) (b := 128) (by simp [IntKind.bits]; omega) (by simp [IntKind.bits])
 rw [or128 _ (by omega)] at h
 rw [wrap_u8', show (n : Int) % 256 = ((n % 256 : Nat) : Int) by omega]
 refine Eq.trans h ?_
 omega
theorem put_inner (K : List AItem) (H0 : AHeap) (Q : AVal → AHeap → Prop) (l len i : AVal) (n : Nat) : ∀ (H : AHeap) (a : AVal) (xs : List Nat), n < 18446744073709551616 → Mine .u8 T.uint8 H0.length H a xs → Keeps H0 H → xs.length + sizeOf n ≤ 1000000 →
  (∀ r' H' a' xs' (n' : Nat), n' < 128 → xs' ++ [n'] = xs ++ putOne n → Mine .u8 T.uint8 H0.length H' a' xs' → Keeps H0 H' → rget r' 3 = a' → rget r' 5 = .int .u64 n' → rget r' 6 = l → rget r' 7 = len → rget r' 8 = i → Run Try.prog putC K r' H' Q) →
  Rounds Try.prog putC varint_Put.b0 [.inBlock 2] K [(3, a), (5, .int .u64 n), (6, l), (7, len), (8, i)] H Q := by
 induction n using Nat.strongRecOn with
 | _ n ih =>
 intro H a xs h1 hm hk hs h
 refine loop_V 200 varint_Put.b0.eq_1 ?_
 by_cases hn : n < 128
 ·simp (disch := omega) only [std, stdx, ↓reduceIte, seval]
  refine h _ H a xs n hn (by rw [putOne_lt hn]) hm hk ?_ ?_ ?_ ?_ ?_ <;> simp (disch := omega) only [std, stdx, ↓reduceIte, seval]
 ·have hs' := sizeOf_ge hn
  simp (disch := omega) only [std, stdx, ↓reduceIte, seval, or_byte]
  obtain ⟨v, H', p, e1, hp, hm', hk'⟩ := Mine.append (H := H ++ [_]) (hm.keep ((Keeps.refl H).push _)) (nats_one (k := .u8) (H := H) (el := T.uint8) (n := n % 128 + 128)) (bytes := 1) (hk.push _) rfl (by simp; omega) (by simp; omega) (by simp)
  simp (disch := omega) only [std, stdx, ↓reduceIte, seval, e1, hp]
  have e : (n : Int) / 128 = ((n / 128 : Nat) : Int) := by omega
  rw [e]
  refine ih (n / 128) (by omega) H' v _ (by omega) hm' hk' (by simp; omega) ?_
  intro r' H'' a' xs' n' g1 g2
  refine h r' H'' a' xs' n' g1 ?_
  rw [g2, putOne_ge hn]; simp
theorem put_loop (H0 : AHeap) (K : List AItem) (Q : AVal → AHeap → Prop) {l : AVal} {ns : List Nat} (hl : Nats .u64 H0 l ns) (hb : ∀ n ∈ ns, n < 18446744073709551616) (hlen : ns.length ≤ 1000) :
  ∀ (m i : Nat) (H : AHeap) (a : AVal) (xs : List Nat), ns.length - i = m → i ≤ ns.length → Mine .u8 T.uint8 H0.length H a xs → Keeps H0 H → xs.length ≤ 10 * i →
  (∀ r' H' a', Mine .u8 T.uint8 H0.length H' a' (xs ++ putAll (ns.drop i)) → Keeps H0 H' → rget r' 3 = a' → Run Try.prog putC K r' H' Q) →
  Rounds Try.prog putC varint_Put.b1 [.inBlock 0] K [(3, a), (6, l), (7, .int .i64 ns.length), (8, .int .i64 i)] H Q
 | m, i, H, a, xs, h1, h2, hm, hk, hx, h => by
  refine loop_V 200 varint_Put.b1.eq_1 ?_
  by_cases hi : i < ns.length
  ·have hx' := hl.keep hk
   have hni : ns.getD i 0 < 18446744073709551616 := by
    rw [List.getD_eq_getElem?_getD]; simp [hi]; exact hb _ (List.getElem_mem hi)
   have hdi : ns.drop i = ns.getD i 0 :: ns.drop (i + 1) := by
    rw [List.drop_eq_getElem_cons hi]; simp [hi]
   have hsz := sizeOf_le10 hni
   simp (disch := omega) only [std, stdx, ↓reduceIte, seval, hx'.len, hx'.isSome, hx'.load]
   refine put_inner _ H0 Q _ _ _ _ H a xs hni hm hk (by omega) ?_
   intro r' H' a' xs' n' g1 g2 g3 g4 e1 e2 e3 e4 e5
   refine run_V 100 ?_
   have hu : IntKind.u8.wrap (n' : Int) = (n' : Int) := by rw [wrap_u8']; omega
   have hlx : xs'.length + 1 = xs.length + sizeOf (ns.getD i 0) := by
    have := congrArg List.length g2
    simpa [putOne_length] using this
   simp (disch := omega) only [std, stdx, ↓reduceIte, seval, e1, e2, e3, e4, e5, hu]
   obtain ⟨v, H'', p, q1, hp, hm', hk'⟩ := Mine.append (H := H' ++ [_]) (g3.keep ((Keeps.refl H').push _)) (nats_one (k := .u8) (H := H') (el := T.uint8) (n := n')) (bytes := 1) (g4.push _) rfl (by simp; omega) (by simp; omega) (by simp)
   simp (disch := omega) only [std, stdx, ↓reduceIte, seval, q1, hp, e3, e4, e5]
   refine put_loop H0 K Q hl hb hlen (ns.length - (i + 1)) (i + 1) H'' v _ rfl (by omega) hm' hk' (by simp; omega) ?_
   intro r'' H3 a3 w1
   refine h r'' H3 a3 ?_
   rw [hdi]
   rw [g2] at w1
   simpa [putAll] using w1
  ·simp (disch := omega) only [std, stdx, ↓reduceIte, seval]
   refine h _ H a ?_ hk ?_
   ·rw [List.drop_eq_nil_of_le (by omega)]; simpa [putAll] using hm
   ·simp (disch := omega) only [std, stdx, ↓reduceIte, seval]
 termination_by m => m
theorem put_ok (H : AHeap) {l : AVal} {ns : List Nat} (hl : Nats .u64 H l ns) (hb : ∀ n ∈ ns, n < 18446744073709551616) (hlen : ns.length ≤ 1000) (Q : AVal → AHeap → Prop)
  (h : ∀ a H', Mine .u8 T.uint8 H.length H' a (putAll ns) → Keeps H H' → Q a H') : FunOK Try.prog F.varint_Put [l] H Q := by
 refine fun_V 100 varint_Put_code rfl ?_
 simp (disch := omega) only [std, stdx, ↓reduceIte, seval, varint_Put, varint_Put.body, hl.len]
 refine put_loop H _ Q hl hb hlen _ 0 H .nils [] rfl (by omega) ⟨.inl ⟨rfl, rfl⟩⟩ (Keeps.refl H) (by simp) ?_
 intro r' H' a' g1 g2 g3
 refine run_V 100 ?_
 simp (disch := omega) only [std, stdx, ↓reduceIte, seval, g3]
 exact h a' H' (by simpa using g1) g2
def getFrom : Nat → Nat → Nat → List Nat → Nat × Nat × Nat
 | 0, _, _, _ => (0, 0, 3)
 | _ + 1, _, _, [] => (0, 0, 4)
 | f + 1, i, n, b :: rest =>
  if 128 ≤ b then getFrom f (i + 1) (n + (b % 128 % 2 ^ (64 - 7 * i)) * 2 ^ (7 * i)) rest
  else if (0 < i ∧ b % 128 = 0) ∨ b % 128 % 2 ^ (64 - 7 * i) ≠ b % 128 then (0, 0, 3)
  else (n + (b % 128 % 2 ^ (64 - 7 * i)) * 2 ^ (7 * i), i + 1, 0)
def getSpec (bs : List Nat) : Nat × Nat × Nat := getFrom 10 0 0 bs
def got (r : Nat × Nat × Nat) : AVal := .tup [.int .u64 r.1, .int .i64 r.2.1, .int .i64 r.2.2]
abbrev getC : Ctx := ⟨F.varint_Get, 53, [.tmp 2, .tmp 3, .tmp 4], none⟩
theorem shl_part {p i : Nat} (hi : i ≤ 9) : IntKind.u64.wrap ((p : Int) * 2 ^ (7 * i)) = ((p % 2 ^ (64 - 7 * i) * 2 ^ (7 * i) : Nat) : Int) := by
 rw [wrap_u64', show (p : Int) * 2 ^ (7 * i) = ((p * 2 ^ (7 * i) : Nat) : Int) by push_cast; rfl, show (18446744073709551616 : Int) = ((2 ^ (64 - 7 * i) * 2 ^ (7 * i) : Nat) : Int) by
  rw [← Nat.pow_add, show 64 - 7 * i + 7 * i = 64 by omega]; rfl]
 rw [← Int.natCast_emod, Nat.mul_mod_mul_right]
theorem part_lt (p i : Nat) (hi : i ≤ 9) : p % 2 ^ (64 - 7 * i) * 2 ^ (7 * i) + 2 ^ (7 * i) ≤ 2 ^ 64 := by
 have h1 : p % 2 ^ (64 - 7 * i) < 2 ^ (64 - 7 * i) := Nat.mod_lt _ (Nat.two_pow_pos _)
 have h2 : 2 ^ 64 = 2 ^ (64 - 7 * i) * 2 ^ (7 * i) := by rw [← Nat.pow_add, show 64 - 7 * i + 7 * i = 64 by omega]
 rw [h2, ← Nat.succ_mul]
 exact Nat.mul_le_mul_right _ h1
theorem get_loop (K : List AItem) (H : AHeap) (Q : AVal → AHeap → Prop) {l : AVal} {bs : List Nat} (hl : Nats .u8 H l bs) (hb : ∀ b ∈ bs, b < 256) (hlen : bs.length < 9223372036854775808)
  (h : ∀ r', getSpec bs = (0, 0, 3) → Run Try.prog getC K r' H Q) (hQ : getSpec bs ≠ (0, 0, 3) → Q (got (getSpec bs)) H) :
  ∀ (m i n : Nat), 10 - i = m → i ≤ 10 → n < 2 ^ (7 * i) → getSpec bs = getFrom (10 - i) i n (bs.drop i) →
  Rounds Try.prog getC varint_Get.b0 [.inBlock 0] K [(0, l), (5, .int .u64 n), (8, .int .i64 i)] H Q
 | m, i, n, h1, h2, h3, h4 => by
  refine loop_V 24 varint_Get.b0.eq_1 ?_
  by_cases hi : i < 10
  ·rw [show 10 - i = (10 - (i + 1)) + 1 by omega] at h4
   by_cases hil : i < bs.length
   ·have hdi : bs.drop i = bs.getD i 0 :: bs.drop (i + 1) := by
     rw [List.drop_eq_getElem_cons hil]; simp [hil]
    have hbi : bs.getD i 0 < 256 := by
     rw [List.getD_eq_getElem?_getD]; simp [hil]; exact hb _ (List.getElem_mem hil)
    generalize hbe : bs.getD i 0 = b at *
    rw [hdi, getFrom] at h4
    have hp : ((b : Nat) : Int).tmod 128 = ((b % 128 : Nat) : Int) := by rw [Int.tmod_eq_emod_of_nonneg (by omega)]; omega
    have hc : IntKind.u64.wrap ((b % 128 : Nat) : Int) = ((b % 128 : Nat) : Int) := wrap_u64 (by omega)
    have hs : min ((7 : Int) * (i : Int)).toNat 64 = 7 * i := by omega
    have hsh := shl_part (p := b % 128) (i := i) (by omega)
    have hpl := part_lt (b % 128) i (by omega)
    generalize hq : b % 128 % 2 ^ (64 - 7 * i) = q at *
    have hor : Am.bits .or .u64 (n : Int) ((q * 2 ^ (7 * i) : Nat) : Int) = ((n + q * 2 ^ (7 * i) : Nat) : Int) := by
     have hlt : 2 ^ (7 * i) ≤ 2 ^ 64 := Nat.pow_le_pow_right (by omega) (by omega)
     rw [bits_or rfl (by simp only [IntKind.bits]; omega) (by simp only [IntKind.bits]; have := Nat.two_pow_pos (7 * i); omega), or_shift h3]
    have hdv : ((q * 2 ^ (7 * i) : Nat) : Int) / 2 ^ (7 * i) = (q : Int) := by
     have : ((2 : Int) ^ (7 * i)) = ((2 ^ (7 * i) : Nat) : Int) := by simp
     rw [this, ← Int.natCast_ediv, Nat.mul_div_cancel _ (Nat.two_pow_pos _)]
    by_cases h128 : 128 ≤ b
    ·rw [if_pos h128] at h4
     (simp (disch := omega) only [std, stdx, ↓reduceIte, seval, hl.len, hl.isSome, hl.load, hbe, hp, hc, hs, hsh, hor]; repeat (first | (refine runL_V 20 ?_; simp (disch := omega) only [std, stdx, ↓reduceIte, seval, hl.len, hl.isSome, hl.load, hbe, hp, hc, hs, hsh, hor]) | (refine run_V 20 ?_; simp (disch := omega) only [std, stdx, ↓reduceIte, seval, hl.len, hl.isSome, hl.load, hbe, hp, hc, hs, hsh, hor]) | (refine runD_V 20 ?_; simp (disch := omega) only [std, stdx, ↓reduceIte, seval, hl.len, hl.isSome, hl.load, hbe, hp, hc, hs, hsh, hor])))
     refine get_loop K H Q hl hb hlen h hQ _ (i + 1) _ rfl (by omega) ?_ h4
     have hq' : q ≤ 127 := by rw [← hq]; exact Nat.le_trans (Nat.mod_le _ _) (by omega)
     have := Nat.mul_le_mul_right (2 ^ (7 * i)) hq'
     rw [show 7 * (i + 1) = 7 * i + 7 by omega, Nat.pow_add]
     omega
    ·rw [if_neg h128] at h4
     by_cases hz : 0 < i ∧ b % 128 = 0
     ·rw [if_pos (Or.inl hz)] at h4
      (simp (disch := omega) only [std, stdx, ↓reduceIte, seval, hl.len, hl.isSome, hl.load, hbe, hp, hc, hs, hsh, hor, hdv, hz.2]; repeat (first | (refine runL_V 20 ?_; simp (disch := omega) only [std, stdx, ↓reduceIte, seval, hl.len, hl.isSome, hl.load, hbe, hp, hc, hs, hsh, hor, hdv, hz.2]) | (refine run_V 20 ?_; simp (disch := omega) only [std, stdx, ↓reduceIte, seval, hl.len, hl.isSome, hl.load, hbe, hp, hc, hs, hsh, hor, hdv, hz.2]) | (refine runD_V 20 ?_; simp (disch := omega) only [std, stdx, ↓reduceIte, seval, hl.len, hl.isSome, hl.load, hbe, hp, hc, hs, hsh, hor, hdv, hz.2])))
      exact h _ h4
     ·have hq3 : q = b % 128 → Q (got (n + q * 2 ^ (7 * i), i + 1, 0)) H := by
       intro hq2
       rw [if_neg (by omega)] at h4
       rw [h4] at hQ
       exact hQ (by simp)
      have hq4 : q ≠ b % 128 → getSpec bs = (0, 0, 3) := by
       intro hq2
       rw [if_pos (Or.inr hq2)] at h4
       exact h4
      by_cases hi0 : 0 < i
      ·have hz0 : ((b % 128 : Nat) : Int) ≠ 0 := by omega
       by_cases hq2 : q = b % 128
       ·have hqq : (q : Int) = ((b % 128 : Nat) : Int) := by rw [hq2]
        (simp (disch := omega) only [std, stdx, ↓reduceIte, seval, hl.len, hl.isSome, hl.load, hbe, hp, hc, hs, hsh, hor, hdv, hz0, hqq]; repeat (first | (refine runL_V 20 ?_; simp (disch := omega) only [std, stdx, ↓reduceIte, seval, hl.len, hl.isSome, hl.load, hbe, hp, hc, hs, hsh, hor, hdv, hz0, hqq]) | (refine run_V 20 ?_; simp (disch := omega) only [std, stdx, ↓reduceIte, seval, hl.len, hl.isSome, hl.load, hbe, hp, hc, hs, hsh, hor, hdv, hz0, hqq]) | (refine runD_V 20 ?_; simp (disch := omega) only [std, stdx, ↓reduceIte, seval, hl.len, hl.isSome, hl.load, hbe, hp, hc, hs, hsh, hor, hdv, hz0, hqq])))
        exact hq3 hq2
       ·have hqq : (q : Int) ≠ ((b % 128 : Nat) : Int) := by omega
        (simp (disch := omega) only [std, stdx, ↓reduceIte, seval, hl.len, hl.isSome, hl.load, hbe, hp, hc, hs, hsh, hor, hdv, hz0, hqq]; repeat (first | (refine runL_V 20 ?_; simp (disch := omega) only [std, stdx, ↓reduceIte, seval, hl.len, hl.isSome, hl.load, hbe, hp, hc, hs, hsh, hor, hdv, hz0, hqq]) | (refine run_V 20 ?_; simp (disch := omega) only [std, stdx, ↓reduceIte, seval, hl.len, hl.isSome, hl.load, hbe, hp, hc, hs, hsh, hor, hdv, hz0, hqq]) | (refine runD_V 20 ?_; simp (disch := omega) only [std, stdx, ↓reduceIte, seval, hl.len, hl.isSome, hl.load, hbe, hp, hc, hs, hsh, hor, hdv, hz0, hqq])))
        exact h _ (hq4 hq2)
      ·by_cases hq2 : q = b % 128
       ·have hqq : (q : Int) = ((b % 128 : Nat) : Int) := by rw [hq2]
        (simp (disch := omega) only [std, stdx, ↓reduceIte, seval, hl.len, hl.isSome, hl.load, hbe, hp, hc, hs, hsh, hor, hdv, hqq]; repeat (first | (refine runL_V 20 ?_; simp (disch := omega) only [std, stdx, ↓reduceIte, seval, hl.len, hl.isSome, hl.load, hbe, hp, hc, hs, hsh, hor, hdv, hqq]) | (refine run_V 20 ?_; simp (disch := omega) only [std, stdx, ↓reduceIte, seval, hl.len, hl.isSome, hl.load, hbe, hp, hc, hs, hsh, hor, hdv, hqq]) | (refine runD_V 20 ?_; simp (disch := omega) only [std, stdx, ↓reduceIte, seval, hl.len, hl.isSome, hl.load, hbe, hp, hc, hs, hsh, hor, hdv, hqq])))
        exact hq3 hq2
       ·have hqq : (q : Int) ≠ ((b % 128 : Nat) : Int) := by omega
        (simp (disch := omega) only [std, stdx, ↓reduceIte, seval, hl.len, hl.isSome, hl.load, hbe, hp, hc, hs, hsh, hor, hdv, hqq]; repeat (first | (refine runL_V 20 ?_; simp (disch := omega) only [std, stdx, ↓reduceIte, seval, hl.len, hl.isSome, hl.load, hbe, hp, hc, hs, hsh, hor, hdv, hqq]) | (refine run_V 20 ?_; simp (disch := omega) only [std, stdx, ↓reduceIte, seval, hl.len, hl.isSome, hl.load, hbe, hp, hc, hs, hsh, hor, hdv, hqq]) | (refine runD_V 20 ?_; simp (disch := omega) only [std, stdx, ↓reduceIte, seval, hl.len, hl.isSome, hl.load, hbe, hp, hc, hs, hsh, hor, hdv, hqq])))
        exact h _ (hq4 hq2)
   ·(simp (disch := omega) only [std, stdx, ↓reduceIte, seval, hl.len]; repeat (first | (refine runL_V 20 ?_; simp (disch := omega) only [std, stdx, ↓reduceIte, seval, hl.len]) | (refine run_V 20 ?_; simp (disch := omega) only [std, stdx, ↓reduceIte, seval, hl.len]) | (refine runD_V 20 ?_; simp (disch := omega) only [std, stdx, ↓reduceIte, seval, hl.len])))
    rw [List.drop_eq_nil_of_le (by omega), getFrom] at h4
    rw [h4] at hQ
    exact hQ (by simp)
  ·(simp (disch := omega) only [std, stdx, ↓reduceIte, seval]; repeat (first | (refine runL_V 20 ?_; simp (disch := omega) only [std, stdx, ↓reduceIte, seval]) | (refine run_V 20 ?_; simp (disch := omega) only [std, stdx, ↓reduceIte, seval]) | (refine runD_V 20 ?_; simp (disch := omega) only [std, stdx, ↓reduceIte, seval])))
   refine h _ ?_
   rw [h4, show 10 - i = 0 by omega]; rfl
 termination_by m => m
theorem get_ok (H : AHeap) {l : AVal} {bs : List Nat} (hl : Nats .u8 H l bs) (hb : ∀ b ∈ bs, b < 256) (hlen : bs.length < 9223372036854775808) (Q : AVal → AHeap → Prop) (hQ : Q (got (getSpec bs)) H) : FunOK Try.prog F.varint_Get [l] H Q := by
 refine fun_V 100 varint_Get_code rfl ?_
 simp (disch := omega) only [std, stdx, ↓reduceIte, seval, varint_Get, varint_Get.body]
 refine get_loop _ H Q hl hb hlen ?_ (fun _ => hQ) _ 0 0 rfl (by omega) (by simp) rfl
 intro r' he
 refine run_V 100 ?_
 simp (disch := omega) only [std, stdx, ↓reduceIte, seval]
 rw [he] at hQ
 exact hQ
def u8s (xs : List Nat) : List AVal := xs.map fun n : Nat => AVal.int .u8 (n : Int)
theorem u8s_len (xs : List Nat) : (u8s xs).length = xs.length := by simp [u8s]
theorem u8s_cellish (xs : List Nat) : (u8s xs).all AVal.cellish = true := by simp [u8s, AVal.cellish]
def lensB (ys : List Nat) (at_ err : Nat) : ABlk := .cells [nums .u8 false ys, .int .i64 (at_ : Nat), .int .i64 (err : Nat)] T.lens_Lens
theorem lensB_closed {L : Nat} (ys : List Nat) (a e : Nat) : closedB L (lensB ys a e) := by simp [lensB, closedB, closeds, closed, closed_nums]
theorem left_ok (H : AHeap) {p : Nat} {ys : List Nat} {a e : Nat} (hp : H[p]? = some (lensB ys a e)) (ha : a ≤ ys.length) (hlen : ys.length ≤ 1000000) (Q : AVal → AHeap → Prop) (h : Q (nums .u8 true (ys.drop a)) H) : FunOK Try.prog F.lens_Lens_left [.ptr p 0] H Q := by
 refine fun_V 60 lens_Lens_left_code rfl ?_
 have hx : (ys.drop a).take (ys.length - a) = ys.drop a := List.take_of_length_le (by simp)
 rw [lensB] at hp
 simp (disch := first | omega | (simp only [lnx]; omega)) only [stdh, stdx, ↓reduceIte, seval, lens_Lens_left, lens_Lens_left.body, lens_Lens_left.d0, hp, hx, h]
theorem read_ok (H : AHeap) {p : Nat} {ys : List Nat} {a e : Nat} (hp : H[p]? = some (lensB ys a e)) (ha : a ≤ ys.length) (hlen : ys.length ≤ 1000000) {g : FuncId} {cap : List AVal} (Q : AVal → AHeap → Prop)
  (h0 : e ≠ 0 → Q (.bool false) H)
  (h1 : e = 0 → FunOK Try.prog g (nums .u8 true (ys.drop a) :: cap) H fun av H' => ∃ n e' : Nat, av = .tup [.int .i64 (n : Nat), .int .i64 (e' : Nat)] ∧ H'[p]? = H[p]? ∧ n ≤ 1000000 ∧
   (e' ≠ 0 → Q (.bool false) (H'.set p (lensB ys a e'))) ∧ (e' = 0 → Q (.bool true) (H'.set p (lensB ys (a + n) 0)))) :
  FunOK Try.prog F.lens_Lens_read [.ptr p 0, .fn g [] cap] H Q := by
 refine fun_V 100 lens_Lens_read_code rfl ?_
 have hpl : p < H.length := (List.getElem?_eq_some_iff.1 hp).1
 have hp' := hp
 rw [lensB] at hp'
 by_cases he : e = 0
 ·subst he
  simp (disch := first | omega | (simp only [lnx]; omega)) only [stdh, stdx, ↓reduceIte, seval, lens_Lens_read, lens_Lens_read.body, hp', eqA]
  refine callK_fn (left_ok _ hp ha hlen _ ?_)
  refine runL_V 60 ?_
  simp (disch := first | omega | (simp only [lnx]; omega)) only [stdh, stdx, ↓reduceIte, seval]
  refine callK_clo ((h1 rfl).mono fun av H' hh => ?_)
  obtain ⟨n, e', rfl, hk, hn, q1, q2⟩ := hh
  rw [hp'] at hk
  have hl' : p < H'.length := (List.getElem?_eq_some_iff.1 hk).1
  refine runL_V 60 ?_
  by_cases he' : e' = 0
  ·subst he'
   have := q2 rfl
   have e1 : ((a : Int) + (n : Int)) = ((a + n : Nat) : Int) := by omega
   simp (disch := first | omega | (simp only [lnx]; omega)) only [stdh, stdx, ↓reduceIte, seval, hk, e1]
   exact this
  ·have := q1 he'
   simp (disch := first | omega | (simp only [lnx]; omega)) only [stdh, stdx, ↓reduceIte, seval, hk]
   exact this
 ·have := h0 he
  simp (disch := first | omega | (simp only [lnx]; omega)) only [stdh, stdx, ↓reduceIte, seval, lens_Lens_read, lens_Lens_read.body, hp', eqA]
  exact this
theorem err_ok (H : AHeap) {p : Nat} {ys : List Nat} {a e : Nat} (hp : H[p]? = some (lensB ys a e)) (Q : AVal → AHeap → Prop) (h : Q (.int .i64 (e : Nat)) H) : FunOK Try.prog F.lens_Lens_Err [.ptr p 0] H Q := by
 refine fun_V 60 lens_Lens_Err_code rfl ?_
 rw [lensB] at hp
 simp (disch := first | omega | (simp only [lnx]; omega)) only [stdh, stdx, ↓reduceIte, seval, lens_Lens_Err, lens_Lens_Err.body, hp, eqA]
 exact h
theorem leftn_ok (H : AHeap) {p : Nat} {ys : List Nat} {a e : Nat} (hp : H[p]? = some (lensB ys a e)) (ha : a ≤ ys.length) (hlen : ys.length ≤ 1000000) (Q : AVal → AHeap → Prop) (h : Q (.int .i64 (ys.length - a : Nat)) H) : FunOK Try.prog F.lens_Lens_Left [.ptr p 0] H Q := by
 refine fun_V 60 lens_Lens_Left_code rfl ?_
 simp (disch := first | omega | (simp only [lnx]; omega)) only [stdh, stdx, ↓reduceIte, seval, lens_Lens_Left, lens_Lens_Left.body, eqA]
 refine callK_fn (left_ok _ hp ha hlen _ ?_)
 refine runL_V 60 ?_
 simp (disch := first | omega | (simp only [lnx]; omega)) only [stdh, stdx, ↓reduceIte, seval]
 rw [List.length_drop]
 exact h
theorem end_ok (H : AHeap) {p : Nat} {ys : List Nat} {a e : Nat} (hp : H[p]? = some (lensB ys a e)) (ha : a ≤ ys.length) (hlen : ys.length ≤ 1000000) (Q : AVal → AHeap → Prop) (h : Q (.int .i64 ((if e = 0 ∧ a < ys.length then 3 else e : Nat) : Int)) H) : FunOK Try.prog F.lens_Lens_End [.ptr p 0] H Q := by
 refine fun_V 60 lens_Lens_End_code rfl ?_
 simp (disch := first | omega | (simp only [lnx]; omega)) only [stdh, stdx, ↓reduceIte, seval, lens_Lens_End, lens_Lens_End.body]
 refine callK_fn (err_ok _ hp _ ?_)
 refine runL_V 60 ?_
 by_cases he : e = 0
 ·subst he
  simp (disch := first | omega | (simp only [lnx]; omega)) only [stdh, stdx, ↓reduceIte, seval]
  refine callK_fn (leftn_ok _ hp ha hlen _ ?_)
  refine runL_V 60 ?_
  by_cases hl : a < ys.length
  ·rw [if_pos ⟨rfl, hl⟩] at h
   simp (disch := first | omega | (simp only [lnx]; omega)) only [stdh, stdx, ↓reduceIte, seval]
   exact h
  ·rw [if_neg (by omega)] at h
   simp (disch := first | omega | (simp only [lnx]; omega)) only [stdh, stdx, ↓reduceIte, seval]
   exact h
 ·rw [if_neg (by omega)] at h
  simp (disch := first | omega | (simp only [lnx]; omega)) only [stdh, stdx, ↓reduceIte, seval]
  exact h
theorem getFrom_facts : ∀ (f i n : Nat) (bs : List Nat), i + f = 10 → n < 2 ^ (7 * i) → (getFrom f i n bs).2.2 = 0 → i < (getFrom f i n bs).2.1 ∧ (getFrom f i n bs).2.1 ≤ i + bs.length ∧ (getFrom f i n bs).1 < 18446744073709551616
 | 0, i, n, bs, h1, h2, h => by simp [getFrom] at h
 | f + 1, i, n, [], h1, h2, h => by simp [getFrom] at h
 | f + 1, i, n, b :: rest, h1, h2, h => by
  have hpl := part_lt (b % 128) i (by omega)
  have hq7 : b % 128 % 2 ^ (64 - 7 * i) ≤ 127 := Nat.le_trans (Nat.mod_le _ _) (by omega)
  generalize hq : b % 128 % 2 ^ (64 - 7 * i) = q at *
  rw [getFrom] at h ⊢
  rw [hq] at h ⊢
  by_cases h1' : 128 ≤ b
  ·rw [if_pos h1'] at h ⊢
   have := getFrom_facts f (i + 1) (n + q * 2 ^ (7 * i)) rest (by omega) (by
    have := Nat.mul_le_mul_right (2 ^ (7 * i)) hq7
    rw [show 7 * (i + 1) = 7 * i + 7 by omega, Nat.pow_add]
    omega) h
   simp only [List.length_cons]
   omega
  ·rw [if_neg h1'] at h ⊢
   by_cases h2' : (0 < i ∧ b % 128 = 0) ∨ q ≠ b % 128
   ·rw [if_pos h2'] at h; simp at h
   ·rw [if_neg h2']
    simp only [List.length_cons]
    refine ⟨by omega, by omega, ?_⟩
    have : (2 : Nat) ^ 64 = 18446744073709551616 := by decide
    omega
theorem getSpec_facts {bs : List Nat} (h : (getSpec bs).2.2 = 0) : 0 < (getSpec bs).2.1 ∧ (getSpec bs).2.1 ≤ bs.length ∧ (getSpec bs).1 < 18446744073709551616 := by
 have := getFrom_facts 10 0 0 bs rfl (by simp) h
 simpa [getSpec] using this
def fieldSpec (most : Int) (zs : List Nat) : Nat × List Nat × Nat :=
 if (getSpec zs).2.2 ≠ 0 then (0, [], (getSpec zs).2.2)
 else if most.toNat < (getSpec zs).1 then (0, [], 6)
 else if zs.length - (getSpec zs).2.1 < (getSpec zs).1 then (0, [], 4)
 else ((getSpec zs).2.1 + (getSpec zs).1, (zs.drop (getSpec zs).2.1).take (getSpec zs).1, 0)
theorem field1_ok (H : AHeap) {t : Bool} {zs : List Nat} (hb : ∀ b ∈ zs, b < 256) (hlen : zs.length ≤ 1000000) {q1 q2 : Nat} {most : Int} (hmost : -9223372036854775808 ≤ most ∧ most < 9223372036854775808) (h1 : H[q1]? = some (.cells [.int .i64 most] T.int)) (h2 : H[q2]? = some (.cells [.nils] T.sl_uint8)) (Q : AVal → AHeap → Prop)
  (he : (fieldSpec most zs).2.2 ≠ 0 → Q (.tup [.int .i64 0, .int .i64 ((fieldSpec most zs).2.2 : Nat)]) H)
  (hq : (fieldSpec most zs).2.2 = 0 → Q (.tup [.int .i64 ((fieldSpec most zs).1 : Nat), .int .i64 0]) ((H ++ [ABlk.vec (u8s (fieldSpec most zs).2.1) T.uint8 1]).set q2 (.cells [.slc H.length 0 (fieldSpec most zs).2.1.length 1] T.sl_uint8))) :
  FunOK Try.prog F.lens_Lens_Field_1 [nums .u8 t zs, .ptr q1 0, .ptr q2 0] H Q := by
 refine fun_V 100 lens_Lens_Field_1_code rfl ?_
 simp (disch := first | omega | (simp only [lnx]; omega)) only [stdh, stdx, ↓reduceIte, seval, lens_Lens_Field_1, lens_Lens_Field_1.body]
 refine callK_fn (get_ok _ (nums_nats _ _ _ _) hb (by omega) _ ?_)
 refine runL_V 100 ?_
 have hmx : (if most < 0 then 0 else most) = ((most.toNat : Nat) : Int) := by split <;> omega
 have hmx' : (if (0 : Int) > most then 0 else most) = ((most.toNat : Nat) : Int) := hmx
 have hmw : IntKind.u64.wrap ((most.toNat : Nat) : Int) = ((most.toNat : Nat) : Int) := wrap_u64 (by omega)
 have hql : q2 < H.length := (List.getElem?_eq_some_iff.1 h2).1
 unfold fieldSpec at he hq
 have hf := getSpec_facts (bs := zs)
 generalize getSpec zs = G at hf he hq ⊢
 obtain ⟨num, k, e⟩ := G
 dsimp only at hf he hq
 by_cases c0 : e = 0
 ·subst c0
  obtain ⟨f1, f2, f3⟩ := hf rfl
  rw [if_neg (by simp)] at he hq
  have hmn : most.toNat < 9223372036854775808 := by omega
  generalize most.toNat = mx at *
  have e1 : ((zs.length : Nat) : Int) - (k : Nat) = ((zs.length - k : Nat) : Int) := by omega
  by_cases c1 : mx < num
  ·rw [if_pos c1] at he hq
   have := he (by simp)
   simp (disch := first | omega | (simp only [lnx]; omega)) only [stdh, stdx, ↓reduceIte, seval, got, h1, h2, hmx, hmx', hmw]
   exact this
  ·rw [if_neg c1] at he hq
   by_cases c2 : zs.length - k < num
   ·rw [if_pos c2] at he hq
    have := he (by simp)
    simp (disch := first | omega | (simp only [lnx]; omega)) only [stdh, stdx, ↓reduceIte, seval, got, h1, h2, hmx, hmx', hmw, e1]
    exact this
   ·rw [if_neg c2] at he hq
    have := hq rfl
    have hol : ((zs.drop k).take num).length = num := by rw [List.length_take, List.length_drop]; omega
    have e2 : IntKind.i64.wrap (num : Int) = (num : Int) := wrap_i64 (by omega)
    have e3 : (k : Int) + (num : Int) = ((k + num : Nat) : Int) := by omega
    have e4 : k + num - k = num := by omega
    obtain ⟨p, a1, hp⟩ := Own.append3 (H := H) (w := 1) (el := T.uint8) (B := 0) Own.nil (x := nums .u8 true ((zs.drop k).take num)) (k := num) (ys := u8s ((zs.drop k).take num)) 1 (by rw [srcLen_nums, hol]) rfl (by simp only [u8s_len, hol]; omega) (by omega) (by omega) (by omega) (u8s_cellish _)
    simp only [killA, List.nil_append, Nat.zero_add] at a1
    rw [hol] at this
    simp (disch := first | omega | (simp only [lnx]; omega)) only [stdh, stdx, ↓reduceIte, seval, got, h1, h2, hmx, hmx', hmw, e1, e2, e3, e4, lens_Lens_Field_1.d0, a1, hp, at_low]
 ·rw [if_pos c0] at he
  have := he c0
  simp (disch := first | omega | (simp only [lnx]; omega)) only [stdh, stdx, ↓reduceIte, seval, got]
  exact this
def lensField (ys : List Nat) (a e : Nat) (most : Int) : List Nat × Nat × Nat :=
 if e ≠ 0 then ([], a, e) else if (fieldSpec most (ys.drop a)).2.2 ≠ 0 then ([], a, (fieldSpec most (ys.drop a)).2.2)
 else ((fieldSpec most (ys.drop a)).2.1, a + (fieldSpec most (ys.drop a)).1, 0)
theorem fieldSpec_le {most : Int} {zs : List Nat} : (fieldSpec most zs).1 ≤ zs.length ∧ (fieldSpec most zs).2.1.length ≤ zs.length := by
 unfold fieldSpec
 have hf := getSpec_facts (bs := zs)
 by_cases h0 : (getSpec zs).2.2 = 0
 ·obtain ⟨f1, f2, f3⟩ := hf h0
  rw [if_neg (by omega)]
  split
  ·simp
  ·split
   ·simp
   ·simp only [List.length_take, List.length_drop]; omega
 ·rw [if_pos h0]; simp
theorem field_ok (H : AHeap) {p : Nat} {ys : List Nat} {a e : Nat} {most : Int} (hmost : -9223372036854775808 ≤ most ∧ most < 9223372036854775808) (hp : H[p]? = some (lensB ys a e)) (ha : a ≤ ys.length) (hb : ∀ b ∈ ys, b < 256) (hlen : ys.length ≤ 1000000) (Q : AVal → AHeap → Prop)
  (h : Q (nums .u8 false (lensField ys a e most).1) (H.set p (lensB ys (lensField ys a e most).2.1 (lensField ys a e most).2.2))) : FunOK Try.prog F.lens_Lens_Field [.ptr p 0, .int .i64 most] H Q := by
 refine fun_mutice lens_Lens_Field_code p fun _ => ?_
 refine fun_V 60 lens_Lens_Field_code rfl ?_
 have hpl : p < H.length := (List.getElem?_eq_some_iff.1 hp).1
 simp (disch := first | omega | (simp only [lnx]; omega)) only [stdh, stdx, ↓reduceIte, seval, lens_Lens_Field, lens_Lens_Field.body]
 have hk : ∀ n, n < H.length → (H ++ [ABlk.cells [.int .i64 most] T.int, ABlk.cells [.nils] T.sl_uint8])[n]? = H[n]? := fun n hn => at_low hn
 have g1 : (H ++ [ABlk.cells [.int .i64 most] T.int, ABlk.cells [.nils] T.sl_uint8])[H.length]? = some (ABlk.cells [.int .i64 most] T.int) := at_0
 have g2 : (H ++ [ABlk.cells [.int .i64 most] T.int, ABlk.cells [.nils] T.sl_uint8])[H.length + 1]? = some (ABlk.cells [.nils] T.sl_uint8) := at_k
 have hl2 : (H ++ [ABlk.cells [.int .i64 most] T.int, ABlk.cells [.nils] T.sl_uint8]).length = H.length + 2 := by simp
 generalize H ++ [ABlk.cells [.int .i64 most] T.int, ABlk.cells [.nils] T.sl_uint8] = H2 at *
 have hp2 : H2[p]? = some (lensB ys a e) := (hk p hpl).trans hp
 have hbd : ∀ b ∈ ys.drop a, b < 256 := fun b hb' => hb b (List.mem_of_mem_drop hb')
 -- nothing was read
 have none : ∀ e', lensField ys a e most = ([], a, e') → RunL Try.prog ⟨F.lens_Lens_Field, 10, [.tmp 4], none⟩ [] [5] [.code (.seq (.region [⟨some 9, .load none (.tmp 5), none⟩, ⟨some 4, .mov (.tmp 9), none⟩] [4]) .ret)] [] [(8, .bool false), (7, .fn F.lens_Lens_Field_1 [] [.ptr H.length 0, .ptr (H.length + 1) 0]), (6, .ptr p 0), (0, .ptr p 0), (3, .ptr H.length 0), (5, .ptr (H.length + 1) 0)] (H2.set p (lensB ys a e')) (MutIceQ H p Q) := by
  intro e' hs
  rw [hs] at h
  have g2' : (H2.set p (lensB ys a e'))[H.length + 1]? = some (ABlk.cells [.nils] T.sl_uint8) := by rw [List.getElem?_set_ne (by omega)]; exact g2
  refine runL_V 60 ?_
  simp (disch := first | omega | (simp only [lnx]; omega)) only [stdh, stdx, ↓reduceIte, seval, g2']
  exact mutice_own (w := 1) (el := T.uint8) (by simp; omega) (fun n h1 h2 => by rw [List.getElem?_set_ne (fun e => h2 e.symm)]; exact hk n h1) (by rw [List.getElem?_set_self (by omega)]) (lensB_closed _ _ _) Own.nil trivial h
 refine callK_fn (read_ok _ hp2 ha hlen _ ?_ ?_)
 ·intro he
  have := none e (by unfold lensField; rw [if_pos he])
  rw [set_self hp2] at this
  exact this
 ·intro he
  subst he
  refine field1_ok _ hbd (by rw [List.length_drop]; omega) hmost g1 g2 _ ?_ ?_
  ·intro hs
   refine ⟨0, _, rfl, rfl, by omega, fun _ => ?_, fun hh => absurd hh hs⟩
   exact none _ (by unfold lensField; rw [if_neg (by simp), if_pos hs])
  ·intro hs
   have hle := fieldSpec_le (most := most) (zs := ys.drop a)
   rw [List.length_drop] at hle
   refine ⟨(fieldSpec most (ys.drop a)).1, 0, rfl, ?_, by omega, fun hh => absurd rfl hh, fun _ => ?_⟩
   ·rw [List.getElem?_set_ne (by omega), at_low (by omega)]
   ·have hspec : lensField ys a 0 most = ((fieldSpec most (ys.drop a)).2.1, a + (fieldSpec most (ys.drop a)).1, 0) := by unfold lensField; rw [if_neg (by simp), if_neg (by simp [hs])]
    rw [hspec] at h
    generalize (fieldSpec most (ys.drop a)).2.1 = out at *
    refine runL_V 60 ?_
    have g3 : (((H2 ++ [ABlk.vec (u8s out) T.uint8 1]).set (H.length + 1) (ABlk.cells [.slc H2.length 0 out.length 1] T.sl_uint8)).set p (lensB ys (a + (fieldSpec most (ys.drop a)).1) 0))[H.length + 1]? = some (ABlk.cells [.slc H2.length 0 out.length 1] T.sl_uint8) := by
     rw [List.getElem?_set_ne (by omega), List.getElem?_set_self (by simp; omega)]
    simp (disch := first | omega | (simp only [lnx]; omega)) only [stdh, stdx, ↓reduceIte, seval, g3]
    refine mutice_own (w := 1) (el := T.uint8) (by simp; omega) (fun n h1 h2 => ?_) (by rw [List.getElem?_set_self (by simp; omega)]) (lensB_closed _ _ _) (n := out.length) (cs := u8s out) ⟨by simp [u8s], .inr ⟨H2.length, by omega, rfl, ?_⟩⟩ (closeds_ints _ _) h
    ·rw [List.getElem?_set_ne (fun e => h2 e.symm), List.getElem?_set_ne (by omega), at_low (by omega)]; exact hk n h1
    ·rw [List.getElem?_set_ne (by omega), List.getElem?_set_ne (by omega), at_0]; rfl
theorem fieldSpec_of {most : Int} {zs : List Nat} (h0 : (getSpec zs).2.2 = 0) (h1 : (getSpec zs).1 ≤ most.toNat) (h2 : (getSpec zs).1 ≤ zs.length - (getSpec zs).2.1) : fieldSpec most zs = ((getSpec zs).2.1 + (getSpec zs).1, (zs.drop (getSpec zs).2.1).take (getSpec zs).1, 0) := by
 have a0 : ¬ (getSpec zs).2.2 ≠ 0 := by omega
 have a1 : ¬ most.toNat < (getSpec zs).1 := by omega
 have a2 : ¬ zs.length - (getSpec zs).2.1 < (getSpec zs).1 := by omega
 unfold fieldSpec
 rw [if_neg a0, if_neg a1, if_neg a2]
theorem fieldSpec_inv {most : Int} {zs : List Nat} (h : (fieldSpec most zs).2.2 = 0) : (getSpec zs).2.2 = 0 ∧ (getSpec zs).1 ≤ most.toNat ∧ (getSpec zs).1 ≤ zs.length - (getSpec zs).2.1 := by
 unfold fieldSpec at h
 by_cases a0 : (getSpec zs).2.2 ≠ 0
 ·rw [if_pos a0] at h; exact absurd h a0
 ·rw [if_neg a0] at h
  by_cases a1 : most.toNat < (getSpec zs).1
  ·rw [if_pos a1] at h; simp at h
  ·rw [if_neg a1] at h
   by_cases a2 : zs.length - (getSpec zs).2.1 < (getSpec zs).1
   ·rw [if_pos a2] at h; simp at h
   ·exact ⟨by omega, by omega, by omega⟩
def lensR {α : Type} (d : α) (ys : List Nat) (a e : Nat) (sp : List Nat → Nat × α × Nat) : α × Nat × Nat :=
 if e ≠ 0 then (d, a, e) else if (sp (ys.drop a)).2.2 ≠ 0 then (d, a, (sp (ys.drop a)).2.2) else ((sp (ys.drop a)).2.1, a + (sp (ys.drop a)).1, 0)
theorem lensR_err {α : Type} {d : α} {ys : List Nat} {a e : Nat} {sp : List Nat → Nat × α × Nat} (h : e ≠ 0) : lensR d ys a e sp = (d, a, e) := by unfold lensR; rw [if_pos h]
theorem lensR_ok {α : Type} {d : α} {ys : List Nat} {a k : Nat} {v : α} {sp : List Nat → Nat × α × Nat} (h : sp (ys.drop a) = (k, v, 0)) : lensR d ys a 0 sp = (v, a + k, 0) := by unfold lensR; rw [if_neg (by simp), h, if_neg (by simp)]
def zig (s : Int) : Nat := if s < 0 then (-(s + 1) * 2 + 1).toNat else (2 * s).toNat
def zag (n : Nat) : Int := if n % 2 = 1 then -((n / 2 : Nat) : Int) - 1 else ((n / 2 : Nat) : Int)
theorem wrap_neg {s : Int} (h0 : -9223372036854775808 ≤ s) (h1 : s < 0) : IntKind.u64.wrap s = s + 18446744073709551616 := by rw [wrap_u64']; omega
theorem zig_ok (H : AHeap) (s : Int) (h0 : -9223372036854775808 ≤ s) (h1 : s < 9223372036854775808) (Q : AVal → AHeap → Prop) (h : Q (.int .u64 (zig s)) H) : FunOK Try.prog F.varint_Zig [.int .i64 s] H Q := by
 refine fun_V 100 varint_Zig_code rfl ?_
 by_cases hs : s < 0
 ·have e1 : s / 9223372036854775808 = -1 := by omega
  have e2 : IntKind.u64.wrap ((s + 18446744073709551616) * 2) = 2 * s + 18446744073709551616 := by rw [wrap_u64']; omega
  have e3 : IntKind.u64.wrap (-1) = 18446744073709551615 := by rw [wrap_u64']; omega
  have e4 := xor_ones_u64 (x := 2 * s + 18446744073709551616) (by omega)
  have e5 : (18446744073709551615 : Int) - (2 * s + 18446744073709551616) = (zig s : Int) := by unfold zig; rw [if_pos hs]; omega
  simp (disch := omega) only [std, stdx, ↓reduceIte, seval, varint_Zig, varint_Zig.body, wrap_neg h0 hs, fdiv_pow, e1, Int.reduceMul, e2, e3, e4, e5]
  exact h
 ·have e1 : s / 9223372036854775808 = 0 := by omega
  have e2 : IntKind.u64.wrap (s * 2) = 2 * s := by rw [wrap_u64']; omega
  have e5 : 2 * s = (zig s : Int) := by unfold zig; rw [if_neg hs]; omega
  have e4 := (xor_zero_u64 (x := 2 * s) (by omega)).trans e5
  simp (disch := omega) only [std, stdx, ↓reduceIte, seval, varint_Zig, varint_Zig.body, e1, e2, e4]
  exact h
theorem zag_ok (H : AHeap) (n : Nat) (h1 : n < 18446744073709551616) (Q : AVal → AHeap → Prop) (h : Q (.int .i64 (zag n)) H) : FunOK Try.prog F.varint_Zag [.int .u64 n] H Q := by
 refine fun_V 100 varint_Zag_code rfl ?_
 have e0 : (n : Int) / 2 = ((n / 2 : Nat) : Int) := by omega
 have ea : Am.bits .and .u64 (n : Int) 1 = ((n % 2 : Nat) : Int) := by
  have := bits_and (k := .u64) rfl (a := n) (b := 1) (by simp [IntKind.bits]; omega) (by simp [IntKind.bits])
  rw [Nat.and_one_is_mod] at this
  exact this
 by_cases hn : n % 2 = 1
 ·have e1 := (xor_ones_i64 (x := ((n / 2 : Nat) : Int)) (by omega)).trans (show -((n / 2 : Nat) : Int) - 1 = zag n by unfold zag; rw [if_pos hn])
  have e2 : (0 : Int) - ((n % 2 : Nat) : Int) = -1 := by omega
  simp (disch := omega) only [std, stdx, ↓reduceIte, seval, varint_Zag, varint_Zag.body, e0, ea, e2, e1]
  exact h
 ·have e1 := (xor_zero_i64 (x := ((n / 2 : Nat) : Int)) (by omega)).trans (show ((n / 2 : Nat) : Int) = zag n by unfold zag; rw [if_neg hn])
  have e2 : (0 : Int) - ((n % 2 : Nat) : Int) = 0 := by omega
  simp (disch := omega) only [std, stdx, ↓reduceIte, seval, varint_Zag, varint_Zag.body, e0, ea, e2, e1]
  exact h
theorem zag_zig (s : Int) : zag (zig s) = s := by
 unfold zag zig
 split <;> split <;> omega
theorem zig_zag (n : Nat) : zig (zag n) = n := by
 unfold zag zig
 split <;> split <;> omega
theorem zig_lt {s : Int} (h0 : -9223372036854775808 ≤ s) (h1 : s < 9223372036854775808) : zig s < 18446744073709551616 := by unfold zig; split <;> omega
theorem zag_range {n : Nat} (h : n < 18446744073709551616) : -9223372036854775808 ≤ zag n ∧ zag n < 9223372036854775808 := by unfold zag; split <;> omega
theorem lensR_bad2 {α : Type} {d : α} {ys : List Nat} {a x : Nat} {sp : List Nat → Nat × α × Nat} (h : (sp (ys.drop a)).2.2 = x) (hx : x ≠ 0) : lensR d ys a 0 sp = (d, a, x) := by unfold lensR; rw [if_neg (by simp), h, if_pos hx]
theorem getFrom_zero : ∀ (f i n : Nat) (bs : List Nat), (getFrom f i n bs).2.2 ≠ 0 → (getFrom f i n bs).1 = 0 ∧ (getFrom f i n bs).2.1 = 0
 | 0, i, n, bs, h => ⟨rfl, rfl⟩
 | f + 1, i, n, [], h => ⟨rfl, rfl⟩
 | f + 1, i, n, b :: rest, h => by
  rw [getFrom] at h ⊢
  by_cases h1 : 128 ≤ b
  ·rw [if_pos h1] at h ⊢
   exact getFrom_zero f _ _ rest h
  ·rw [if_neg h1] at h ⊢
   by_cases h2 : (0 < i ∧ b % 128 = 0) ∨ b % 128 % 2 ^ (64 - 7 * i) ≠ b % 128
   ·rw [if_pos h2]; exact ⟨rfl, rfl⟩
   ·rw [if_neg h2] at h; exact absurd rfl h
theorem getSpec_zero {bs : List Nat} (h : (getSpec bs).2.2 ≠ 0) : (getSpec bs).1 = 0 ∧ (getSpec bs).2.1 = 0 := getFrom_zero 10 0 0 bs h
def numSpec (most : Nat) (zs : List Nat) : Nat × Nat × Nat :=
 if (getSpec zs).2.2 ≠ 0 then (0, 0, (getSpec zs).2.2) else if most < (getSpec zs).1 then (0, 0, 5) else ((getSpec zs).2.1, (getSpec zs).1, 0)
theorem num1_ok (H : AHeap) {t : Bool} {zs : List Nat} (hb : ∀ b ∈ zs, b < 256) (hlen : zs.length ≤ 1000000) {q1 q2 most : Nat} (hm : most < 18446744073709551616) (h1 : H[q1]? = some (.cells [.int .u64 (most : Nat)] T.uint64)) (h2 : H[q2]? = some (.cells [.int .u64 0] T.uint64)) (Q : AVal → AHeap → Prop)
  (he : ∀ k : Nat, k ≤ 1000000 → (numSpec most zs).2.2 ≠ 0 → Q (.tup [.int .i64 (k : Nat), .int .i64 ((numSpec most zs).2.2 : Nat)]) H)
  (hq : (numSpec most zs).2.2 = 0 → Q (.tup [.int .i64 ((numSpec most zs).1 : Nat), .int .i64 0]) (H.set q2 (.cells [.int .u64 ((numSpec most zs).2.1 : Nat)] T.uint64))) :
  FunOK Try.prog F.lens_Lens_Number_1 [nums .u8 t zs, .ptr q1 0, .ptr q2 0] H Q := by
 refine fun_V 100 lens_Lens_Number_1_code rfl ?_
 have hl2 := (List.getElem?_eq_some_iff.1 h2).1
 simp (disch := first | omega | (simp only [lnx]; omega)) only [stdh, stdx, ↓reduceIte, seval, lens_Lens_Number_1, lens_Lens_Number_1.body]
 refine callK_fn (get_ok _ (nums_nats _ _ _ _) hb (by omega) _ ?_)
 refine runL_V 100 ?_
 unfold numSpec at he hq
 have hf := getSpec_facts (bs := zs)
 have hz := getSpec_zero (bs := zs)
 generalize getSpec zs = G at hf hz he hq ⊢
 obtain ⟨num, k, e⟩ := G
 dsimp only at hf hz he hq
 by_cases c0 : e = 0
 ·subst c0
  obtain ⟨f1, f2, f3⟩ := hf rfl
  rw [if_neg (by simp)] at he hq
  by_cases c1 : most < num
  ·rw [if_pos c1] at he hq
   have := he k (by omega) (by simp)
   simp (disch := first | omega | (simp only [lnx]; omega)) only [stdh, stdx, ↓reduceIte, seval, got, h1, h2]
   exact this
  ·rw [if_neg c1] at he hq
   have := hq rfl
   simp (disch := first | omega | (simp only [lnx]; omega)) only [stdh, stdx, ↓reduceIte, seval, got, h1, h2]
   exact this
 ·obtain ⟨rfl, rfl⟩ := hz c0
  rw [if_pos c0] at he
  have := he 0 (by omega) c0
  simp (disch := first | omega | (simp only [lnx]; omega)) only [stdh, stdx, ↓reduceIte, seval, got]
  exact this
theorem numSpec_le {most : Nat} {zs : List Nat} : (numSpec most zs).1 ≤ zs.length := by
 unfold numSpec
 have hf := getSpec_facts (bs := zs)
 by_cases h0 : (getSpec zs).2.2 = 0
 ·obtain ⟨f1, f2, f3⟩ := hf h0
  rw [if_neg (by omega)]
  split
  ·simp
  ·exact f2
 ·rw [if_pos h0]; simp
theorem lnum_ok (H : AHeap) {p : Nat} {ys : List Nat} {a e most : Nat} (hm : most < 18446744073709551616) (hp : H[p]? = some (lensB ys a e)) (ha : a ≤ ys.length) (hb : ∀ b ∈ ys, b < 256) (hlen : ys.length ≤ 1000000) (Q : AVal → AHeap → Prop)
  (h : Q (.int .u64 ((lensR 0 ys a e (numSpec most)).1 : Nat)) (H.set p (lensB ys (lensR 0 ys a e (numSpec most)).2.1 (lensR 0 ys a e (numSpec most)).2.2))) : FunOK Try.prog F.lens_Lens_Number [.ptr p 0, .int .u64 (most : Nat)] H Q := by
 refine fun_mut lens_Lens_Number_code p fun _ => ?_
 refine fun_V 60 lens_Lens_Number_code rfl ?_
 have hpl : p < H.length := (List.getElem?_eq_some_iff.1 hp).1
 simp (disch := first | omega | (simp only [lnx]; omega)) only [stdh, stdx, ↓reduceIte, seval, lens_Lens_Number, lens_Lens_Number.body]
 have hk : ∀ n, n < H.length → (H ++ [ABlk.cells [.int .u64 (most : Nat)] T.uint64, ABlk.cells [.int .u64 0] T.uint64])[n]? = H[n]? := fun n hn => at_low hn
 have g1 : (H ++ [ABlk.cells [.int .u64 (most : Nat)] T.uint64, ABlk.cells [.int .u64 0] T.uint64])[H.length]? = some (ABlk.cells [.int .u64 (most : Nat)] T.uint64) := at_0
 have g2 : (H ++ [ABlk.cells [.int .u64 (most : Nat)] T.uint64, ABlk.cells [.int .u64 0] T.uint64])[H.length + 1]? = some (ABlk.cells [.int .u64 0] T.uint64) := at_k
 have hl2 : (H ++ [ABlk.cells [.int .u64 (most : Nat)] T.uint64, ABlk.cells [.int .u64 0] T.uint64]).length = H.length + 2 := by simp
 generalize H ++ [ABlk.cells [.int .u64 (most : Nat)] T.uint64, ABlk.cells [.int .u64 0] T.uint64] = H2 at *
 have hp2 : H2[p]? = some (lensB ys a e) := (hk p hpl).trans hp
 have hbd : ∀ b ∈ ys.drop a, b < 256 := fun b hb' => hb b (List.mem_of_mem_drop hb')
 refine callK_fn (read_ok _ hp2 ha hlen _ ?_ ?_)
 ·intro he
  rw [lensR_err he] at h
  refine runL_V 60 ?_
  simp (disch := first | omega | (simp only [lnx]; omega)) only [stdh, stdx, ↓reduceIte, seval, g2]
  exact mut_mk (by omega) (fun n h1 h2 => hk n h1) hp2 (lensB_closed _ _ _) trivial h
 ·intro he
  subst he
  refine num1_ok _ hbd (by rw [List.length_drop]; omega) hm g1 g2 _ ?_ ?_
  ·intro k hkk hz
   rw [lensR_bad2 rfl hz] at h
   refine ⟨k, _, rfl, rfl, hkk, fun _ => ?_, fun hh => absurd hh hz⟩
   refine runL_V 60 ?_
   have g2' : (H2.set p (lensB ys a (numSpec most (ys.drop a)).2.2))[H.length + 1]? = some (ABlk.cells [.int .u64 0] T.uint64) := by rw [List.getElem?_set_ne (by omega)]; exact g2
   simp (disch := first | omega | (simp only [lnx]; omega)) only [stdh, stdx, ↓reduceIte, seval, g2']
   exact mut_mk (by simp; omega) (fun n h1 h2 => by rw [List.getElem?_set_ne (fun e => h2 e.symm)]; exact hk n h1) (List.getElem?_set_self (by omega)) (lensB_closed _ _ _) trivial h
  ·intro hz
   have hle := numSpec_le (most := most) (zs := ys.drop a)
   rw [List.length_drop] at hle
   rw [lensR_ok (sp := numSpec most) (k := (numSpec most (ys.drop a)).1) (v := (numSpec most (ys.drop a)).2.1) (by rw [← hz])] at h
   generalize (numSpec most (ys.drop a)).2.1 = v at *
   generalize (numSpec most (ys.drop a)).1 = k at *
   refine ⟨k, 0, rfl, by rw [List.getElem?_set_ne (by omega)], by omega, fun hh => absurd rfl hh, fun _ => ?_⟩
   refine runL_V 60 ?_
   have g2'' : ((H2.set (H.length + 1) (.cells [.int .u64 (v : Nat)] T.uint64)).set p (lensB ys (a + k) 0))[H.length + 1]? = some (.cells [.int .u64 (v : Nat)] T.uint64) := by rw [List.getElem?_set_ne (by omega), List.getElem?_set_self (by omega)]
   simp (disch := first | omega | (simp only [lnx]; omega)) only [stdh, stdx, ↓reduceIte, seval, g2'']
   exact mut_mk (by simp; omega) (fun n h1 h2 => by rw [List.getElem?_set_ne (fun e => h2 e.symm), List.getElem?_set_ne (by omega)]; exact hk n h1) (List.getElem?_set_self (by simp; omega)) (lensB_closed _ _ _) trivial h
def sgnSpec (least high : Int) (zs : List Nat) : Nat × Int × Nat :=
 if (getSpec zs).2.2 ≠ 0 then (0, 0, (getSpec zs).2.2) else if zag (getSpec zs).1 < least ∨ high < zag (getSpec zs).1 then (0, 0, 5) else ((getSpec zs).2.1, zag (getSpec zs).1, 0)
theorem sgnSpec_le {least high : Int} {zs : List Nat} : (sgnSpec least high zs).1 ≤ zs.length := by
 unfold sgnSpec
 have hf := getSpec_facts (bs := zs)
 by_cases h0 : (getSpec zs).2.2 = 0
 ·obtain ⟨f1, f2, f3⟩ := hf h0
  rw [if_neg (by omega)]
  split
  ·simp
  ·exact f2
 ·rw [if_pos h0]; simp
theorem sgn1_ok (H : AHeap) {t : Bool} {zs : List Nat} (hb : ∀ b ∈ zs, b < 256) (hlen : zs.length ≤ 1000000) {q0 q1 q2 : Nat} {least high : Int} (h0 : H[q0]? = some (.cells [.int .i64 least] T.int64)) (h1 : H[q1]? = some (.cells [.int .i64 high] T.int64)) (h2 : H[q2]? = some (.cells [.int .i64 0] T.int64)) (Q : AVal → AHeap → Prop)
  (he : ∀ k : Nat, k ≤ 1000000 → (sgnSpec least high zs).2.2 ≠ 0 → Q (.tup [.int .i64 (k : Nat), .int .i64 ((sgnSpec least high zs).2.2 : Nat)]) H)
  (hq : (sgnSpec least high zs).2.2 = 0 → Q (.tup [.int .i64 ((sgnSpec least high zs).1 : Nat), .int .i64 0]) (H.set q2 (.cells [.int .i64 (sgnSpec least high zs).2.1] T.int64))) :
  FunOK Try.prog F.lens_Lens_Signed_1 [nums .u8 t zs, .ptr q0 0, .ptr q1 0, .ptr q2 0] H Q := by
 refine fun_V 100 lens_Lens_Signed_1_code rfl ?_
 have hl2 := (List.getElem?_eq_some_iff.1 h2).1
 simp (disch := first | omega | (simp only [lnx]; omega)) only [stdh, stdx, ↓reduceIte, seval, lens_Lens_Signed_1, lens_Lens_Signed_1.body]
 refine callK_fn (get_ok _ (nums_nats _ _ _ _) hb (by omega) _ ?_)
 refine runL_V 100 ?_
 unfold sgnSpec at he hq
 have hf := getSpec_facts (bs := zs)
 have hz := getSpec_zero (bs := zs)
 generalize getSpec zs = G at hf hz he hq ⊢
 obtain ⟨num, k, e⟩ := G
 dsimp only at hf hz he hq
 have hn : num < 18446744073709551616 := by
  by_cases c0 : e = 0
  ·exact (hf c0).2.2
  ·rw [(hz c0).1]; omega
 simp (disch := first | omega | (simp only [lnx]; omega)) only [stdh, stdx, ↓reduceIte, seval, got]
 refine callK_fn (zag_ok _ _ hn _ ?_)
 refine runL_V 100 ?_
 by_cases c0 : e = 0
 ·subst c0
  obtain ⟨f1, f2, f3⟩ := hf rfl
  rw [if_neg (by simp)] at he hq
  generalize zag num = s at *
  by_cases c1 : s < least
  ·rw [if_pos (.inl c1)] at he hq
   have := he k (by omega) (by simp)
   simp (disch := first | omega | (simp only [lnx]; omega)) only [stdh, stdx, ↓reduceIte, seval, h0, h1, h2]
   exact this
  ·by_cases c2 : high < s
   ·rw [if_pos (.inr c2)] at he hq
    have := he k (by omega) (by simp)
    simp (disch := first | omega | (simp only [lnx]; omega)) only [stdh, stdx, ↓reduceIte, seval, h0, h1, h2]
    exact this
   ·rw [if_neg (by omega)] at he hq
    have := hq rfl
    simp (disch := first | omega | (simp only [lnx]; omega)) only [stdh, stdx, ↓reduceIte, seval, h0, h1, h2]
    exact this
 ·obtain ⟨rfl, rfl⟩ := hz c0
  rw [if_pos c0] at he
  have := he 0 (by omega) c0
  simp (disch := first | omega | (simp only [lnx]; omega)) only [stdh, stdx, ↓reduceIte, seval]
  exact this
theorem lsgn_ok (H : AHeap) {p : Nat} {ys : List Nat} {a e : Nat} {least high : Int} (hp : H[p]? = some (lensB ys a e)) (ha : a ≤ ys.length) (hb : ∀ b ∈ ys, b < 256) (hlen : ys.length ≤ 1000000) (Q : AVal → AHeap → Prop)
  (h : Q (.int .i64 (lensR 0 ys a e (sgnSpec least high)).1) (H.set p (lensB ys (lensR 0 ys a e (sgnSpec least high)).2.1 (lensR 0 ys a e (sgnSpec least high)).2.2))) : FunOK Try.prog F.lens_Lens_Signed [.ptr p 0, .int .i64 least, .int .i64 high] H Q := by
 refine fun_mut lens_Lens_Signed_code p fun _ => ?_
 refine fun_V 60 lens_Lens_Signed_code rfl ?_
 have hpl : p < H.length := (List.getElem?_eq_some_iff.1 hp).1
 simp (disch := first | omega | (simp only [lnx]; omega)) only [stdh, stdx, ↓reduceIte, seval, lens_Lens_Signed, lens_Lens_Signed.body]
 have hk : ∀ n, n < H.length → (H ++ [ABlk.cells [.int .i64 least] T.int64, .cells [.int .i64 high] T.int64, ABlk.cells [.int .i64 0] T.int64])[n]? = H[n]? := fun n hn => at_low hn
 have g0 : (H ++ [ABlk.cells [.int .i64 least] T.int64, .cells [.int .i64 high] T.int64, ABlk.cells [.int .i64 0] T.int64])[H.length]? = some (ABlk.cells [.int .i64 least] T.int64) := at_0
 have g1 : (H ++ [ABlk.cells [.int .i64 least] T.int64, .cells [.int .i64 high] T.int64, ABlk.cells [.int .i64 0] T.int64])[H.length + 1]? = some (ABlk.cells [.int .i64 high] T.int64) := at_k
 have g2 : (H ++ [ABlk.cells [.int .i64 least] T.int64, .cells [.int .i64 high] T.int64, ABlk.cells [.int .i64 0] T.int64])[H.length + 2]? = some (ABlk.cells [.int .i64 0] T.int64) := at_k
 have hl2 : (H ++ [ABlk.cells [.int .i64 least] T.int64, .cells [.int .i64 high] T.int64, ABlk.cells [.int .i64 0] T.int64]).length = H.length + 3 := by simp
 generalize H ++ [ABlk.cells [.int .i64 least] T.int64, .cells [.int .i64 high] T.int64, ABlk.cells [.int .i64 0] T.int64] = H2 at *
 have hp2 : H2[p]? = some (lensB ys a e) := (hk p hpl).trans hp
 have hbd : ∀ b ∈ ys.drop a, b < 256 := fun b hb' => hb b (List.mem_of_mem_drop hb')
 refine callK_fn (read_ok _ hp2 ha hlen _ ?_ ?_)
 ·intro he
  rw [lensR_err he] at h
  refine runL_V 60 ?_
  simp (disch := first | omega | (simp only [lnx]; omega)) only [stdh, stdx, ↓reduceIte, seval, g2]
  exact mut_mk (by omega) (fun n h1 h2 => hk n h1) hp2 (lensB_closed _ _ _) trivial h
 ·intro he
  subst he
  refine sgn1_ok _ hbd (by rw [List.length_drop]; omega) g0 g1 g2 _ ?_ ?_
  ·intro k hkk hz
   rw [lensR_bad2 rfl hz] at h
   refine ⟨k, _, rfl, rfl, hkk, fun _ => ?_, fun hh => absurd hh hz⟩
   refine runL_V 60 ?_
   have g2' : (H2.set p (lensB ys a (sgnSpec least high (ys.drop a)).2.2))[H.length + 2]? = some (ABlk.cells [.int .i64 0] T.int64) := by rw [List.getElem?_set_ne (by omega)]; exact g2
   simp (disch := first | omega | (simp only [lnx]; omega)) only [stdh, stdx, ↓reduceIte, seval, g2']
   exact mut_mk (by simp; omega) (fun n h1 h2 => by rw [List.getElem?_set_ne (fun e => h2 e.symm)]; exact hk n h1) (List.getElem?_set_self (by omega)) (lensB_closed _ _ _) trivial h
  ·intro hz
   have hle := sgnSpec_le (least := least) (high := high) (zs := ys.drop a)
   rw [List.length_drop] at hle
   rw [lensR_ok (sp := sgnSpec least high) (k := (sgnSpec least high (ys.drop a)).1) (v := (sgnSpec least high (ys.drop a)).2.1) (by rw [← hz])] at h
   generalize (sgnSpec least high (ys.drop a)).2.1 = v at *
   generalize (sgnSpec least high (ys.drop a)).1 = k at *
   refine ⟨k, 0, rfl, by rw [List.getElem?_set_ne (by omega)], by omega, fun hh => absurd rfl hh, fun _ => ?_⟩
   refine runL_V 60 ?_
   have g2'' : ((H2.set (H.length + 2) (.cells [.int .i64 v] T.int64)).set p (lensB ys (a + k) 0))[H.length + 2]? = some (.cells [.int .i64 v] T.int64) := by rw [List.getElem?_set_ne (by omega), List.getElem?_set_self (by omega)]
   simp (disch := first | omega | (simp only [lnx]; omega)) only [stdh, stdx, ↓reduceIte, seval, g2'']
   exact mut_mk (by simp; omega) (fun n h1 h2 => by rw [List.getElem?_set_ne (fun e => h2 e.symm), List.getElem?_set_ne (by omega)]; exact hk n h1) (List.getElem?_set_self (by simp; omega)) (lensB_closed _ _ _) trivial h
theorem lfield_ok (H : AHeap) {p : Nat} {ys : List Nat} {a e : Nat} {most : Int} (hmost : -9223372036854775808 ≤ most ∧ most < 9223372036854775808) (hp : H[p]? = some (lensB ys a e)) (ha : a ≤ ys.length) (hb : ∀ b ∈ ys, b < 256) (hlen : ys.length ≤ 1000000) (Q : AVal → AHeap → Prop)
  (h : Q (nums .u8 false (lensR [] ys a e (fieldSpec most)).1) (H.set p (lensB ys (lensR [] ys a e (fieldSpec most)).2.1 (lensR [] ys a e (fieldSpec most)).2.2))) : FunOK Try.prog F.lens_Lens_Field [.ptr p 0, .int .i64 most] H Q := field_ok H hmost hp ha hb hlen Q h
def lead : Nat → List Nat → Nat
 | 0, _ => 0
 | _ + 1, [] => 0
 | f + 1, b :: bs => if 128 ≤ b then 1 + lead f bs else 0
def val : List Nat → Nat
 | [] => 0
 | b :: bs => b % 128 + 128 * val bs
def rgetSpec (bs : List Nat) : Nat × Nat × Nat :=
 if lead 10 bs = 10 then (0, 0, 3)
 else if bs.length ≤ lead 10 bs then (0, 0, 4)
 else if 18446744073709551616 ≤ val (bs.take (lead 10 bs + 1)) then (0, 0, 3)
 else if 0 < lead 10 bs ∧ bs.getD (lead 10 bs) 0 = 0 then (0, 0, 3)
 else (val (bs.take (lead 10 bs + 1)), lead 10 bs + 1, 0)
theorem getFrom_eq : ∀ (f i n : Nat) (bs : List Nat), i + f = 10 → n < 2 ^ (7 * i) →
  getFrom f i n bs = if lead f bs = f then (0, 0, 3) else if bs.length ≤ lead f bs then (0, 0, 4) else if 18446744073709551616 ≤ n + val (bs.take (lead f bs + 1)) * 2 ^ (7 * i) then (0, 0, 3)
   else if 0 < i + lead f bs ∧ bs.getD (lead f bs) 0 % 128 = 0 then (0, 0, 3) else (n + val (bs.take (lead f bs + 1)) * 2 ^ (7 * i), i + lead f bs + 1, 0)
 | 0, i, n, bs, h, hn => by simp [getFrom, lead]
 | f + 1, i, n, [], h, hn => by simp [getFrom, lead]
 | f + 1, i, n, b :: rest, h, hn => by
  have hp2 := Nat.two_pow_pos (7 * i)
  have h64 : (18446744073709551616 : Nat) = 2 ^ (64 - 7 * i) * 2 ^ (7 * i) := by rw [← Nat.pow_add, show 64 - 7 * i + 7 * i = 64 by omega]
  by_cases hb : 128 ≤ b
  ·simp only [getFrom, lead, if_pos hb]
   by_cases hf : f = 0
   ·subst hf; simp [getFrom, lead]
   ·have hq : b % 128 % 2 ^ (64 - 7 * i) = b % 128 := by
     refine Nat.mod_eq_of_lt (Nat.lt_of_lt_of_le (Nat.mod_lt _ (by omega)) ?_)
     exact Nat.pow_le_pow_right (n := 2) (by omega) (show 7 ≤ 64 - 7 * i by omega)
    rw [hq]
    have hlt : n + b % 128 * 2 ^ (7 * i) < 2 ^ (7 * (i + 1)) := by
     have : b % 128 ≤ 127 := by omega
     have := Nat.mul_le_mul_right (2 ^ (7 * i)) this
     rw [show 7 * (i + 1) = 7 * i + 7 by omega, Nat.pow_add]
     omega
    rw [getFrom_eq f (i + 1) _ rest (by omega) hlt]
    have hv : n + b % 128 * 2 ^ (7 * i) + val (rest.take (lead f rest + 1)) * 2 ^ (7 * (i + 1)) = n + val ((b :: rest).take (1 + lead f rest + 1)) * 2 ^ (7 * i) := by
     rw [List.take_succ_cons, show 1 + lead f rest = lead f rest + 1 by omega, val, show 7 * (i + 1) = 7 * i + 7 by omega, Nat.pow_add, Nat.add_mul]
     have : val (rest.take (lead f rest + 1)) * (2 ^ (7 * i) * 2 ^ 7) = 128 * val (rest.take (lead f rest + 1)) * 2 ^ (7 * i) := by
      rw [Nat.mul_comm (2 ^ (7 * i)), ← Nat.mul_assoc, Nat.mul_comm (val _)]
     omega
    rw [hv]
    have e1 : (lead f rest = f) = (1 + lead f rest = f + 1) := propext ⟨fun h => by omega, fun h => by omega⟩
    have e2 : (rest.length ≤ lead f rest) = ((b :: rest).length ≤ 1 + lead f rest) := by simp only [List.length_cons]; exact propext ⟨fun h => by omega, fun h => by omega⟩
    have e3 : rest.getD (lead f rest) 0 = (b :: rest).getD (1 + lead f rest) 0 := by rw [Nat.add_comm 1]; simp
    rw [e3, show i + 1 + lead f rest = i + (1 + lead f rest) by omega]
    simp only [e1, e2]
  ·have hbm : b % 128 = b := by omega
   simp only [getFrom, lead, if_neg hb, hbm]
   have e1 : (0 = f + 1) = False := by simp
   have e2 : ((b :: rest).length ≤ 0) = False := by simp
   simp only [e1, e2, if_false, List.take_succ_cons, List.take_zero, val, hbm, Nat.mul_zero, Nat.add_zero, List.getD_cons_zero]
   by_cases hq : b < 2 ^ (64 - 7 * i)
   ·have hqm : b % 2 ^ (64 - 7 * i) = b := Nat.mod_eq_of_lt hq
    have hlt : n + b * 2 ^ (7 * i) < 18446744073709551616 := by
     have := Nat.mul_le_mul_right (2 ^ (7 * i)) (show b + 1 ≤ 2 ^ (64 - 7 * i) from hq)
     rw [← h64, Nat.add_mul] at this
     omega
    simp only [hqm, Nat.not_le.2 hlt, if_false, ne_eq, not_true_eq_false, or_false]
   ·have hqm : b % 2 ^ (64 - 7 * i) ≠ b := by
     intro he
     have := Nat.mod_lt b (Nat.two_pow_pos (64 - 7 * i))
     omega
    have hge : 18446744073709551616 ≤ n + b * 2 ^ (7 * i) := by
     have := Nat.mul_le_mul_right (2 ^ (7 * i)) (show 2 ^ (64 - 7 * i) ≤ b by omega)
     rw [← h64] at this
     omega
    simp only [hqm, hge, if_true, ne_eq, not_false_eq_true, or_true]
theorem lead_last : ∀ (f : Nat) (bs : List Nat), lead f bs ≠ f → ∀ (h : lead f bs < bs.length), bs.getD (lead f bs) 0 < 128
 | 0, _, h, _ => by simp [lead] at h
 | f + 1, [], h, h' => by simp [lead] at h'
 | f + 1, b :: bs, h, h' => by
  by_cases hb : 128 ≤ b
  ·simp only [lead, if_pos hb] at h h' ⊢
   have := lead_last f bs (by omega) (by simp at h'; omega)
   rw [Nat.add_comm 1]; simpa using this
  ·simp only [lead, if_neg hb]
   simp; omega
theorem rgetSpec_eq (bs : List Nat) : rgetSpec bs = getSpec bs := by
 unfold rgetSpec getSpec
 rw [getFrom_eq 10 0 0 bs rfl (by simp)]
 simp only [Nat.mul_zero, Nat.pow_zero, Nat.mul_one, Nat.zero_add]
 by_cases h1 : lead 10 bs = 10
 ·simp [h1]
 ·by_cases h2 : bs.length ≤ lead 10 bs
  ·simp [h1, h2]
  ·have := lead_last 10 bs h1 (by omega)
   rw [Nat.mod_eq_of_lt this]
theorem val_drop (d : List Nat) (j : Nat) (hj : j < d.length) : val (d.drop j) = d.getD j 0 % 128 + 128 * val (d.drop (j + 1)) := by
 rw [List.drop_eq_getElem_cons hj, val]; simp [hj]
theorem val_ge (d : List Nat) : ∀ j, val (d.drop j) ≤ val d
 | 0 => by simp
 | j + 1 => by
  have := val_ge d j
  by_cases hj : j < d.length
  ·rw [val_drop d j hj] at this; omega
  ·rw [List.drop_eq_nil_of_le (by omega)]; simp [val]
structure PenAt (H : AHeap) (p : Nat) (a : AVal) (xs : List Nat) (room : Nat) (full : Bool) : Prop where
 is : H[p]? = some (.cells [a, .int .i64 (room : Int), .bool full] T.pen_Pen)
 own : Own 1 T.uint8 (p + 1) H a xs.length (u8s xs)
 le : xs.length ≤ room
 lt : room ≤ 9223372036854775807
 sm : xs.length ≤ 1000000
theorem PenAt.moved {H H' : AHeap} {p : Nat} {a : AVal} {xs : List Nat} {room : Nat} {full : Bool} (h : PenAt H p a xs room full) (hp : H'[p]? = H[p]?) (hk : ∀ m ∈ a.names, H'[m]? = H[m]?) : PenAt H' p a xs room full :=
 ⟨hp.trans h.is, h.own.moved hk, h.le, h.lt, h.sm⟩
def PenKeeps (H : AHeap) (p : Nat) (a : AVal) (H' : AHeap) : Prop := H.length ≤ H'.length ∧ ∀ m, m < H.length → m ≠ p → m ∉ a.names → H'[m]? = H[m]?
def rawXs (xs : List Nat) (room : Nat) (full : Bool) (ys : List Nat) : List Nat := if full = true ∨ room < xs.length + ys.length then xs else xs ++ ys
def rawFull (xs : List Nat) (room : Nat) (full : Bool) (ys : List Nat) : Bool := full || decide (room < xs.length + ys.length)
def rawErr (xs : List Nat) (room : Nat) (full : Bool) (ys : List Nat) : Nat := if full = true ∨ room < xs.length + ys.length then 2 else 0
theorem raw_ok (H : AHeap) {p : Nat} {a : AVal} {xs : List Nat} {room : Nat} {full : Bool} (hp : PenAt H p a xs room full) {b : AVal} {ys : List Nat} (hb : Nats .u8 H b ys) (hs : ∀ s, b ≠ .str s) (hsm : xs.length + ys.length ≤ 1000000) (Q : AVal → AHeap → Prop)
  (h : ∀ a' H', PenAt H' p a' (rawXs xs room full ys) room (rawFull xs room full ys) → PenKeeps H p a H' → (∀ m ∈ a'.names, m ∈ a.names ∨ H.length ≤ m) → Q (.int .i64 (rawErr xs room full ys : Nat)) H') : FunOK Try.prog F.pen_Pen_Raw [.ptr p 0, b] H Q := by
 obtain ⟨hc, ho, hle, hlt, hsx⟩ := hp
 have hpl : p < H.length := (List.getElem?_eq_some_iff.1 hc).1
 have hsl := ho.slen
 have hcl := ho.cell
 refine fun_V 100 pen_Pen_Raw_code rfl ?_
 have hH2 : ∀ m, m ≠ p → (H.set p (.cells [a, .int .i64 (room : Int), .bool true] T.pen_Pen))[m]? = H[m]? := fun m hm => by rw [List.getElem?_set_ne (by omega)]
 have hfull : rawXs xs room full ys = xs → rawFull xs room full ys = true → rawErr xs room full ys = 2 → Q (.int .i64 2) (H.set p (.cells [a, .int .i64 (room : Int), .bool true] T.pen_Pen)) := by
  intro e1 e2 e3
  have := h a (H.set p (.cells [a, .int .i64 (room : Int), .bool true] T.pen_Pen)) (by
   rw [e1, e2]
   refine ⟨by rw [List.getElem?_set_self hpl], ho.moved fun m hm => hH2 m ?_, hle, hlt, hsx⟩
   have := (ho.lt m hm).1; omega) ⟨by simp, fun m h1 h2 h3 => hH2 m h2⟩ (fun m hm => .inl hm)
  rw [e3] at this
  exact this
 cases full with
 | true =>
  have q := hfull (by simp [rawXs]) (by simp [rawFull]) (by simp [rawErr])
  clear h hfull
  simp (disch := first | omega | (simp only [lnx]; omega)) only [stdh, stdx, ↓reduceIte, seval, pen_Pen_Raw, pen_Pen_Raw.body, pen_Pen_Raw.d0, eqA, hc]
 | false =>
  by_cases hr : room < xs.length + ys.length
  ·have q := hfull (by simp [rawXs, hr]) (by simp [rawFull, hr]) (by simp [rawErr, hr])
   have hr' : (room : Int) - (xs.length : Nat) < (ys.length : Nat) := by omega
   simp (disch := first | omega | (simp only [lnx]; omega)) only [stdh, stdx, ↓reduceIte, seval, pen_Pen_Raw, pen_Pen_Raw.body, pen_Pen_Raw.d0, eqA, hc, hsl, hb.len, hr']
  ·have hr' : ¬ (room : Int) - (xs.length : Nat) < (ys.length : Nat) := by omega
   have e1 : rawXs xs room false ys = xs ++ ys := by simp [rawXs, hr]
   have e2 : rawFull xs room false ys = false := by simp [rawFull, hr]
   have e3 : rawErr xs room false ys = 0 := by simp [rawErr, hr]
   rw [e1, e2, e3] at h
   simp (disch := first | omega | (simp only [lnx]; omega)) only [stdh, stdx, ↓reduceIte, seval, pen_Pen_Raw, pen_Pen_Raw.body, pen_Pen_Raw.d0, eqA, hc, hsl, hb.len, hr']
   have hb1 : srcLen b = some ys.length := by
    have := hb.len
    cases b <;> first | (simp [slen] at this; done) | exact this
   have hb2 : srcCells H b = some (u8s ys) := by
    have := hb.view
    cases b <;> first | exact absurd rfl (hs _) | exact this
   refine resK_append (k := ys.length) (ys := u8s ys) ho (by omega) hb1 hb2 (by simp [u8s]) (by omega) (by omega) (by omega) (by simp [u8s, AVal.cellish]) fun v H2 ov ht hn => ?_
   have hc2 : H2[p]? = some (.cells [a, .int .i64 (room : Int), .bool false] T.pen_Pen) := by
    rw [ht.kept p hpl (fun hm => by have := (ho.lt p hm).1; omega)]; exact hc
   have hcv := ov.cell
   have hpl2 : p < H2.length := (List.getElem?_eq_some_iff.1 hc2).1
   simp (disch := first | omega | (simp only [lnx]; omega)) only [stdh, stdx, ↓reduceIte, seval, hc2, hcv.1, hcv.2]
   refine h v _ ⟨by rw [List.getElem?_set_self hpl2], ?_, by simp; omega, hlt, by simp; omega⟩ ⟨by simp [ht.le], fun m h1 h2 h3 => ?_⟩ (fun m hm => .inr (hn m hm))
   ·have : xs.length + ys.length = (xs ++ ys).length := by simp
    rw [← this]
    have e : u8s (xs ++ ys) = u8s xs ++ u8s ys := by simp [u8s]
    rw [e]
    refine ov.moved fun m hm => ?_
    rw [List.getElem?_set_ne (by have := (ov.lt m hm).1; omega)]
   ·rw [List.getElem?_set_ne (by omega)]
    exact ht.kept m h1 h3
theorem pnew_ok (H : AHeap) {room : Nat} (hr : room ≤ 9223372036854775807) (Q : AVal → AHeap → Prop) (h : Q (.ptr H.length 0) (H ++ [.cells [.nils, .int .i64 (room : Int), .bool false] T.pen_Pen])) : FunOK Try.prog F.pen_New [.int .i64 (room : Nat)] H Q := by
 have e : ¬ (room : Int) < 0 := by omega
 have e2 : max (room : Int) 0 = room := by omega
 refine fun_V 60 pen_New_code rfl ?_
 simp (disch := first | omega | (simp only [lnx]; omega)) only [stdh, stdx, ↓reduceIte, seval, pen_New, pen_New.body, e, e2]
 exact h
theorem pnew_at (H : AHeap) {room : Nat} (hr : room ≤ 9223372036854775807) : PenAt (H ++ [.cells [.nils, .int .i64 (room : Int), .bool false] T.pen_Pen]) H.length .nils [] room false :=
 ⟨at_0, Own.nil, by simp, hr, by simp⟩
theorem pbytes_ok {H : AHeap} {p : Nat} {a : AVal} {xs : List Nat} {room : Nat} {full : Bool} (hp : PenAt H p a xs room full) (Q : AVal → AHeap → Prop) (h : Q (nums .u8 false xs) H) : FunOK Try.prog F.pen_Pen_Bytes [.ptr p 0] H Q := by
 have hc := hp.is
 have ho := hp.own
 have hle := hp.le
 have hlt := hp.lt
 have hsx := hp.sm
 refine fun_iced pen_Pen_Bytes_code fun _ => ?_
 refine fun_V 60 pen_Pen_Bytes_code rfl ?_
 simp (disch := first | omega | (simp only [lnx]; omega)) only [stdh, stdx, ↓reduceIte, seval, pen_Pen_Bytes, pen_Pen_Bytes.body, eqA, hc]
 refine resK_append (k := xs.length) (ys := u8s xs) (Own.nil (B := H.length)) (Nat.le_refl _) ho.src.1 ho.src.2 (by simp [u8s]) (by omega) (by omega) (by omega) (by simp [u8s, AVal.cellish]) fun v H2 ov ht hn => ?_
 simp (disch := first | omega | (simp only [lnx]; omega)) only [stdh, stdx, ↓reduceIte, seval]
 have ov' : Own 1 T.uint8 H.length H2 v xs.length (u8s xs) := by simpa using ov
 exact ice_own ⟨ht.le, fun m hm => ht.kept m hm (by simp [AVal.names])⟩ ov' (closeds_ints _ _) h
def Wrote (p : Nat) (a : AVal) (H : AHeap) (xs : List Nat) (room : Nat) (full : Bool) (ys : List Nat) (Q : AVal → AHeap → Prop) : Prop :=
 ∀ a' H', PenAt H' p a' (rawXs xs room full ys) room (rawFull xs room full ys) → PenKeeps H p a H' → (∀ m ∈ a'.names, m ∈ a.names ∨ H.length ≤ m) → Q (.int .i64 (rawErr xs room full ys : Nat)) H'
theorem Wrote.keep {p : Nat} {a : AVal} {H H1 : AHeap} {xs : List Nat} {room : Nat} {full : Bool} {ys : List Nat} {Q : AVal → AHeap → Prop} (hk : Keeps H H1) (h : Wrote p a H xs room full ys Q) : Wrote p a H1 xs room full ys Q := by
 intro a' H' g1 g2 g3
 refine h a' H' g1 ⟨Nat.le_trans hk.le g2.1, fun m h1 h2 h3 => (g2.2 m (Nat.lt_of_lt_of_le h1 hk.le) h2 h3).trans (hk.2 m h1)⟩ fun m hm => ?_
 rcases g3 m hm with h4 | h4
 ·exact .inl h4
 ·exact .inr (Nat.le_trans hk.le h4)
theorem PenAt.keep {H H1 : AHeap} {p : Nat} {a : AVal} {xs : List Nat} {room : Nat} {full : Bool} (hk : Keeps H H1) (h : PenAt H p a xs room full) : PenAt H1 p a xs room full :=
 ⟨(hk.2 p (List.getElem?_eq_some_iff.1 h.is).1).trans h.is, h.own.keep hk, h.le, h.lt, h.sm⟩
section
variable {H : AHeap} {p : Nat} {a : AVal} {xs : List Nat} {room : Nat} {full : Bool}
theorem mine_nostr {k : IntKind} {el : TypeId} {B : Nat} {H : AHeap} {a : AVal} {xs : List Nat} (h : Mine k el B H a xs) : ∀ s, a ≠ .str s := by
 rcases h.is with ⟨rfl, _⟩ | ⟨_, _, rfl, _⟩ <;> simp
theorem putAll_len : ∀ (l : List Nat), (∀ n ∈ l, n < 18446744073709551616) → (putAll l).length ≤ 10 * l.length
 | [], _ => by simp [putAll]
 | n :: l, h => by
  have h1 := putAll_len l fun m hm => h m (by simp [hm])
  have h2 := sizeOf_le10 (h n (by simp))
  have h3 := putOne_length n
  simp only [putAll, List.flatMap_cons, List.length_append, List.length_cons] at h1 ⊢
  omega
theorem number_ok (hp : PenAt H p a xs room full) (hsm : xs.length ≤ 500000) {l : AVal} {ns : List Nat} (hl : Nats .u64 H l ns) (hb : ∀ n ∈ ns, n < 18446744073709551616) (hlen : ns.length ≤ 1000) (Q : AVal → AHeap → Prop) (h : Wrote p a H xs room full (putAll ns) Q) :
  FunOK Try.prog F.pen_Pen_Number [.ptr p 0, l] H Q := by
 refine fun_V 60 pen_Pen_Number_code rfl ?_
 simp (disch := first | omega | (simp only [lnx]; omega)) only [stdh, stdx, ↓reduceIte, seval, pen_Pen_Number, pen_Pen_Number.body]
 refine callK_fn (put_ok _ hl hb hlen _ ?_)
 intro b H1 hm hk
 refine runL_V 60 ?_
 simp (disch := first | omega | (simp only [lnx]; omega)) only [stdh, stdx, ↓reduceIte, seval]
 have := putAll_len ns hb
 refine callK_fn (raw_ok _ (hp.keep hk) hm.nats (mine_nostr hm) (by omega) _ ?_)
 intro a' H' g1 g2 g3
 refine runL_V 60 ?_
 simp (disch := first | omega | (simp only [lnx]; omega)) only [stdh, stdx, ↓reduceIte, seval]
 exact h.keep hk a' H' g1 g2 g3
theorem pfield_ok (hp : PenAt H p a xs room full) (hsm : xs.length ≤ 500000) {b : AVal} {ys : List Nat} (hb : Nats .u8 H b ys) (hs : ∀ s, b ≠ .str s) (hlen : ys.length ≤ 1000) (Q : AVal → AHeap → Prop) (h : Wrote p a H xs room full (putAll [ys.length] ++ ys) Q) :
  FunOK Try.prog F.pen_Pen_Field [.ptr p 0, b] H Q := by
 refine fun_V 60 pen_Pen_Field_code rfl ?_
 simp (disch := first | omega | (simp only [lnx]; omega)) only [stdh, stdx, ↓reduceIte, seval, pen_Pen_Field, pen_Pen_Field.body, hb.len]
 refine callK_fn (put_ok _ (nats_one (k := .u64) (H := H) (el := T.uint64) (n := ys.length)) (by simp; omega) (by simp) _ ?_)
 intro b1 H1 hm hk
 have hk1 : Keeps H H1 := (keeps_append H _).trans hk
 refine runL_V 60 ?_
 simp (disch := first | omega | (simp only [lnx]; omega)) only [stdh, stdx, ↓reduceIte, seval]
 have hpl := putAll_len [ys.length] (by simp; omega)
 simp only [List.length_cons, List.length_nil] at hpl
 obtain ⟨v, H2, q, e1, hq, hm2, hk2⟩ := Mine.append (H := H1) hm (hb.keep hk1) (bytes := 1) hk rfl (by omega) (by omega) hs
 simp (disch := first | omega | (simp only [lnx]; omega)) only [stdh, stdx, ↓reduceIte, seval, e1, hq]
 have hk3 : Keeps H H2 := (keeps_append H _).trans hk2
 refine callK_fn (raw_ok _ (hp.keep hk3) hm2.nats (mine_nostr hm2) (by simp; omega) _ ?_)
 intro a' H' g1 g2 g3
 refine runL_V 60 ?_
 simp (disch := first | omega | (simp only [lnx]; omega)) only [stdh, stdx, ↓reduceIte, seval]
 exact h.keep hk3 a' H' g1 g2 g3
end
end Go.Proofs.Ytgjldipoagkncaa

namespace Go.Proofs.Ytgjldipoagkncaa
open Go Go.Am
abbrev sgnC : Ctx := ⟨F.pen_Pen_Signed, 23, [.tmp 4], none⟩
def inI64 (z : Int) : Prop := -9223372036854775808 ≤ z ∧ z < 9223372036854775808
section
variable {H : AHeap} {p : Nat} {a : AVal} {xs : List Nat} {room : Nat} {full : Bool}
end
end Go.Proofs.Ytgjldipoagkncaa

namespace Go.Proofs.Ytgjldipoagkncaa
open Go Go.Am
theorem getFrom_put : ∀ (n i m : Nat) (rest : List Nat), n ≠ 0 ∨ i = 0 → n < 2 ^ (64 - 7 * i) → i ≤ 9 → getFrom (10 - i) i m (putOne n ++ rest) = (m + n * 2 ^ (7 * i), i + sizeOf n, 0)
 | n, i, m, rest, h0, hn, hi => by
  by_cases h : n < 128
  ·rw [putOne_lt h, sizeOf_lt h, show 10 - i = (9 - i) + 1 by omega, List.singleton_append, getFrom, if_neg (by omega)]
   have hq : n % 128 % 2 ^ (64 - 7 * i) = n := by rw [Nat.mod_eq_of_lt (show n < 128 from h), Nat.mod_eq_of_lt hn]
   rw [hq, if_neg (by omega)]
  ·have hi8 : i ≤ 8 := by
    refine Classical.byContradiction fun hc => ?_
    have : i = 9 := by omega
    subst this
    simp at hn; omega
   have hp : 2 ^ (64 - 7 * i) = 2 ^ (64 - 7 * (i + 1)) * 128 := by rw [show 64 - 7 * i = (64 - 7 * (i + 1)) + 7 by omega, Nat.pow_add]
   rw [putOne_ge h, sizeOf_ge h, show 10 - i = (10 - (i + 1)) + 1 by omega, List.cons_append, getFrom, if_pos (by omega)]
   have hq : (n % 128 + 128) % 128 % 2 ^ (64 - 7 * i) = n % 128 := by
    rw [show (n % 128 + 128) % 128 = n % 128 by omega]
    exact Nat.mod_eq_of_lt (Nat.lt_of_le_of_lt (Nat.mod_le _ _) hn)
   rw [hq, getFrom_put (n / 128) (i + 1) _ rest (.inl (by omega)) (by rw [hp] at hn; omega) (by omega)]
   have hv : m + n % 128 * 2 ^ (7 * i) + n / 128 * 2 ^ (7 * (i + 1)) = m + n * 2 ^ (7 * i) := by
    rw [show 7 * (i + 1) = 7 * i + 7 by omega, Nat.pow_add]
    have h2 : n / 128 * (2 ^ (7 * i) * 2 ^ 7) = (n / 128 * 128) * 2 ^ (7 * i) := by
     rw [Nat.mul_comm (2 ^ (7 * i)), ← Nat.mul_assoc]
    rw [h2, Nat.add_assoc, ← Nat.add_mul]
    congr 2; omega
   rw [hv, show i + 1 + sizeOf (n / 128) = i + (1 + sizeOf (n / 128)) by omega]
 termination_by n => n
theorem get_put (n : Nat) (rest : List Nat) (hn : n < 18446744073709551616) : getSpec (putOne n ++ rest) = (n, sizeOf n, 0) := by
 have := getFrom_put n 0 0 rest (.inr rfl) (by simpa using hn) (by omega)
 simpa [getSpec] using this
abbrev rputC : Ctx := ⟨F.cuneiformref01_Put, 33, [.tmp 2], none⟩
theorem rput_inner (K : List AItem) (H0 : AHeap) (Q : AVal → AHeap → Prop) (l i : AVal) (n : Nat) : ∀ (H : AHeap) (a : AVal) (xs : List Nat), n < 18446744073709551616 → Mine .u8 T.uint8 H0.length H a xs → Keeps H0 H → xs.length + sizeOf n ≤ 1000000 →
  (∀ r' H' a' xs' (n' : Nat), n' < 128 → xs' ++ [n'] = xs ++ putOne n → Mine .u8 T.uint8 H0.length H' a' xs' → Keeps H0 H' → rget r' 3 = a' → rget r' 5 = .int .u64 n' → rget r' 0 = l → rget r' 4 = i → Run Try.prog rputC K r' H' Q) →
  Rounds Try.prog rputC cuneiformref01_Put.b0 [.inBlock 2] K [(0, l), (3, a), (4, i), (5, .int .u64 n)] H Q := by
 induction n using Nat.strongRecOn with
 | _ n ih =>
 intro H a xs h1 hm hk hs h
 refine loop_V 200 cuneiformref01_Put.b0.eq_1 ?_
 by_cases hn : n < 128
 ·simp (disch := omega) only [std, stdx, ↓reduceIte, seval]
  refine h _ H a xs n hn (by rw [putOne_lt hn]) hm hk ?_ ?_ ?_ ?_ <;> simp (disch := omega) only [std, stdx, ↓reduceIte, seval]
 ·have hs' := sizeOf_ge hn
  have e3 : IntKind.u8.wrap (128 + (n : Int).tmod 128) = ((n % 128 + 128 : Nat) : Int) := by rw [Int.tmod_eq_emod_of_nonneg (by omega), wrap_u8']; omega
  have e4 : 0 ≤ (n : Int).tmod 128 ∧ (n : Int).tmod 128 < 128 := by rw [Int.tmod_eq_emod_of_nonneg (by omega)]; omega
  simp (disch := omega) only [std, stdx, ↓reduceIte, seval, e3]
  obtain ⟨v, H', p, e1, hp, hm', hk'⟩ := Mine.append (H := H ++ [_]) (hm.keep ((Keeps.refl H).push _)) (nats_one (k := .u8) (H := H) (el := T.uint8) (n := n % 128 + 128)) (bytes := 1) (hk.push _) rfl (by simp; omega) (by simp; omega) (by simp)
  have e : (n : Int).tdiv 128 = ((n / 128 : Nat) : Int) := by rw [Int.tdiv_eq_ediv_of_nonneg (by omega)]; omega
  simp (disch := omega) only [std, stdx, ↓reduceIte, seval, e1, hp, e, ne_eq, not_false_eq_true, Int.reduceEq]
  refine ih (n / 128) (by omega) H' v _ (by omega) hm' hk' (by simp; omega) ?_
  intro r' H'' a' xs' n' g1 g2
  refine h r' H'' a' xs' n' g1 ?_
  rw [g2, putOne_ge hn]; simp
theorem rput_loop (H0 : AHeap) (K : List AItem) (Q : AVal → AHeap → Prop) {l : AVal} {ns : List Nat} (hl : Nats .u64 H0 l ns) (hb : ∀ n ∈ ns, n < 18446744073709551616) (hlen : ns.length ≤ 1000) :
  ∀ (m i : Nat) (H : AHeap) (a : AVal) (xs : List Nat), ns.length - i = m → i ≤ ns.length → Mine .u8 T.uint8 H0.length H a xs → Keeps H0 H → xs.length ≤ 10 * i →
  (∀ r' H' a', Mine .u8 T.uint8 H0.length H' a' (xs ++ putAll (ns.drop i)) → Keeps H0 H' → rget r' 3 = a' → Run Try.prog rputC K r' H' Q) →
  Rounds Try.prog rputC cuneiformref01_Put.b1 [.inBlock 0] K [(0, l), (3, a), (4, .int .i64 i)] H Q
 | m, i, H, a, xs, h1, h2, hm, hk, hx, h => by
  refine loop_V 200 cuneiformref01_Put.b1.eq_1 ?_
  have hx' := hl.keep hk
  by_cases hi : i < ns.length
  ·have hni : ns.getD i 0 < 18446744073709551616 := by
    rw [List.getD_eq_getElem?_getD]; simp [hi]; exact hb _ (List.getElem_mem hi)
   have hdi : ns.drop i = ns.getD i 0 :: ns.drop (i + 1) := by
    rw [List.drop_eq_getElem_cons hi]; simp [hi]
   have hsz := sizeOf_le10 hni
   simp (disch := omega) only [std, stdx, ↓reduceIte, seval, hx'.len, hx'.isSome, hx'.load]
   refine rput_inner _ H0 Q _ _ _ H a xs hni hm hk (by omega) ?_
   intro r' H' a' xs' n' g1 g2 g3 g4 e1 e2 e3 e4
   refine run_V 100 ?_
   have hu : IntKind.u8.wrap (n' : Int) = (n' : Int) := by rw [wrap_u8']; omega
   have hlx : xs'.length + 1 = xs.length + sizeOf (ns.getD i 0) := by
    have := congrArg List.length g2
    simpa [putOne_length] using this
   simp (disch := omega) only [std, stdx, ↓reduceIte, seval, e1, e2, e3, e4, hu]
   obtain ⟨v, H'', p, q1, hp, hm', hk'⟩ := Mine.append (H := H' ++ [_]) (g3.keep ((Keeps.refl H').push _)) (nats_one (k := .u8) (H := H') (el := T.uint8) (n := n')) (bytes := 1) (g4.push _) rfl (by simp; omega) (by simp; omega) (by simp)
   simp (disch := omega) only [std, stdx, ↓reduceIte, seval, q1, hp, e3, e4]
   refine rput_loop H0 K Q hl hb hlen (ns.length - (i + 1)) (i + 1) H'' v _ rfl (by omega) hm' hk' (by simp; omega) ?_
   intro r'' H3 a3 w1
   refine h r'' H3 a3 ?_
   rw [hdi]
   rw [g2] at w1
   simpa [putAll] using w1
  ·simp (disch := omega) only [std, stdx, ↓reduceIte, seval, hx'.len]
   refine h _ H a ?_ hk ?_
   ·rw [List.drop_eq_nil_of_le (by omega)]; simpa [putAll] using hm
   ·simp (disch := omega) only [std, stdx, ↓reduceIte, seval]
 termination_by m => m
theorem rput_ok (H : AHeap) {l : AVal} {ns : List Nat} (hl : Nats .u64 H l ns) (hb : ∀ n ∈ ns, n < 18446744073709551616) (hlen : ns.length ≤ 1000) (Q : AVal → AHeap → Prop)
  (h : ∀ a H', Mine .u8 T.uint8 H.length H' a (putAll ns) → Keeps H H' → Q a H') : FunOK Try.prog F.cuneiformref01_Put [l] H Q := by
 refine fun_V 100 cuneiformref01_Put_code rfl ?_
 simp (disch := omega) only [std, stdx, ↓reduceIte, seval, cuneiformref01_Put, cuneiformref01_Put.body]
 refine rput_loop H _ Q hl hb hlen _ 0 H .nils [] rfl (by omega) ⟨.inl ⟨rfl, rfl⟩⟩ (Keeps.refl H) (by simp) ?_
 intro r' H' a' g1 g2 g3
 refine run_V 100 ?_
 simp (disch := omega) only [std, stdx, ↓reduceIte, seval, g3]
 exact h a' H' (by simpa using g1) g2
theorem mine_own {k : IntKind} {el : TypeId} {B : Nat} {H : AHeap} {a : AVal} {xs : List Nat} (h : Mine k el B H a xs) : Own 1 el B H a xs.length (xs.map fun n : Nat => AVal.int k (n : Int)) := by
 refine ⟨by simp, ?_⟩
 rcases h.is with ⟨rfl, rfl⟩ | ⟨m, hm, rfl, hb⟩
 ·exact .inl ⟨rfl, rfl⟩
 ·exact .inr ⟨m, hm, rfl, hb⟩
theorem ice_mine {H H' : AHeap} {k : IntKind} {el : TypeId} {a : AVal} {xs : List Nat} {Q : AVal → AHeap → Prop} (hk : Keeps H H') (hm : Mine k el H.length H' a xs) (h : Q (nums k false xs) H) : IceQ H Q a H' :=
 ice_own hk (mine_own hm) (closeds_ints _ _) h
end Go.Proofs.Ytgjldipoagkncaa
