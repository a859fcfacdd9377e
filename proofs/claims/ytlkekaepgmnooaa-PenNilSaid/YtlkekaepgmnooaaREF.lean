/-
  Lemmas on the way to the statements of this seat. By an AI agent. No person has read it.
-/
import Derived.Test.YtlkekaepgmnooaaPEN

namespace Go.Proofs.Ytlkekaepgmnooaa
open Go Go.Am
set_option linter.unusedSimpArgs false
set_option linter.unusedVariables false

abbrev rputC : Ctx := ⟨F.cuneiformref01_Put, 33, [.tmp 2], none⟩

theorem rput_inner (K : List AItem) (H0 : AHeap) (Q : AVal → AHeap → Prop) (l i : AVal) (n : Nat) : ∀ (H : AHeap) (a : AVal) (xs : List Nat), n < 18446744073709551616 → Mine .u8 T.uint8 H0.length H a xs → Keeps H0 H → xs.length + sizeOf n ≤ 1000000 →
    (∀ r' H' a' xs' (n' : Nat), n' < 128 → xs' ++ [n'] = xs ++ putOne n → Mine .u8 T.uint8 H0.length H' a' xs' → Keeps H0 H' → rget r' 3 = a' → rget r' 5 = .int .u64 n' → rget r' 0 = l → rget r' 4 = i → Run Try.prog rputC K r' H' Q) →
    Rounds Try.prog rputC cuneiformref01_Put.b0 [.inBlock 2] K [(0, l), (3, a), (4, i), (5, .int .u64 n)] H Q := by
  induction n using Nat.strongRecOn with
  | _ n ih =>
  intro H a xs h1 hm hk hs h
  refine loop_V 200 cuneiformref01_Put.b0.eq_1 ?_
  by_cases hn : n < 128
  · simp (disch := omega) only [std, goK_s2b, dgoK_s2b, isEff_s2b, isPure_s2b, goK_b2s, dgoK_b2s, isEff_b2s, isPure_b2s, evalOp_s2b, s2bR, ↓reduceIte, Nat.reduceEqDiff, Int.reduceToNat, Int.reducePow, Nat.reduceAdd, Nat.reduceLeDiff, Nat.reduceMul, Nat.reduceBEq, reduceCtorEq]
    refine h _ H a xs n hn (by rw [putOne_lt hn]) hm hk ?_ ?_ ?_ ?_ <;> simp (disch := omega) only [std, goK_s2b, dgoK_s2b, isEff_s2b, isPure_s2b, goK_b2s, dgoK_b2s, isEff_b2s, isPure_b2s, evalOp_s2b, s2bR, ↓reduceIte, Nat.reduceEqDiff, Int.reduceToNat, Int.reducePow, Nat.reduceAdd, Nat.reduceLeDiff, Nat.reduceMul, Nat.reduceBEq, reduceCtorEq]
  · have hs' := sizeOf_ge hn
    have e3 : IntKind.u8.wrap (128 + (n : Int).tmod 128) = ((n % 128 + 128 : Nat) : Int) := by rw [Int.tmod_eq_emod_of_nonneg (by omega), wrap_u8']; omega
    have e4 : 0 ≤ (n : Int).tmod 128 ∧ (n : Int).tmod 128 < 128 := by rw [Int.tmod_eq_emod_of_nonneg (by omega)]; omega
    simp (disch := omega) only [std, goK_s2b, dgoK_s2b, isEff_s2b, isPure_s2b, goK_b2s, dgoK_b2s, isEff_b2s, isPure_b2s, evalOp_s2b, s2bR, ↓reduceIte, Nat.reduceEqDiff, Int.reduceToNat, Int.reducePow, Nat.reduceAdd, Nat.reduceLeDiff, Nat.reduceMul, Nat.reduceBEq, reduceCtorEq, e3]
    obtain ⟨v, H', p, e1, hp, hm', hk'⟩ := Mine.append (H := H ++ [_]) (hm.keep ((Keeps.refl H).push _)) (nats_one (k := .u8) (H := H) (el := T.uint8) (n := n % 128 + 128)) (bytes := 1) (hk.push _) rfl (by simp; omega) (by simp; omega) (by simp)
    have e : (n : Int).tdiv 128 = ((n / 128 : Nat) : Int) := by rw [Int.tdiv_eq_ediv_of_nonneg (by omega)]; omega
    simp (disch := omega) only [std, goK_s2b, dgoK_s2b, isEff_s2b, isPure_s2b, goK_b2s, dgoK_b2s, isEff_b2s, isPure_b2s, evalOp_s2b, s2bR, ↓reduceIte, Nat.reduceEqDiff, Int.reduceToNat, Int.reducePow, Nat.reduceAdd, Nat.reduceLeDiff, Nat.reduceMul, Nat.reduceBEq, reduceCtorEq, e1, hp, e, ne_eq, not_false_eq_true, Int.reduceEq]
    refine ih (n / 128) (by omega) H' v _ (by omega) hm' hk' (by simp; omega) ?_
    intro r' H'' a' xs' n' g1 g2
    refine h r' H'' a' xs' n' g1 ?_
    rw [g2, putOne_ge hn]; simp

theorem rput_loop (H0 : AHeap) (K : List AItem) (Q : AVal → AHeap → Prop) {l : AVal} {ns : List Nat} (hl : Nats .u64 H0 l ns) (hb : ∀ n ∈ ns, n < 18446744073709551616) (hlen : ns.length ≤ 1000) :
    ∀ (m i : Nat) (H : AHeap) (a : AVal) (xs : List Nat), ns.length - i = m → i ≤ ns.length → Mine .u8 T.uint8 H0.length H a xs → Keeps H0 H → xs.length ≤ 10 * i →
    (∀ r' H' a', Mine .u8 T.uint8 H0.length H' a' (xs ++ putAll (ns.drop i)) → Keeps H0 H' → rget r' 3 = a' → Run Try.prog rputC K r' H' Q) →
    Rounds Try.prog rputC cuneiformref01_Put.b1 [.inBlock 0] K [(0, l), (3, a), (4, .int .i64 i)] H Q
  | m, i, H, a, xs, h1, h2, hm, hk, hx, h => by
    refine loop_V 200 cuneiformref01_Put.b1.eq_1 ?_
    have hx' := hl.keep hk
    by_cases hi : i < ns.length
    · have hni : ns.getD i 0 < 18446744073709551616 := by
        rw [List.getD_eq_getElem?_getD]; simp [hi]; exact hb _ (List.getElem_mem hi)
      have hdi : ns.drop i = ns.getD i 0 :: ns.drop (i + 1) := by
        rw [List.drop_eq_getElem_cons hi]; simp [hi]
      have hsz := sizeOf_le10 hni
      simp (disch := omega) only [std, goK_s2b, dgoK_s2b, isEff_s2b, isPure_s2b, goK_b2s, dgoK_b2s, isEff_b2s, isPure_b2s, evalOp_s2b, s2bR, ↓reduceIte, Nat.reduceEqDiff, Int.reduceToNat, Int.reducePow, Nat.reduceAdd, Nat.reduceLeDiff, Nat.reduceMul, Nat.reduceBEq, reduceCtorEq, hx'.len, hx'.isSome, hx'.load]
      refine rput_inner _ H0 Q _ _ _ H a xs hni hm hk (by omega) ?_
      intro r' H' a' xs' n' g1 g2 g3 g4 e1 e2 e3 e4
      refine run_V 100 ?_
      have hu : IntKind.u8.wrap (n' : Int) = (n' : Int) := by rw [wrap_u8']; omega
      have hlx : xs'.length + 1 = xs.length + sizeOf (ns.getD i 0) := by
        have := congrArg List.length g2
        simpa [putOne_length] using this
      simp (disch := omega) only [std, goK_s2b, dgoK_s2b, isEff_s2b, isPure_s2b, goK_b2s, dgoK_b2s, isEff_b2s, isPure_b2s, evalOp_s2b, s2bR, ↓reduceIte, Nat.reduceEqDiff, Int.reduceToNat, Int.reducePow, Nat.reduceAdd, Nat.reduceLeDiff, Nat.reduceMul, Nat.reduceBEq, reduceCtorEq, e1, e2, e3, e4, hu]
      obtain ⟨v, H'', p, q1, hp, hm', hk'⟩ := Mine.append (H := H' ++ [_]) (g3.keep ((Keeps.refl H').push _)) (nats_one (k := .u8) (H := H') (el := T.uint8) (n := n')) (bytes := 1) (g4.push _) rfl (by simp; omega) (by simp; omega) (by simp)
      simp (disch := omega) only [std, goK_s2b, dgoK_s2b, isEff_s2b, isPure_s2b, goK_b2s, dgoK_b2s, isEff_b2s, isPure_b2s, evalOp_s2b, s2bR, ↓reduceIte, Nat.reduceEqDiff, Int.reduceToNat, Int.reducePow, Nat.reduceAdd, Nat.reduceLeDiff, Nat.reduceMul, Nat.reduceBEq, reduceCtorEq, q1, hp, e3, e4]
      refine rput_loop H0 K Q hl hb hlen (ns.length - (i + 1)) (i + 1) H'' v _ rfl (by omega) hm' hk' (by simp; omega) ?_
      intro r'' H3 a3 w1
      refine h r'' H3 a3 ?_
      rw [hdi]
      rw [g2] at w1
      simpa [putAll] using w1
    · simp (disch := omega) only [std, goK_s2b, dgoK_s2b, isEff_s2b, isPure_s2b, goK_b2s, dgoK_b2s, isEff_b2s, isPure_b2s, evalOp_s2b, s2bR, ↓reduceIte, Nat.reduceEqDiff, Int.reduceToNat, Int.reducePow, Nat.reduceAdd, Nat.reduceLeDiff, Nat.reduceMul, Nat.reduceBEq, reduceCtorEq, hx'.len]
      refine h _ H a ?_ hk ?_
      · rw [List.drop_eq_nil_of_le (by omega)]; simpa [putAll] using hm
      · simp (disch := omega) only [std, goK_s2b, dgoK_s2b, isEff_s2b, isPure_s2b, goK_b2s, dgoK_b2s, isEff_b2s, isPure_b2s, evalOp_s2b, s2bR, ↓reduceIte, Nat.reduceEqDiff, Int.reduceToNat, Int.reducePow, Nat.reduceAdd, Nat.reduceLeDiff, Nat.reduceMul, Nat.reduceBEq, reduceCtorEq]
  termination_by m => m

/-- The document's bytes of numbers. -/
theorem rput_ok (H : AHeap) {l : AVal} {ns : List Nat} (hl : Nats .u64 H l ns) (hb : ∀ n ∈ ns, n < 18446744073709551616) (hlen : ns.length ≤ 1000) (Q : AVal → AHeap → Prop)
    (h : ∀ a H', Mine .u8 T.uint8 H.length H' a (putAll ns) → Keeps H H' → Q a H') : FunOK Try.prog F.cuneiformref01_Put [l] H Q := by
  refine fun_V 100 cuneiformref01_Put_code rfl ?_
  simp (disch := omega) only [std, goK_s2b, dgoK_s2b, isEff_s2b, isPure_s2b, goK_b2s, dgoK_b2s, isEff_b2s, isPure_b2s, evalOp_s2b, s2bR, ↓reduceIte, Nat.reduceEqDiff, Int.reduceToNat, Int.reducePow, Nat.reduceAdd, Nat.reduceLeDiff, Nat.reduceMul, Nat.reduceBEq, reduceCtorEq, cuneiformref01_Put, cuneiformref01_Put.body]
  refine rput_loop H _ Q hl hb hlen _ 0 H .nils [] rfl (by omega) ⟨.inl ⟨rfl, rfl⟩⟩ (Keeps.refl H) (by simp) ?_
  intro r' H' a' g1 g2 g3
  refine run_V 100 ?_
  simp (disch := omega) only [std, goK_s2b, dgoK_s2b, isEff_s2b, isPure_s2b, goK_b2s, dgoK_b2s, isEff_b2s, isPure_b2s, evalOp_s2b, s2bR, ↓reduceIte, Nat.reduceEqDiff, Int.reduceToNat, Int.reducePow, Nat.reduceAdd, Nat.reduceLeDiff, Nat.reduceMul, Nat.reduceBEq, reduceCtorEq, g3]
  exact h a' H' (by simpa using g1) g2
end Go.Proofs.Ytlkekaepgmnooaa

namespace Go.Proofs.Ytlkekaepgmnooaa
open Go Go.Am
set_option linter.unusedSimpArgs false
set_option linter.unusedVariables false

theorem mine_own {k : IntKind} {el : TypeId} {B : Nat} {H : AHeap} {a : AVal} {xs : List Nat} (h : Mine k el B H a xs) : Own 1 el B H a xs.length (xs.map fun n : Nat => AVal.int k (n : Int)) := by
  refine ⟨by simp, ?_⟩
  rcases h.is with ⟨rfl, rfl⟩ | ⟨m, hm, rfl, hb⟩
  · exact .inl ⟨rfl, rfl⟩
  · exact .inr ⟨m, hm, rfl, hb⟩

theorem ice_mine {H H' : AHeap} {k : IntKind} {el : TypeId} {a : AVal} {xs : List Nat} {Q : AVal → AHeap → Prop} (hk : Keeps H H') (hm : Mine k el H.length H' a xs) (h : Q (nums k false xs) H) : IceQ H Q a H' :=
  ice_own hk (mine_own hm) (closeds_ints _ _) h

theorem rput_ok' (H : AHeap) {l : AVal} {ns : List Nat} (hl : Nats .u64 H l ns) (hb : ∀ n ∈ ns, n < 18446744073709551616) (hlen : ns.length ≤ 1000) (Q : AVal → AHeap → Prop) (h : Q (nums .u8 false (putAll ns)) H) :
    FunOK Try.prog F.cuneiformref01_Put [l] H Q := by
  refine fun_iced cuneiformref01_Put_code fun _ => rput_ok H hl hb hlen _ ?_
  intro a H' hm hk
  exact ice_mine hk hm h

abbrev rwordC : Ctx := ⟨F.cuneiformref02_Word, 21, [.tmp 4], none⟩

theorem rword_loop (K : List AItem) (Q : AVal → AHeap → Prop) {H0 : AHeap} {n0 k : Nat} (hk4 : k ≤ 4)
    (hQ : ∀ r H a, rget r 5 = a → Mine .u8 T.uint8 H0.length H a (wordBytes n0 k) → Keeps H0 H → Run Try.prog rwordC K r H Q) :
    ∀ (m i n : Nat) (H : AHeap) (a : AVal) (acc : List Nat), k - i = m → i ≤ k → n < 4294967296 → Mine .u8 T.uint8 H0.length H a acc → acc ++ wordBytes n (k - i) = wordBytes n0 k → acc.length = i → Keeps H0 H →
    Rounds Try.prog rwordC cuneiformref02_Word.b0 [.inBlock 0] K [(0, .int .u32 (n : Nat)), (1, .int .i64 (k : Nat)), (5, a), (6, .int .i64 (i : Nat))] H Q := by
  intro m
  induction m using Nat.strongRecOn with
  | _ m ih =>
    intro i n H a acc h1 h2 hn hm he hl hk
    refine loop_V 100 cuneiformref02_Word.b0.eq_1 ?_
    by_cases hi : i < k
    · have e1 : IntKind.u8.wrap ((n : Int).tmod 256) = ((n % 256 : Nat) : Int) := by rw [Int.tmod_eq_emod_of_nonneg (by omega), wrap_u8']; omega
      have e2 : (n : Int).tdiv 256 = ((n / 256 : Nat) : Int) := by rw [Int.tdiv_eq_ediv_of_nonneg (by omega)]; omega
      simp (disch := first | omega | (simp only [List.length_append, List.length_cons, List.length_nil, List.length_set, List.length_map, List.length_take, List.length_drop]; omega)) only [stdh, goK_s2b, dgoK_s2b, isEff_s2b, isPure_s2b, goK_b2s, dgoK_b2s, isEff_b2s, isPure_b2s, evalOp_s2b, s2bR, ↓reduceIte, Nat.reduceEqDiff, Int.reduceToNat, Int.reducePow, Nat.reduceAdd, Nat.reduceLeDiff, Nat.reduceMul, Nat.reduceBEq, reduceCtorEq, e1]
      obtain ⟨v, H2, q, a1, hq, hm2, hk2⟩ := Mine.append (H := H ++ [_]) (hm.keep (keeps_append H [_])) (nats_one (k := .u8) (H := H) (el := T.uint8) (n := n % 256)) (bytes := 1) (hk.trans (keeps_append H _)) rfl (by simp; omega) (by simp; omega) (by simp)
      simp (disch := first | omega | (simp only [List.length_append, List.length_cons, List.length_nil, List.length_set, List.length_map, List.length_take, List.length_drop]; omega)) only [stdh, goK_s2b, dgoK_s2b, isEff_s2b, isPure_s2b, goK_b2s, dgoK_b2s, isEff_b2s, isPure_b2s, evalOp_s2b, s2bR, ↓reduceIte, Nat.reduceEqDiff, Int.reduceToNat, Int.reducePow, Nat.reduceAdd, Nat.reduceLeDiff, Nat.reduceMul, Nat.reduceBEq, reduceCtorEq, a1, hq, e2]
      refine ih (k - (i + 1)) (by omega) (i + 1) (n / 256) H2 v _ rfl (by omega) (by omega) hm2 ?_ (by simp; omega) hk2
      rw [← he, show k - i = (k - (i + 1)) + 1 by omega, wordBytes, List.append_assoc]; rfl
    · simp (disch := first | omega | (simp only [List.length_append, List.length_cons, List.length_nil, List.length_set, List.length_map, List.length_take, List.length_drop]; omega)) only [stdh, goK_s2b, dgoK_s2b, isEff_s2b, isPure_s2b, goK_b2s, dgoK_b2s, isEff_b2s, isPure_b2s, evalOp_s2b, s2bR, ↓reduceIte, Nat.reduceEqDiff, Int.reduceToNat, Int.reducePow, Nat.reduceAdd, Nat.reduceLeDiff, Nat.reduceMul, Nat.reduceBEq, reduceCtorEq]
      have : k - i = 0 := by omega
      rw [this] at he
      simp only [wordBytes, List.append_nil] at he
      subst he
      exact hQ _ _ _ rfl hm hk

theorem rword_ok' (H : AHeap) {n k : Nat} (hn : n < 4294967296) (hk4 : k ≤ 4) (Q : AVal → AHeap → Prop) (h : Q (nums .u8 false (wordBytes n k)) H) : FunOK Try.prog F.cuneiformref02_Word [.int .u32 (n : Nat), .int .i64 (k : Nat)] H Q := by
  refine fun_iced cuneiformref02_Word_code fun _ => ?_
  refine fun_V 60 cuneiformref02_Word_code rfl ?_
  simp (disch := first | omega | (simp only [List.length_append, List.length_cons, List.length_nil, List.length_set, List.length_map, List.length_take, List.length_drop]; omega)) only [stdh, goK_s2b, dgoK_s2b, isEff_s2b, isPure_s2b, goK_b2s, dgoK_b2s, isEff_b2s, isPure_b2s, evalOp_s2b, s2bR, ↓reduceIte, Nat.reduceEqDiff, Int.reduceToNat, Int.reducePow, Nat.reduceAdd, Nat.reduceLeDiff, Nat.reduceMul, Nat.reduceBEq, reduceCtorEq, cuneiformref02_Word, cuneiformref02_Word.body]
  refine rword_loop _ _ (H0 := H) (n0 := n) hk4 ?_ _ 0 n H .nils [] rfl (by omega) hn ⟨.inl ⟨rfl, rfl⟩⟩ rfl rfl (Keeps.refl H)
  intro r H' a f5 hm hk
  refine run_V0 60 ?_
  simp (disch := first | omega | (simp only [List.length_append, List.length_cons, List.length_nil, List.length_set, List.length_map, List.length_take, List.length_drop]; omega)) only [stdh, goK_s2b, dgoK_s2b, isEff_s2b, isPure_s2b, goK_b2s, dgoK_b2s, isEff_b2s, isPure_b2s, evalOp_s2b, s2bR, ↓reduceIte, Nat.reduceEqDiff, Int.reduceToNat, Int.reducePow, Nat.reduceAdd, Nat.reduceLeDiff, Nat.reduceMul, Nat.reduceBEq, reduceCtorEq, f5]
  exact ice_mine hk hm h

abbrev rsgnC : Ctx := ⟨F.cuneiformref02_Signed, 21, [.tmp 2], none⟩

theorem rsigned_loop (K : List AItem) (Q : AVal → AHeap → Prop) {zs : List Int} {t : Bool} (hz : ∀ z ∈ zs, inI64 z) (hlen : zs.length ≤ 1000) {H0 : AHeap}
    (hQ : ∀ r H a, rget r 3 = a → Mine .u64 T.uint64 H0.length H a (zs.map zig) → Keeps H0 H → Run Try.prog rsgnC K r H Q) :
    ∀ (m i : Nat) (H : AHeap) (a : AVal), zs.length - i = m → i ≤ zs.length → Mine .u64 T.uint64 H0.length H a ((zs.take i).map zig) → Keeps H0 H →
    Rounds Try.prog rsgnC cuneiformref02_Signed.b0 [.inBlock 0] K [(0, ints t zs), (3, a), (4, .int .i64 (i : Nat))] H Q := by
  intro m
  induction m using Nat.strongRecOn with
  | _ m ih =>
    intro i H a h1 h2 hm hk
    refine loop_V 100 cuneiformref02_Signed.b0.eq_1 ?_
    by_cases hi : i < zs.length
    · have hzi : inI64 (zs.getD i 0) := by
        rw [List.getD_eq_getElem?_getD]; simp [hi]; exact hz _ (List.getElem_mem hi)
      simp (disch := first | omega | (simp only [List.length_append, List.length_cons, List.length_nil, List.length_set, List.length_map, List.length_take, List.length_drop]; omega)) only [stdh, goK_s2b, dgoK_s2b, isEff_s2b, isPure_s2b, goK_b2s, dgoK_b2s, isEff_b2s, isPure_b2s, evalOp_s2b, s2bR, ↓reduceIte, Nat.reduceEqDiff, Int.reduceToNat, Int.reducePow, Nat.reduceAdd, Nat.reduceLeDiff, Nat.reduceMul, Nat.reduceBEq, reduceCtorEq]
      refine callK_fn (rzig_ok _ _ hzi.1 hzi.2 _ ?_)
      refine runL_V 60 ?_
      simp (disch := first | omega | (simp only [List.length_append, List.length_cons, List.length_nil, List.length_set, List.length_map, List.length_take, List.length_drop]; omega)) only [stdh, goK_s2b, dgoK_s2b, isEff_s2b, isPure_s2b, goK_b2s, dgoK_b2s, isEff_b2s, isPure_b2s, evalOp_s2b, s2bR, ↓reduceIte, Nat.reduceEqDiff, Int.reduceToNat, Int.reducePow, Nat.reduceAdd, Nat.reduceLeDiff, Nat.reduceMul, Nat.reduceBEq, reduceCtorEq]
      obtain ⟨v, H2, q, e1, hq, hm2, hk2⟩ := Mine.append (H := H ++ [_]) (hm.keep (keeps_append H [_])) (nats_one (k := .u64) (H := H) (el := T.uint64) (n := zig (zs.getD i 0))) (bytes := 8) (hk.trans (keeps_append H _)) rfl (by simp; omega) (by simp; omega) (by simp)
      simp (disch := first | omega | (simp only [List.length_append, List.length_cons, List.length_nil, List.length_set, List.length_map, List.length_take, List.length_drop]; omega)) only [stdh, goK_s2b, dgoK_s2b, isEff_s2b, isPure_s2b, goK_b2s, dgoK_b2s, isEff_b2s, isPure_b2s, evalOp_s2b, s2bR, ↓reduceIte, Nat.reduceEqDiff, Int.reduceToNat, Int.reducePow, Nat.reduceAdd, Nat.reduceLeDiff, Nat.reduceMul, Nat.reduceBEq, reduceCtorEq, e1, hq]
      refine ih (zs.length - (i + 1)) (by omega) (i + 1) H2 v rfl (by omega) ?_ hk2
      have : (zs.take (i + 1)).map zig = (zs.take i).map zig ++ [zig (zs.getD i 0)] := by
        rw [List.take_succ_eq_append_getElem hi, List.map_append, List.map_cons, List.map_nil, List.getD_eq_getElem?_getD, List.getElem?_eq_getElem hi, Option.getD_some]
      rw [this]; exact hm2
    · simp (disch := first | omega | (simp only [List.length_append, List.length_cons, List.length_nil, List.length_set, List.length_map, List.length_take, List.length_drop]; omega)) only [stdh, goK_s2b, dgoK_s2b, isEff_s2b, isPure_s2b, goK_b2s, dgoK_b2s, isEff_b2s, isPure_b2s, evalOp_s2b, s2bR, ↓reduceIte, Nat.reduceEqDiff, Int.reduceToNat, Int.reducePow, Nat.reduceAdd, Nat.reduceLeDiff, Nat.reduceMul, Nat.reduceBEq, reduceCtorEq]
      rw [List.take_of_length_le (by omega)] at hm
      exact hQ _ _ _ rfl hm hk

theorem rsigned_ok' (H : AHeap) {zs : List Int} {t : Bool} (hz : ∀ z ∈ zs, inI64 z) (hlen : zs.length ≤ 1000) (Q : AVal → AHeap → Prop) (h : Q (nums .u8 false (putAll (zs.map zig))) H) : FunOK Try.prog F.cuneiformref02_Signed [ints t zs] H Q := by
  refine fun_iced cuneiformref02_Signed_code fun _ => ?_
  refine fun_V 60 cuneiformref02_Signed_code rfl ?_
  simp (disch := first | omega | (simp only [List.length_append, List.length_cons, List.length_nil, List.length_set, List.length_map, List.length_take, List.length_drop]; omega)) only [stdh, goK_s2b, dgoK_s2b, isEff_s2b, isPure_s2b, goK_b2s, dgoK_b2s, isEff_b2s, isPure_b2s, evalOp_s2b, s2bR, ↓reduceIte, Nat.reduceEqDiff, Int.reduceToNat, Int.reducePow, Nat.reduceAdd, Nat.reduceLeDiff, Nat.reduceMul, Nat.reduceBEq, reduceCtorEq, cuneiformref02_Signed, cuneiformref02_Signed.body]
  refine rsigned_loop _ _ hz hlen (H0 := H) ?_ _ 0 H .nils rfl (by omega) ⟨.inl ⟨rfl, rfl⟩⟩ (Keeps.refl H)
  intro r H1 b f3 hm hk
  refine run_V0 60 ?_
  simp (disch := first | omega | (simp only [List.length_append, List.length_cons, List.length_nil, List.length_set, List.length_map, List.length_take, List.length_drop]; omega)) only [stdh, goK_s2b, dgoK_s2b, isEff_s2b, isPure_s2b, goK_b2s, dgoK_b2s, isEff_b2s, isPure_b2s, evalOp_s2b, s2bR, ↓reduceIte, Nat.reduceEqDiff, Int.reduceToNat, Int.reducePow, Nat.reduceAdd, Nat.reduceLeDiff, Nat.reduceMul, Nat.reduceBEq, reduceCtorEq, f3]
  refine callK_fn (rput_ok' _ hm.nats ?_ (by simp; omega) _ ?_)
  · intro n hn
    obtain ⟨z, hz1, rfl⟩ := List.mem_map.1 hn
    exact zig_lt (hz z hz1).1 (hz z hz1).2
  · refine runL_V 60 ?_
    simp (disch := first | omega | (simp only [List.length_append, List.length_cons, List.length_nil, List.length_set, List.length_map, List.length_take, List.length_drop]; omega)) only [stdh, goK_s2b, dgoK_s2b, isEff_s2b, isPure_s2b, goK_b2s, dgoK_b2s, isEff_b2s, isPure_b2s, evalOp_s2b, s2bR, ↓reduceIte, Nat.reduceEqDiff, Int.reduceToNat, Int.reducePow, Nat.reduceAdd, Nat.reduceLeDiff, Nat.reduceMul, Nat.reduceBEq, reduceCtorEq]
    exact ice_keeps hk (closed_nums _ _ _) h
end Go.Proofs.Ytlkekaepgmnooaa

namespace Go.Proofs.Ytlkekaepgmnooaa
open Go Go.Am
set_option linter.unusedSimpArgs false
set_option linter.unusedVariables false

theorem ice_tupagg {H H' : AHeap} {Q : AVal → AHeap → Prop} (l : List (AVal × AVal)) {e : AVal} (he : closed H.length e) (hk : Keeps H H') (hf : ∀ p ∈ l, Fin H H' p.1 p.2) (hq : Q (.tup [.agg (l.map (·.2)), e]) H) : IceQ H Q (.tup [.agg (l.map (·.1)), e]) H' := by
  refine ⟨hk, icesOf H.length l, .tup [.agg (l.map (·.2)), e], ice_many hf, ?_, hq⟩
  have h1 := mv_id (L := H.length) (f := toF H.length [] (icesOf H.length l)) (fun _ h => toF_low h) e he
  simp only [mv, mvs, mvs_map, List.map_map, h1]
  refine Sees.tup (SeesL.cons (Sees.agg ⟨by simp, fun i h1 h2 => ?_⟩) (SeesL.cons (Sees.refl _) SeesL.nil))
  simp only [List.getElem_map, Function.comp]
  exact ice_fin1 hf (List.getElem_mem (by simpa using h1))

theorem rfield_ok' (H : AHeap) {ys : List Nat} (hlen : ys.length ≤ 1000) (Q : AVal → AHeap → Prop) (h : Q (nums .u8 false (putAll [ys.length] ++ ys)) H) : FunOK Try.prog F.cuneiformref02_Field [nums .u8 false ys] H Q := by
  refine fun_iced cuneiformref02_Field_code fun _ => ?_
  refine fun_V 60 cuneiformref02_Field_code rfl ?_
  simp (disch := first | omega | (simp only [List.length_append, List.length_cons, List.length_nil, List.length_set, List.length_map, List.length_take, List.length_drop]; omega)) only [stdh, goK_s2b, dgoK_s2b, isEff_s2b, isPure_s2b, goK_b2s, dgoK_b2s, isEff_b2s, isPure_b2s, evalOp_s2b, s2bR, ↓reduceIte, Nat.reduceEqDiff, Int.reduceToNat, Int.reducePow, Nat.reduceAdd, Nat.reduceLeDiff, Nat.reduceMul, Nat.reduceBEq, reduceCtorEq, cuneiformref02_Field, cuneiformref02_Field.body]
  refine callK_fn (rput_ok _ (nats_one (k := .u64) (H := H) (el := T.uint64) (n := ys.length)) (by simp; omega) (by simp) _ ?_)
  intro b1 H1 hm hk
  refine runL_V 60 ?_
  simp (disch := first | omega | (simp only [List.length_append, List.length_cons, List.length_nil, List.length_set, List.length_map, List.length_take, List.length_drop]; omega)) only [stdh, goK_s2b, dgoK_s2b, isEff_s2b, isPure_s2b, goK_b2s, dgoK_b2s, isEff_b2s, isPure_b2s, evalOp_s2b, s2bR, ↓reduceIte, Nat.reduceEqDiff, Int.reduceToNat, Int.reducePow, Nat.reduceAdd, Nat.reduceLeDiff, Nat.reduceMul, Nat.reduceBEq, reduceCtorEq]
  have hpl := putAll_len [ys.length] (by simp; omega)
  simp only [List.length_cons, List.length_nil] at hpl
  obtain ⟨v, H2, q, e1, hq, hm2, hk2⟩ := Mine.append (H := H1) hm (nums_nats .u8 false ys H1) (bytes := 1) hk rfl (by omega) (by omega) (by simp [nums])
  simp (disch := first | omega | (simp only [List.length_append, List.length_cons, List.length_nil, List.length_set, List.length_map, List.length_take, List.length_drop]; omega)) only [stdh, goK_s2b, dgoK_s2b, isEff_s2b, isPure_s2b, goK_b2s, dgoK_b2s, isEff_b2s, isPure_b2s, evalOp_s2b, s2bR, ↓reduceIte, Nat.reduceEqDiff, Int.reduceToNat, Int.reducePow, Nat.reduceAdd, Nat.reduceLeDiff, Nat.reduceMul, Nat.reduceBEq, reduceCtorEq, e1, hq]
  have hk3 : Keeps H H2 := (keeps_append H _).trans hk2
  have hm3 : Mine .u8 T.uint8 H.length H2 v (putAll [ys.length] ++ ys) := by
    refine ⟨?_⟩
    rcases hm2.is with h | ⟨n, hb, h1, h2⟩
    · exact .inl h
    · exact .inr ⟨n, by simp at hb; omega, h1, h2⟩
  exact ice_mine hk3 hm3 h

theorem word_mod (n : Nat) : wordBytes (n % 256) 1 = wordBytes n 1 ∧ wordBytes (n % 65536) 2 = wordBytes n 2 := by
  constructor
  · simp [wordBytes]
  · simp only [wordBytes]
    rw [show n % 65536 % 256 = n % 256 by omega, show n % 65536 / 256 % 256 = n / 256 % 256 by omega]

theorem bytes_ok (H : AHeap) {x : PAct} (hx : x.ok 20 400) (Q : AVal → AHeap → Prop) (h : Q (nums .u8 false (actBytes x)) H) : FunOK Try.prog F.cuneiformlaw02_bytes [.agg (encAct x)] H Q := by
  refine fun_iced cuneiformlaw02_bytes_code fun _ => ?_
  refine fun_V 100 cuneiformlaw02_bytes_code rfl ?_
  obtain ⟨k, n, l, s, b⟩ := x
  obtain ⟨hn, hl, hs, hb, hll, hsl, hbl⟩ := hx
  simp only [actBytes] at hn hl hs hb hll hsl hbl h
  by_cases k0 : k = 0
  · rw [if_pos k0, (word_mod n).1] at h
    subst k0
    simp (disch := first | omega | (simp only [List.length_append, List.length_cons, List.length_nil, List.length_set, List.length_map, List.length_take, List.length_drop]; omega)) only [stdh, goK_s2b, dgoK_s2b, isEff_s2b, isPure_s2b, goK_b2s, dgoK_b2s, isEff_b2s, isPure_b2s, evalOp_s2b, s2bR, ↓reduceIte, Nat.reduceEqDiff, Int.reduceToNat, Int.reducePow, Nat.reduceAdd, Nat.reduceLeDiff, Nat.reduceMul, Nat.reduceBEq, reduceCtorEq, cuneiformlaw02_bytes, cuneiformlaw02_bytes.body, encAct]
    refine callK_fn (rword_ok' _ hn (k := 1) (by omega) _ ?_)
    refine runL_V 60 ?_
    simp (disch := first | omega | (simp only [List.length_append, List.length_cons, List.length_nil, List.length_set, List.length_map, List.length_take, List.length_drop]; omega)) only [stdh, goK_s2b, dgoK_s2b, isEff_s2b, isPure_s2b, goK_b2s, dgoK_b2s, isEff_b2s, isPure_b2s, evalOp_s2b, s2bR, ↓reduceIte, Nat.reduceEqDiff, Int.reduceToNat, Int.reducePow, Nat.reduceAdd, Nat.reduceLeDiff, Nat.reduceMul, Nat.reduceBEq, reduceCtorEq]
    exact ice_keeps (keeps_append _ _) (closed_nums _ _ _) h
  rw [if_neg k0] at h
  by_cases k1 : k = 1
  · rw [if_pos k1, (word_mod n).2] at h
    subst k1
    simp (disch := first | omega | (simp only [List.length_append, List.length_cons, List.length_nil, List.length_set, List.length_map, List.length_take, List.length_drop]; omega)) only [stdh, goK_s2b, dgoK_s2b, isEff_s2b, isPure_s2b, goK_b2s, dgoK_b2s, isEff_b2s, isPure_b2s, evalOp_s2b, s2bR, ↓reduceIte, Nat.reduceEqDiff, Int.reduceToNat, Int.reducePow, Nat.reduceAdd, Nat.reduceLeDiff, Nat.reduceMul, Nat.reduceBEq, reduceCtorEq, cuneiformlaw02_bytes, cuneiformlaw02_bytes.body, encAct]
    refine callK_fn (rword_ok' _ hn (k := 2) (by omega) _ ?_)
    refine runL_V 60 ?_
    simp (disch := first | omega | (simp only [List.length_append, List.length_cons, List.length_nil, List.length_set, List.length_map, List.length_take, List.length_drop]; omega)) only [stdh, goK_s2b, dgoK_s2b, isEff_s2b, isPure_s2b, goK_b2s, dgoK_b2s, isEff_b2s, isPure_b2s, evalOp_s2b, s2bR, ↓reduceIte, Nat.reduceEqDiff, Int.reduceToNat, Int.reducePow, Nat.reduceAdd, Nat.reduceLeDiff, Nat.reduceMul, Nat.reduceBEq, reduceCtorEq]
    exact ice_keeps (keeps_append _ _) (closed_nums _ _ _) h
  rw [if_neg k1] at h
  by_cases k2 : k = 2
  · rw [if_pos k2] at h
    subst k2
    simp (disch := first | omega | (simp only [List.length_append, List.length_cons, List.length_nil, List.length_set, List.length_map, List.length_take, List.length_drop]; omega)) only [stdh, goK_s2b, dgoK_s2b, isEff_s2b, isPure_s2b, goK_b2s, dgoK_b2s, isEff_b2s, isPure_b2s, evalOp_s2b, s2bR, ↓reduceIte, Nat.reduceEqDiff, Int.reduceToNat, Int.reducePow, Nat.reduceAdd, Nat.reduceLeDiff, Nat.reduceMul, Nat.reduceBEq, reduceCtorEq, cuneiformlaw02_bytes, cuneiformlaw02_bytes.body, encAct]
    refine callK_fn (rword_ok' _ hn (k := 4) (by omega) _ ?_)
    refine runL_V 60 ?_
    simp (disch := first | omega | (simp only [List.length_append, List.length_cons, List.length_nil, List.length_set, List.length_map, List.length_take, List.length_drop]; omega)) only [stdh, goK_s2b, dgoK_s2b, isEff_s2b, isPure_s2b, goK_b2s, dgoK_b2s, isEff_b2s, isPure_b2s, evalOp_s2b, s2bR, ↓reduceIte, Nat.reduceEqDiff, Int.reduceToNat, Int.reducePow, Nat.reduceAdd, Nat.reduceLeDiff, Nat.reduceMul, Nat.reduceBEq, reduceCtorEq]
    exact ice_keeps (keeps_append _ _) (closed_nums _ _ _) h
  rw [if_neg k2] at h
  by_cases k3 : k = 3
  · rw [if_pos k3] at h
    subst k3
    simp (disch := first | omega | (simp only [List.length_append, List.length_cons, List.length_nil, List.length_set, List.length_map, List.length_take, List.length_drop]; omega)) only [stdh, goK_s2b, dgoK_s2b, isEff_s2b, isPure_s2b, goK_b2s, dgoK_b2s, isEff_b2s, isPure_b2s, evalOp_s2b, s2bR, ↓reduceIte, Nat.reduceEqDiff, Int.reduceToNat, Int.reducePow, Nat.reduceAdd, Nat.reduceLeDiff, Nat.reduceMul, Nat.reduceBEq, reduceCtorEq, cuneiformlaw02_bytes, cuneiformlaw02_bytes.body, encAct]
    refine callK_fn (rput_ok' _ (nums_nats _ _ _ _) hl (by omega) _ ?_)
    refine runL_V 60 ?_
    simp (disch := first | omega | (simp only [List.length_append, List.length_cons, List.length_nil, List.length_set, List.length_map, List.length_take, List.length_drop]; omega)) only [stdh, goK_s2b, dgoK_s2b, isEff_s2b, isPure_s2b, goK_b2s, dgoK_b2s, isEff_b2s, isPure_b2s, evalOp_s2b, s2bR, ↓reduceIte, Nat.reduceEqDiff, Int.reduceToNat, Int.reducePow, Nat.reduceAdd, Nat.reduceLeDiff, Nat.reduceMul, Nat.reduceBEq, reduceCtorEq]
    exact ice_keeps (keeps_append _ _) (closed_nums _ _ _) h
  rw [if_neg k3] at h
  by_cases k4 : k = 4
  · rw [if_pos k4] at h
    subst k4
    simp (disch := first | omega | (simp only [List.length_append, List.length_cons, List.length_nil, List.length_set, List.length_map, List.length_take, List.length_drop]; omega)) only [stdh, goK_s2b, dgoK_s2b, isEff_s2b, isPure_s2b, goK_b2s, dgoK_b2s, isEff_b2s, isPure_b2s, evalOp_s2b, s2bR, ↓reduceIte, Nat.reduceEqDiff, Int.reduceToNat, Int.reducePow, Nat.reduceAdd, Nat.reduceLeDiff, Nat.reduceMul, Nat.reduceBEq, reduceCtorEq, cuneiformlaw02_bytes, cuneiformlaw02_bytes.body, encAct]
    refine callK_fn (rsigned_ok' _ hs (by omega) _ ?_)
    refine runL_V 60 ?_
    simp (disch := first | omega | (simp only [List.length_append, List.length_cons, List.length_nil, List.length_set, List.length_map, List.length_take, List.length_drop]; omega)) only [stdh, goK_s2b, dgoK_s2b, isEff_s2b, isPure_s2b, goK_b2s, dgoK_b2s, isEff_b2s, isPure_b2s, evalOp_s2b, s2bR, ↓reduceIte, Nat.reduceEqDiff, Int.reduceToNat, Int.reducePow, Nat.reduceAdd, Nat.reduceLeDiff, Nat.reduceMul, Nat.reduceBEq, reduceCtorEq]
    exact ice_keeps (keeps_append _ _) (closed_nums _ _ _) h
  rw [if_neg k4] at h
  by_cases k5 : k = 5
  · rw [if_pos k5] at h
    subst k5
    simp (disch := first | omega | (simp only [List.length_append, List.length_cons, List.length_nil, List.length_set, List.length_map, List.length_take, List.length_drop]; omega)) only [stdh, goK_s2b, dgoK_s2b, isEff_s2b, isPure_s2b, goK_b2s, dgoK_b2s, isEff_b2s, isPure_b2s, evalOp_s2b, s2bR, ↓reduceIte, Nat.reduceEqDiff, Int.reduceToNat, Int.reducePow, Nat.reduceAdd, Nat.reduceLeDiff, Nat.reduceMul, Nat.reduceBEq, reduceCtorEq, cuneiformlaw02_bytes, cuneiformlaw02_bytes.body, encAct]
    exact ice_keeps (keeps_append _ _) (closed_nums _ _ _) h
  rw [if_neg k5] at h
  simp (disch := first | omega | (simp only [List.length_append, List.length_cons, List.length_nil, List.length_set, List.length_map, List.length_take, List.length_drop]; omega)) only [stdh, goK_s2b, dgoK_s2b, isEff_s2b, isPure_s2b, goK_b2s, dgoK_b2s, isEff_b2s, isPure_b2s, evalOp_s2b, s2bR, ↓reduceIte, Nat.reduceEqDiff, Int.reduceToNat, Int.reducePow, Nat.reduceAdd, Nat.reduceLeDiff, Nat.reduceMul, Nat.reduceBEq, reduceCtorEq, cuneiformlaw02_bytes, cuneiformlaw02_bytes.body, encAct, k0, k1, k2, k3, k4, k5]
  refine callK_fn (rfield_ok' _ (by omega) _ ?_)
  refine runL_V 60 ?_
  simp (disch := first | omega | (simp only [List.length_append, List.length_cons, List.length_nil, List.length_set, List.length_map, List.length_take, List.length_drop]; omega)) only [stdh, goK_s2b, dgoK_s2b, isEff_s2b, isPure_s2b, goK_b2s, dgoK_b2s, isEff_b2s, isPure_b2s, evalOp_s2b, s2bR, ↓reduceIte, Nat.reduceEqDiff, Int.reduceToNat, Int.reducePow, Nat.reduceAdd, Nat.reduceLeDiff, Nat.reduceMul, Nat.reduceBEq, reduceCtorEq]
  exact ice_keeps (keeps_append _ _) (closed_nums _ _ _) h

theorem rraw_ok (H : AHeap) {xs ys : List Nat} {room : Nat} {full : Bool} (hroom : room ≤ 9223372036854775807) (hsm : xs.length + ys.length ≤ 1000000) (Q : AVal → AHeap → Prop)
    (h : Q (.tup [.agg [nums .u8 false (rawXs xs room full ys), .int .i64 (room : Nat), .bool (rawFull xs room full ys)], .int .i64 (rawErr xs room full ys : Nat)]) H) :
    FunOK Try.prog F.cuneiformref02_Raw [.agg [nums .u8 false xs, .int .i64 (room : Nat), .bool full], nums .u8 false ys] H Q := by
  refine fun_iced cuneiformref02_Raw_code fun _ => ?_
  refine fun_V 100 cuneiformref02_Raw_code rfl ?_
  by_cases hc : full = true ∨ room < xs.length + ys.length
  · have e1 : rawXs xs room full ys = xs := by unfold rawXs; rw [if_pos hc]
    have e2 : rawFull xs room full ys = true := by unfold rawFull; rcases hc with hc | hc <;> simp [hc]
    have e3 : rawErr xs room full ys = 2 := by unfold rawErr; rw [if_pos hc]
    rw [e1, e2, e3] at h
    cases full with
    | true =>
      simp (disch := first | omega | (simp only [List.length_append, List.length_cons, List.length_nil, List.length_set, List.length_map, List.length_take, List.length_drop]; omega)) only [stdh, goK_s2b, dgoK_s2b, isEff_s2b, isPure_s2b, goK_b2s, dgoK_b2s, isEff_b2s, isPure_b2s, evalOp_s2b, s2bR, ↓reduceIte, Nat.reduceEqDiff, Int.reduceToNat, Int.reducePow, Nat.reduceAdd, Nat.reduceLeDiff, Nat.reduceMul, Nat.reduceBEq, reduceCtorEq, cuneiformref02_Raw, cuneiformref02_Raw.body]
      exact ice_keeps (keeps_append _ _) ⟨⟨closed_nums _ _ _, trivial, trivial, trivial⟩, trivial, trivial⟩ h
    | false =>
      have hc' : (room : Int) < (xs.length : Nat) + (ys.length : Nat) := by
        rcases hc with hc | hc
        · cases hc
        · omega
      simp (disch := first | omega | (simp only [List.length_append, List.length_cons, List.length_nil, List.length_set, List.length_map, List.length_take, List.length_drop]; omega)) only [stdh, goK_s2b, dgoK_s2b, isEff_s2b, isPure_s2b, goK_b2s, dgoK_b2s, isEff_b2s, isPure_b2s, evalOp_s2b, s2bR, ↓reduceIte, Nat.reduceEqDiff, Int.reduceToNat, Int.reducePow, Nat.reduceAdd, Nat.reduceLeDiff, Nat.reduceMul, Nat.reduceBEq, reduceCtorEq, cuneiformref02_Raw, cuneiformref02_Raw.body, hc']
      exact ice_keeps (keeps_append _ _) ⟨⟨closed_nums _ _ _, trivial, trivial, trivial⟩, trivial, trivial⟩ h
  · have hf : full = false := by cases full <;> simp_all
    subst hf
    have hc' : ¬ room < xs.length + ys.length := fun h => hc (.inr h)
    have e1 : rawXs xs room false ys = xs ++ ys := by unfold rawXs; rw [if_neg hc]
    have e2 : rawFull xs room false ys = false := by unfold rawFull; simp [hc']
    have e3 : rawErr xs room false ys = 0 := by unfold rawErr; rw [if_neg hc]
    rw [e1, e2, e3] at h
    have hc2 : ¬ (room : Int) < (xs.length : Nat) + (ys.length : Nat) := by omega
    simp (disch := first | omega | (simp only [List.length_append, List.length_cons, List.length_nil, List.length_set, List.length_map, List.length_take, List.length_drop]; omega)) only [stdh, goK_s2b, dgoK_s2b, isEff_s2b, isPure_s2b, goK_b2s, dgoK_b2s, isEff_b2s, isPure_b2s, evalOp_s2b, s2bR, ↓reduceIte, Nat.reduceEqDiff, Int.reduceToNat, Int.reducePow, Nat.reduceAdd, Nat.reduceLeDiff, Nat.reduceMul, Nat.reduceBEq, reduceCtorEq, cuneiformref02_Raw, cuneiformref02_Raw.body, hc2]
    have ho : Own 1 T.uint8 (H.length + 2) (H ++ [ABlk.cells [nums IntKind.u8 false xs, AVal.int IntKind.i64 ↑room, AVal.bool false] T.cuneiformref02_P, ABlk.cells [AVal.nils, AVal.int IntKind.i64 0, AVal.bool false] T.cuneiformref02_P, ABlk.vec [] T.uint8 1]) (.slc (H.length + 2) 0 0 1) 0 [] :=
      ⟨rfl, .inr ⟨H.length + 2, Nat.le_refl _, rfl, at_k⟩⟩
    refine resK_append (k := xs.length) (ys := u8s xs) ho (by simp) rfl rfl (by simp [u8s]) (by omega) (by omega) (by omega) (by simp [u8s, AVal.cellish]) fun v H2 ov ht hn => ?_
    simp (disch := first | omega | (simp only [List.length_append, List.length_cons, List.length_nil, List.length_set, List.length_map, List.length_take, List.length_drop]; omega)) only [stdh, goK_s2b, dgoK_s2b, isEff_s2b, isPure_s2b, goK_b2s, dgoK_b2s, isEff_b2s, isPure_b2s, evalOp_s2b, s2bR, ↓reduceIte, Nat.reduceEqDiff, Int.reduceToNat, Int.reducePow, Nat.reduceAdd, Nat.reduceLeDiff, Nat.reduceMul, Nat.reduceBEq, reduceCtorEq]
    have hle2 := ht.le
    simp only [List.length_append, List.length_cons, List.length_nil] at hle2
    refine resK_append (k := ys.length) (ys := u8s ys) ov (by omega) rfl rfl (by simp [u8s]) (by omega) (by omega) (by omega) (by simp [u8s, AVal.cellish]) fun w H3 ow ht3 hn3 => ?_
    have hle3 := ht3.le
    have c0 : H3[H.length]? = some (.cells [nums .u8 false xs, .int .i64 (room : Nat), .bool false] T.cuneiformref02_P) := by
      rw [ht3.kept _ (by omega) (fun hm => by have := (ov.lt _ hm).1; omega), ht.kept _ (by simp) (by simp [AVal.names])]; exact at_0
    have c1 : H3[H.length + 1]? = some (.cells [.nils, .int .i64 0, .bool false] T.cuneiformref02_P) := by
      rw [ht3.kept _ (by omega) (fun hm => by have := (ov.lt _ hm).1; omega), ht.kept _ (by simp) (by simp [AVal.names])]; exact at_k
    have ck : ∀ m, m < H.length → H3[m]? = H[m]? := fun m hm => by
      rw [ht3.kept _ (by omega) (fun h => by have := (ov.lt _ h).1; omega), ht.kept _ (by simp; omega) (by simp [AVal.names]; omega)]; exact at_low hm
    have hcw := ow.cell
    have e : ([] ++ u8s xs) ++ u8s ys = u8s (xs ++ ys) := by simp [u8s]
    rw [e] at ow
    simp (disch := first | omega | (simp only [List.length_append, List.length_cons, List.length_nil, List.length_set, List.length_map, List.length_take, List.length_drop]; omega)) only [stdh, goK_s2b, dgoK_s2b, isEff_s2b, isPure_s2b, goK_b2s, dgoK_b2s, isEff_b2s, isPure_b2s, evalOp_s2b, s2bR, ↓reduceIte, Nat.reduceEqDiff, Int.reduceToNat, Int.reducePow, Nat.reduceAdd, Nat.reduceLeDiff, Nat.reduceMul, Nat.reduceBEq, reduceCtorEq, c0, c1, hcw.1, hcw.2, List.getElem?_set_self, List.getElem?_set_ne]
    have hkk : ∀ (X Y : ABlk), Keeps H ((H3.set H.length X).set (H.length + 1) Y) := fun X Y => ⟨by simp; omega, fun m hm => by rw [List.getElem?_set_ne (by omega), List.getElem?_set_ne (by omega)]; exact ck m hm⟩
    have oww : ∀ (X Y : ABlk), Own 1 T.uint8 H.length ((H3.set H.length X).set (H.length + 1) Y) w (xs ++ ys).length (u8s (xs ++ ys)) := fun X Y => by
      refine ⟨by simp [u8s], ?_⟩
      rcases ow.is with ⟨h1, h2⟩ | ⟨m, hb, h1, h2⟩
      · exact .inl ⟨h1, by rw [List.length_append]; omega⟩
      · refine .inr ⟨m, by omega, by rw [h1, List.length_append, Nat.zero_add], ?_⟩
        rw [List.getElem?_set_ne (by omega), List.getElem?_set_ne (by omega)]; exact h2
    refine ice_tupagg [(w, nums .u8 false (xs ++ ys)), (.int .i64 (room : Nat), .int .i64 (room : Nat)), (.bool false, .bool false)] trivial (hkk _ _) ?_ h
    intro p hp
    simp only [List.mem_cons, List.not_mem_nil, or_false] at hp
    rcases hp with rfl | rfl | rfl
    · exact Fin.own (oww _ _) (closeds_ints _ _)
    · exact Fin.same trivial
    · exact Fin.same trivial
end Go.Proofs.Ytlkekaepgmnooaa
