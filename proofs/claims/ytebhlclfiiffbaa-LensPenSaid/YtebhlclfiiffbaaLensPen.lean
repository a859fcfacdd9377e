/-
  LensPenSaid: whatever the numbers, the lists and the bytes, the law LensPen returns true. No condition. By an AI agent. No person has read it.
-/
import Derived.Test.YtebhlclfiiffbaaPEN
import Derived.Test.YtebhlclfiiffbaaAm6
import Derived.OpenShut
import Derived.Test.YtebhlclfiiffbaaRows

namespace Go.Proofs.Ytebhlclfiiffbaa
open Go Go.Am
set_option linter.unusedSimpArgs false
set_option linter.unusedVariables false

/-- Bytes that numbers were put into begin with the first of them. -/
theorem getFrom_put : ∀ (n i m : Nat) (rest : List Nat), n ≠ 0 ∨ i = 0 → n < 2 ^ (64 - 7 * i) → i ≤ 9 → getFrom (10 - i) i m (putOne n ++ rest) = (m + n * 2 ^ (7 * i), i + sizeOf n, 0)
  | n, i, m, rest, h0, hn, hi => by
    by_cases h : n < 128
    · rw [putOne_lt h, sizeOf_lt h, show 10 - i = (9 - i) + 1 by omega, List.singleton_append, getFrom, if_neg (by omega)]
      have hq : n % 128 % 2 ^ (64 - 7 * i) = n := by rw [Nat.mod_eq_of_lt (show n < 128 from h), Nat.mod_eq_of_lt hn]
      rw [hq, if_neg (by omega)]
    · have hi8 : i ≤ 8 := by
        refine Classical.byContradiction fun hc => ?_
        have : i = 9 := by omega
        subst this
        simp at hn; omega
      have hp : 2 ^ (64 - 7 * i) = 2 ^ (64 - 7 * (i + 1)) * 128 := by rw [show 64 - 7 * i = (64 - 7 * (i + 1)) + 7 by omega, Nat.pow_add]
      rw [putOne_ge h, sizeOf_ge h, show 10 - i = (10 - (i + 1)) + 1 by omega, List.cons_append, getFrom, if_pos (by omega)]
      have hq : (n % 128 + 128) % 128 % 2 ^ (64 - 7 * i) = n % 128 := by
        rw [show (n % 128 + 128) % 128 = n % 128 by omega]
        exact Nat.mod_eq_of_lt (Nat.lt_of_le_of_lt (Nat.mod_le _ _) hn)
      rw [hq, getFrom_put (n / 128) (i + 1) _ rest (.inl (by omega)) (by rw [hp] at hn; omega) (by omega)]
      have hv : m + n % 128 * 2 ^ (7 * i) + n / 128 * 2 ^ (7 * (i + 1)) = m + n * 2 ^ (7 * i) := by
        rw [show 7 * (i + 1) = 7 * i + 7 by omega, Nat.pow_add]
        have h2 : n / 128 * (2 ^ (7 * i) * 2 ^ 7) = (n / 128 * 128) * 2 ^ (7 * i) := by
          rw [Nat.mul_comm (2 ^ (7 * i)), ← Nat.mul_assoc]
        rw [h2, Nat.add_assoc, ← Nat.add_mul]
        congr 2; omega
      rw [hv, show i + 1 + sizeOf (n / 128) = i + (1 + sizeOf (n / 128)) by omega]
  termination_by n => n

theorem get_put (n : Nat) (rest : List Nat) (hn : n < 18446744073709551616) : getSpec (putOne n ++ rest) = (n, sizeOf n, 0) := by
  have := getFrom_put n 0 0 rest (.inr rfl) (by simpa using hn) (by omega)
  simpa [getSpec] using this


theorem ints_fits {a : AVal} (h : Fits (.slice (.int .i64)) [a]) : ∃ zs : List Int, Sees a (ints false zs) ∧ (∀ z ∈ zs, inI64 z) ∧ zs.length ≤ 9223372036854775807 := by
  rcases h with h | ⟨gs, t, hg, h, hl⟩
  · cases h
    exact ⟨[], Sees.nils false, by simp, by simp⟩
  · cases h
    have : ∃ zs : List Int, gs = zs.map (fun z => [AVal.int .i64 z]) ∧ ∀ z ∈ zs, inI64 z := by
      clear hl
      induction gs with
      | nil => exact ⟨[], rfl, by simp⟩
      | cons g gs ih =>
        obtain ⟨zs, rfl, hz⟩ := ih fun x hx => hg x (by simp [hx])
        obtain ⟨z, rfl, hw⟩ := hg g (by simp)
        have hb := bounds_i64 hw
        refine ⟨z :: zs, rfl, fun y hy => ?_⟩
        rcases List.mem_cons.1 hy with rfl | hy
        · exact ⟨by omega, by omega⟩
        · exact hz y hy
    obtain ⟨zs, rfl, hz⟩ := this
    refine ⟨zs, ?_, hz, by simpa using hl⟩
    have e : (zs.map fun z => [AVal.int .i64 z]).flatten = zs.map fun z : Int => AVal.int .i64 z := by
      clear hl hg hz
      induction zs with
      | nil => rfl
      | cons z zs ih => simp only [List.map_cons, List.flatten_cons, ih]; rfl
    rw [e]
    have : ints false zs = .imm (zs.map fun z : Int => AVal.int .i64 z) (zs.map fun z => [AVal.int .i64 z]).length false := by simp [ints]
    rw [this]
    exact Sees.loose _ _ _


/-! ### What was written is read -/

theorem leval_word (n : Nat) : ∀ k, leval (wordBytes n k) = n % 256 ^ k := by
  intro k
  induction k generalizing n with
  | zero => simp [wordBytes, leval, Nat.mod_one]
  | succ k ih =>
    rw [wordBytes, leval, ih, Nat.pow_succ, Nat.mul_comm (256 ^ k) 256, Nat.mod_mul]

theorem word_byte (n : Nat) : ∀ k, ∀ b ∈ wordBytes n k, b < 256 := by
  intro k
  induction k generalizing n with
  | zero => intro b hb; cases hb
  | succ k ih =>
    intro b hb
    rcases List.mem_cons.1 hb with rfl | hb
    · omega
    · exact ih _ b hb

theorem drop_next {ys enc rest : List Nat} {a k : Nat} (h : ys.drop a = enc ++ rest) (hk : enc.length = k) : ys.drop (a + k) = rest := by
  rw [← List.drop_drop, h, ← hk, List.drop_left]
theorem drop_le {ys enc rest : List Nat} {a k : Nat} (h : ys.drop a = enc ++ rest) (hk : enc.length = k) (ha : a ≤ ys.length) : a + k ≤ ys.length := by
  have : (ys.drop a).length = (enc ++ rest).length := by rw [h]
  rw [List.length_drop, List.length_append] at this
  omega

theorem read_word {ys rest : List Nat} {a n s : Nat} (hn : n < 256 ^ s) (h : ys.drop a = wordBytes n s ++ rest) : lensR 0 ys a 0 (wordSpec s) = (n, a + s, 0) := by
  refine lensR_ok ?_
  have hl := wordBytes_len n s
  rw [h, wordSpec, if_neg (by rw [List.length_append]; omega), List.take_left' hl, leval_word, Nat.mod_eq_of_lt hn]
theorem read_num {ys rest : List Nat} {a n most : Nat} (hn : n < 18446744073709551616) (hm : n ≤ most) (h : ys.drop a = putOne n ++ rest) : lensR 0 ys a 0 (numSpec most) = (n, a + sizeOf n, 0) := by
  refine lensR_ok ?_
  rw [h, numSpec, get_put n rest hn, if_neg (by simp), if_neg (by omega)]
theorem read_sgn {ys rest : List Nat} {a : Nat} {s : Int} (hs : inI64 s) (h : ys.drop a = putOne (zig s) ++ rest) : lensR 0 ys a 0 (sgnSpec s s) = (s, a + sizeOf (zig s), 0) := by
  refine lensR_ok ?_
  rw [h, sgnSpec, get_put _ rest (zig_lt hs.1 hs.2), if_neg (by simp), zag_zig, if_neg (by omega)]
theorem read_field {ys rest f : List Nat} {a : Nat} (hf : f.length ≤ 1000) (h : ys.drop a = putOne f.length ++ (f ++ rest)) : lensR [] ys a 0 (fieldSpec (f.length : Nat)) = (f, a + (sizeOf f.length + f.length), 0) := by
  refine lensR_ok ?_
  rw [h, fieldSpec, get_put _ _ (by omega), if_neg (by simp), if_neg (by rw [Int.toNat_natCast]; omega), if_neg (by rw [List.length_append, List.length_append, putOne_length]; dsimp only; omega)]
  dsimp only
  rw [List.drop_left' (putOne_length _), List.take_left]
theorem read_raw {ys rest f : List Nat} {a : Nat} (h : ys.drop a = f ++ rest) : lensR [] ys a 0 (rawSpec (f.length : Nat)) = (f, a + f.length, 0) := by
  refine lensR_ok ?_
  rw [h, rawSpec, if_neg (by omega), Int.toNat_natCast, if_neg (by rw [List.length_append]; omega), List.take_left]
end Go.Proofs.Ytebhlclfiiffbaa

namespace Go.Proofs.Ytebhlclfiiffbaa
open Go Go.Am
set_option linter.unusedSimpArgs false
set_option linter.unusedVariables false

abbrev lpC : Ctx := ⟨F.cuneiformlaw03_LensPen, 141, [.tmp 12], none⟩

theorem lp_nums (K : List AItem) (Q : AVal → AHeap → Prop) {p : Nat} {ys rest : List Nat} (hb : ∀ b ∈ ys, b < 256) (hlen : ys.length ≤ 1000) {t : Bool} {ns : List Nat} (hn : ∀ n ∈ ns, n < 18446744073709551616) (v1 v2 v4 v5 : AVal)
    (hK : ∀ H' r' a', H'[p]? = some (lensB ys a' 0) → a' ≤ ys.length → ys.drop a' = rest → rget r' 1 = v1 → rget r' 2 = v2 → rget r' 4 = v4 → rget r' 5 = v5 → rget r' 14 = .ptr p 0 → Run Try.prog lpC K r' H' Q) :
    ∀ (m i a : Nat) (H : AHeap), ns.length - i = m → i ≤ ns.length → H[p]? = some (lensB ys a 0) → a ≤ ys.length → ys.drop a = putAll (ns.drop i) ++ rest → ns.length ≤ 1000 →
    Rounds Try.prog lpC cuneiformlaw03_LensPen.b2 [.inBlock 0] K [(1, v1), (2, v2), (3, nums .u64 t ns), (4, v4), (5, v5), (14, .ptr p 0), (15, .int .i64 (i : Nat))] H Q
  | m, i, a, H, h1, h2, hp, ha, hd, hnl => by
    have hpl := (List.getElem?_eq_some_iff.1 hp).1
    refine loop_V 100 cuneiformlaw03_LensPen.b2.eq_1 ?_
    by_cases hi : i < ns.length
    · have hx : ns.getD i 0 < 18446744073709551616 := by
        rw [List.getD_eq_getElem?_getD]; simp [hi]; exact hn _ (List.getElem_mem hi)
      have hdi : ns.drop i = ns.getD i 0 :: ns.drop (i + 1) := by
        rw [List.drop_eq_getElem_cons hi]; simp [hi]
      have hld : ∀ H, loadA H none (.sptr (nums .u64 t ns) i) = some (True, .int .u64 ((ns.getD i 0 : Nat) : Int)) := fun H => load_nums hi
      rw [hdi] at hd
      generalize ns.getD i 0 = x at *
      have hd' : ys.drop a = putOne x ++ (putAll (ns.drop (i + 1)) ++ rest) := by rw [hd]; simp [putAll]
      have hr := read_num hx (Nat.le_refl x) hd'
      have hdn := drop_next hd' (putOne_length x)
      have hdl := drop_le hd' (putOne_length x) ha
      simp (disch := first | omega | (simp only [List.length_append, List.length_cons, List.length_nil, List.length_set, List.length_map, List.length_take, List.length_drop]; omega)) only [stdh, goK_s2b, dgoK_s2b, isEff_s2b, isPure_s2b, goK_b2s, dgoK_b2s, isEff_b2s, isPure_b2s, evalOp_s2b, s2bR, goK_mark, dgoK_mark, isEff_mark, isPure_mark, evalOp_mark, markA_slc, markB, ↓reduceIte, Nat.reduceEqDiff, Int.reduceToNat, Int.reducePow, Nat.reduceAdd, Nat.reduceLeDiff, Nat.reduceMul, Nat.reduceBEq, reduceCtorEq, cuneiformlaw03_LensPen.d1, hld]
      refine callD_fn (lnum_ok _ hx hp ha hb (by omega) _ ?_)
      rw [hr]
      refine ⟨by simp (disch := first | omega | (simp only [List.length_append, List.length_cons, List.length_nil, List.length_set, List.length_map, List.length_take, List.length_drop]; omega)) only [stdh, goK_s2b, dgoK_s2b, isEff_s2b, isPure_s2b, goK_b2s, dgoK_b2s, isEff_b2s, isPure_b2s, evalOp_s2b, s2bR, goK_mark, dgoK_mark, isEff_mark, isPure_mark, evalOp_mark, markA_slc, markB, ↓reduceIte, Nat.reduceEqDiff, Int.reduceToNat, Int.reducePow, Nat.reduceAdd, Nat.reduceLeDiff, Nat.reduceMul, Nat.reduceBEq, reduceCtorEq, hld], ?_⟩
      refine runD_V 60 ?_
      simp (disch := first | omega | (simp only [List.length_append, List.length_cons, List.length_nil, List.length_set, List.length_map, List.length_take, List.length_drop]; omega)) only [stdh, goK_s2b, dgoK_s2b, isEff_s2b, isPure_s2b, goK_b2s, dgoK_b2s, isEff_b2s, isPure_b2s, evalOp_s2b, s2bR, goK_mark, dgoK_mark, isEff_mark, isPure_mark, evalOp_mark, markA_slc, markB, ↓reduceIte, Nat.reduceEqDiff, Int.reduceToNat, Int.reducePow, Nat.reduceAdd, Nat.reduceLeDiff, Nat.reduceMul, Nat.reduceBEq, reduceCtorEq, hld]
      rw [show (i : Int) + 1 = ((i + 1 : Nat) : Int) by omega]
      exact lp_nums K Q hb hlen hn v1 v2 v4 v5 hK _ (i + 1) (a + sizeOf x) _ rfl (by omega) (by rw [List.getElem?_set_self hpl]) hdl hdn hnl
    · have : i = ns.length := by omega
      subst this
      rw [List.drop_length] at hd
      simp (disch := first | omega | (simp only [List.length_append, List.length_cons, List.length_nil, List.length_set, List.length_map, List.length_take, List.length_drop]; omega)) only [stdh, goK_s2b, dgoK_s2b, isEff_s2b, isPure_s2b, goK_b2s, dgoK_b2s, isEff_b2s, isPure_b2s, evalOp_s2b, s2bR, goK_mark, dgoK_mark, isEff_mark, isPure_mark, evalOp_mark, markA_slc, markB, ↓reduceIte, Nat.reduceEqDiff, Int.reduceToNat, Int.reducePow, Nat.reduceAdd, Nat.reduceLeDiff, Nat.reduceMul, Nat.reduceBEq, reduceCtorEq]
      exact hK _ _ a hp ha (by simpa [putAll] using hd) rfl rfl rfl rfl rfl
  termination_by m => m

theorem lp_sgns (K : List AItem) (Q : AVal → AHeap → Prop) {p : Nat} {ys rest : List Nat} (hb : ∀ b ∈ ys, b < 256) (hlen : ys.length ≤ 1000) {t : Bool} {ss : List Int} (hs : ∀ s ∈ ss, inI64 s) (v2 v5 : AVal)
    (hK : ∀ H' r' a', H'[p]? = some (lensB ys a' 0) → a' ≤ ys.length → ys.drop a' = rest → rget r' 2 = v2 → rget r' 5 = v5 → rget r' 14 = .ptr p 0 → Run Try.prog lpC K r' H' Q) :
    ∀ (m i a : Nat) (H : AHeap), ss.length - i = m → i ≤ ss.length → H[p]? = some (lensB ys a 0) → a ≤ ys.length → ys.drop a = putAll ((ss.drop i).map zig) ++ rest → ss.length ≤ 1000 →
    Rounds Try.prog lpC cuneiformlaw03_LensPen.b4 [.inBlock 2] K [(2, v2), (4, ints t ss), (5, v5), (14, .ptr p 0), (16, .int .i64 (i : Nat))] H Q
  | m, i, a, H, h1, h2, hp, ha, hd, hnl => by
    have hpl := (List.getElem?_eq_some_iff.1 hp).1
    refine loop_V 100 cuneiformlaw03_LensPen.b4.eq_1 ?_
    by_cases hi : i < ss.length
    · have hx : inI64 (ss.getD i 0) := by
        rw [List.getD_eq_getElem?_getD]; simp [hi]; exact hs _ (List.getElem_mem hi)
      have hdi : ss.drop i = ss.getD i 0 :: ss.drop (i + 1) := by
        rw [List.drop_eq_getElem_cons hi]; simp [hi]
      have hld : ∀ H, loadA H none (.sptr (ints t ss) i) = some (True, .int .i64 (ss.getD i 0)) := fun H => load_ints hi
      rw [hdi] at hd
      generalize ss.getD i 0 = x at *
      have hd' : ys.drop a = putOne (zig x) ++ (putAll ((ss.drop (i + 1)).map zig) ++ rest) := by rw [hd]; simp [putAll]
      have hr := read_sgn hx hd'
      have hdn := drop_next hd' (putOne_length _)
      have hdl := drop_le hd' (putOne_length _) ha
      simp (disch := first | omega | (simp only [List.length_append, List.length_cons, List.length_nil, List.length_set, List.length_map, List.length_take, List.length_drop]; omega)) only [stdh, goK_s2b, dgoK_s2b, isEff_s2b, isPure_s2b, goK_b2s, dgoK_b2s, isEff_b2s, isPure_b2s, evalOp_s2b, s2bR, goK_mark, dgoK_mark, isEff_mark, isPure_mark, evalOp_mark, markA_slc, markB, ↓reduceIte, Nat.reduceEqDiff, Int.reduceToNat, Int.reducePow, Nat.reduceAdd, Nat.reduceLeDiff, Nat.reduceMul, Nat.reduceBEq, reduceCtorEq, cuneiformlaw03_LensPen.d3, hld]
      refine callD_fn (lsgn_ok _ hp ha hb (by omega) _ ?_)
      rw [hr]
      refine ⟨by simp (disch := first | omega | (simp only [List.length_append, List.length_cons, List.length_nil, List.length_set, List.length_map, List.length_take, List.length_drop]; omega)) only [stdh, goK_s2b, dgoK_s2b, isEff_s2b, isPure_s2b, goK_b2s, dgoK_b2s, isEff_b2s, isPure_b2s, evalOp_s2b, s2bR, goK_mark, dgoK_mark, isEff_mark, isPure_mark, evalOp_mark, markA_slc, markB, ↓reduceIte, Nat.reduceEqDiff, Int.reduceToNat, Int.reducePow, Nat.reduceAdd, Nat.reduceLeDiff, Nat.reduceMul, Nat.reduceBEq, reduceCtorEq, hld], ?_⟩
      refine runD_V 60 ?_
      simp (disch := first | omega | (simp only [List.length_append, List.length_cons, List.length_nil, List.length_set, List.length_map, List.length_take, List.length_drop]; omega)) only [stdh, goK_s2b, dgoK_s2b, isEff_s2b, isPure_s2b, goK_b2s, dgoK_b2s, isEff_b2s, isPure_b2s, evalOp_s2b, s2bR, goK_mark, dgoK_mark, isEff_mark, isPure_mark, evalOp_mark, markA_slc, markB, ↓reduceIte, Nat.reduceEqDiff, Int.reduceToNat, Int.reducePow, Nat.reduceAdd, Nat.reduceLeDiff, Nat.reduceMul, Nat.reduceBEq, reduceCtorEq, hld]
      rw [show (i : Int) + 1 = ((i + 1 : Nat) : Int) by omega]
      exact lp_sgns K Q hb hlen hs v2 v5 hK _ (i + 1) (a + sizeOf (zig x)) _ rfl (by omega) (by rw [List.getElem?_set_self hpl]) hdl hdn hnl
    · have : i = ss.length := by omega
      subst this
      rw [List.drop_length] at hd
      simp (disch := first | omega | (simp only [List.length_append, List.length_cons, List.length_nil, List.length_set, List.length_map, List.length_take, List.length_drop]; omega)) only [stdh, goK_s2b, dgoK_s2b, isEff_s2b, isPure_s2b, goK_b2s, dgoK_b2s, isEff_b2s, isPure_b2s, evalOp_s2b, s2bR, goK_mark, dgoK_mark, isEff_mark, isPure_mark, evalOp_mark, markA_slc, markB, ↓reduceIte, Nat.reduceEqDiff, Int.reduceToNat, Int.reducePow, Nat.reduceAdd, Nat.reduceLeDiff, Nat.reduceMul, Nat.reduceBEq, reduceCtorEq]
      exact hK _ _ a hp ha (by simpa [putAll] using hd) rfl rfl rfl
  termination_by m => m

theorem wrote_fit {p : Nat} {a : AVal} {H : AHeap} {xs ys : List Nat} {room : Nat} {Q : AVal → AHeap → Prop} (hfit : xs.length + ys.length ≤ room) (h : ∀ a' H', PenAt H' p a' (xs ++ ys) room false → Q (.int .i64 0) H') : Wrote p a H xs room false ys Q := by
  intro a' H' g1 _ _
  have e1 : rawXs xs room false ys = xs ++ ys := by unfold rawXs; rw [if_neg (by simp; omega)]
  have e2 : rawFull xs room false ys = false := by unfold rawFull; simp; omega
  have e3 : rawErr xs room false ys = 0 := by unfold rawErr; rw [if_neg (by simp; omega)]
  rw [e1, e2] at g1
  rw [e3]
  exact h a' H' g1

theorem praw_ok (H : AHeap) {p : Nat} {a : AVal} {xs : List Nat} {room : Nat} {full : Bool} (hp : PenAt H p a xs room full) {b : AVal} {ys : List Nat} (hb : Nats .u8 H b ys) (hs : ∀ s, b ≠ .str s) (hsm : xs.length + ys.length ≤ 1000000) (Q : AVal → AHeap → Prop)
    (h : Wrote p a H xs room full ys Q) : FunOK Try.prog F.pen_Pen_Raw [.ptr p 0, b] H Q := raw_ok H hp hb hs hsm Q h

theorem lenspen_ok {a b c : Nat} (ha : a < 256) (hb : b < 65536) (hc : c < 4294967296) {l : List Nat} (hl : ∀ n ∈ l, n < 18446744073709551616) {s : List Int} (hs : ∀ z ∈ s, inI64 z) {f : List Nat} (hf : ∀ x ∈ f, x < 256) :
    FunOK Try.prog F.cuneiformlaw03_LensPen [.int .u8 (a : Nat), .int .u16 (b : Nat), .int .u32 (c : Nat), nums .u64 false l, ints false s, nums .u8 false f] [] fun av _ => av = .bool true := by
  refine fun_V 100 cuneiformlaw03_LensPen_code rfl ?_
  have min20 : ∀ n : Nat, (if 20 < (n : Int) then 20 else (n : Int)) = ((min n 20 : Nat) : Int) := fun n => by split <;> omega
  have min100 : ∀ n : Nat, (if 100 < (n : Int) then 100 else (n : Int)) = ((min n 100 : Nat) : Int) := fun n => by split <;> omega
  simp (disch := first | omega | (simp only [List.length_append, List.length_cons, List.length_nil, List.length_set, List.length_map, List.length_take, List.length_drop]; omega)) only [stdh, goK_s2b, dgoK_s2b, isEff_s2b, isPure_s2b, goK_b2s, dgoK_b2s, isEff_b2s, isPure_b2s, evalOp_s2b, s2bR, goK_mark, dgoK_mark, isEff_mark, isPure_mark, evalOp_mark, markA_slc, markB, ↓reduceIte, Nat.reduceEqDiff, Int.reduceToNat, Int.reducePow, Nat.reduceAdd, Nat.reduceLeDiff, Nat.reduceMul, Nat.reduceBEq, reduceCtorEq, cuneiformlaw03_LensPen, cuneiformlaw03_LensPen.body, cuneiformlaw03_LensPen.d0, min20, min100]
  have hl' : ∀ n ∈ l.take (min l.length 20), n < 18446744073709551616 := fun n hn => hl n (List.mem_of_mem_take hn)
  have hs' : ∀ n ∈ s.take (min s.length 20), inI64 n := fun n hn => hs n (List.mem_of_mem_take hn)
  have hf' : ∀ n ∈ f.take (min f.length 100), n < 256 := fun n hn => hf n (List.mem_of_mem_take hn)
  have hll : (l.take (min l.length 20)).length ≤ 20 := by rw [List.length_take]; omega
  have hsl : (s.take (min s.length 20)).length ≤ 20 := by rw [List.length_take]; omega
  have hfl : (f.take (min f.length 100)).length ≤ 100 := by rw [List.length_take]; omega
  generalize l.take (min l.length 20) = l at *
  generalize s.take (min s.length 20) = s at *
  generalize f.take (min f.length 100) = f at *
  have hpl := putAll_len l hl'
  have hps := putAll_len (s.map zig) (fun n hn => by
    obtain ⟨z, hz, rfl⟩ := List.mem_map.1 hn
    exact zig_lt (hs' z hz).1 (hs' z hz).2)
  rw [List.length_map] at hps
  have hpf := putAll_len [f.length] (fun n hn => by simp at hn; omega)
  simp only [List.length_cons, List.length_nil] at hpf
  have w1 := wordBytes_len a 1
  have w2 := wordBytes_len b 2
  have w4 := wordBytes_len c 4
  refine callK_fn (pnew_ok [] (room := 1000) (by omega) _ ?_)
  refine runL_V 100 ?_
  have hp0 := pnew_at [] (room := 1000) (by omega)
  simp (disch := first | omega | (simp only [List.length_append, List.length_cons, List.length_nil, List.length_set, List.length_map, List.length_take, List.length_drop]; omega)) only [stdh, goK_s2b, dgoK_s2b, isEff_s2b, isPure_s2b, goK_b2s, dgoK_b2s, isEff_b2s, isPure_b2s, evalOp_s2b, s2bR, goK_mark, dgoK_mark, isEff_mark, isPure_mark, evalOp_mark, markA_slc, markB, ↓reduceIte, Nat.reduceEqDiff, Int.reduceToNat, Int.reducePow, Nat.reduceAdd, Nat.reduceLeDiff, Nat.reduceMul, Nat.reduceBEq, reduceCtorEq, eqA]
  refine callK_fn (pu8_ok hp0 (by simp) ha _ (wrote_fit (by simp [w1]) fun a1 H1 g1 => ?_))
  refine runL_V 100 ?_
  simp (disch := first | omega | (simp only [List.length_append, List.length_cons, List.length_nil, List.length_set, List.length_map, List.length_take, List.length_drop]; omega)) only [stdh, goK_s2b, dgoK_s2b, isEff_s2b, isPure_s2b, goK_b2s, dgoK_b2s, isEff_b2s, isPure_b2s, evalOp_s2b, s2bR, goK_mark, dgoK_mark, isEff_mark, isPure_mark, evalOp_mark, markA_slc, markB, ↓reduceIte, Nat.reduceEqDiff, Int.reduceToNat, Int.reducePow, Nat.reduceAdd, Nat.reduceLeDiff, Nat.reduceMul, Nat.reduceBEq, reduceCtorEq]
  refine callK_fn (number_ok g1 (by simp [w1]) (nums_nats _ _ _ _) hl' (by omega) _ (wrote_fit (by simp [w1]; omega) fun a2 H2 g2 => ?_))
  refine runL_V 100 ?_
  simp (disch := first | omega | (simp only [List.length_append, List.length_cons, List.length_nil, List.length_set, List.length_map, List.length_take, List.length_drop]; omega)) only [stdh, goK_s2b, dgoK_s2b, isEff_s2b, isPure_s2b, goK_b2s, dgoK_b2s, isEff_b2s, isPure_b2s, evalOp_s2b, s2bR, goK_mark, dgoK_mark, isEff_mark, isPure_mark, evalOp_mark, markA_slc, markB, ↓reduceIte, Nat.reduceEqDiff, Int.reduceToNat, Int.reducePow, Nat.reduceAdd, Nat.reduceLeDiff, Nat.reduceMul, Nat.reduceBEq, reduceCtorEq]
  refine callK_fn (pu16_ok g2 (by simp [w1]; omega) hb _ (wrote_fit (by simp [w1, w2]; omega) fun a3 H3 g3 => ?_))
  refine runL_V 100 ?_
  simp (disch := first | omega | (simp only [List.length_append, List.length_cons, List.length_nil, List.length_set, List.length_map, List.length_take, List.length_drop]; omega)) only [stdh, goK_s2b, dgoK_s2b, isEff_s2b, isPure_s2b, goK_b2s, dgoK_b2s, isEff_b2s, isPure_b2s, evalOp_s2b, s2bR, goK_mark, dgoK_mark, isEff_mark, isPure_mark, evalOp_mark, markA_slc, markB, ↓reduceIte, Nat.reduceEqDiff, Int.reduceToNat, Int.reducePow, Nat.reduceAdd, Nat.reduceLeDiff, Nat.reduceMul, Nat.reduceBEq, reduceCtorEq]
  refine callK_fn (pfield_ok g3 (by simp [w1, w2]; omega) (nums_nats _ _ _ _) (fun s h => by cases h) (by omega) _ (wrote_fit (by simp [w1, w2]; omega) fun a4 H4 g4 => ?_))
  refine runL_V 100 ?_
  simp (disch := first | omega | (simp only [List.length_append, List.length_cons, List.length_nil, List.length_set, List.length_map, List.length_take, List.length_drop]; omega)) only [stdh, goK_s2b, dgoK_s2b, isEff_s2b, isPure_s2b, goK_b2s, dgoK_b2s, isEff_b2s, isPure_b2s, evalOp_s2b, s2bR, goK_mark, dgoK_mark, isEff_mark, isPure_mark, evalOp_mark, markA_slc, markB, ↓reduceIte, Nat.reduceEqDiff, Int.reduceToNat, Int.reducePow, Nat.reduceAdd, Nat.reduceLeDiff, Nat.reduceMul, Nat.reduceBEq, reduceCtorEq]
  refine callK_fn (signed_ok g4 (by simp [w1, w2]; omega) hs' (by omega) _ (wrote_fit (by simp [w1, w2]; omega) fun a5 H5 g5 => ?_))
  refine runL_V 100 ?_
  simp (disch := first | omega | (simp only [List.length_append, List.length_cons, List.length_nil, List.length_set, List.length_map, List.length_take, List.length_drop]; omega)) only [stdh, goK_s2b, dgoK_s2b, isEff_s2b, isPure_s2b, goK_b2s, dgoK_b2s, isEff_b2s, isPure_b2s, evalOp_s2b, s2bR, goK_mark, dgoK_mark, isEff_mark, isPure_mark, evalOp_mark, markA_slc, markB, ↓reduceIte, Nat.reduceEqDiff, Int.reduceToNat, Int.reducePow, Nat.reduceAdd, Nat.reduceLeDiff, Nat.reduceMul, Nat.reduceBEq, reduceCtorEq]
  refine callK_fn (pu32_ok g5 (by simp [w1, w2]; omega) hc _ (wrote_fit (by simp [w1, w2, w4]; omega) fun a6 H6 g6 => ?_))
  refine runL_V 100 ?_
  simp (disch := first | omega | (simp only [List.length_append, List.length_cons, List.length_nil, List.length_set, List.length_map, List.length_take, List.length_drop]; omega)) only [stdh, goK_s2b, dgoK_s2b, isEff_s2b, isPure_s2b, goK_b2s, dgoK_b2s, isEff_b2s, isPure_b2s, evalOp_s2b, s2bR, goK_mark, dgoK_mark, isEff_mark, isPure_mark, evalOp_mark, markA_slc, markB, ↓reduceIte, Nat.reduceEqDiff, Int.reduceToNat, Int.reducePow, Nat.reduceAdd, Nat.reduceLeDiff, Nat.reduceMul, Nat.reduceBEq, reduceCtorEq]
  refine callK_fn (praw_ok _ g6 (nums_nats _ _ _ _) (fun s h => by cases h) (by simp [w1, w2, w4]; omega) _ (wrote_fit (by simp [w1, w2, w4]; omega) fun a7 H7 g7 => ?_))
  have hys : ∃ ys, [] ++ wordBytes a 1 ++ putAll l ++ wordBytes b 2 ++ (putAll [f.length] ++ f) ++ putAll (s.map zig) ++ wordBytes c 4 ++ f = ys ∧ ys.length ≤ 1000 ∧ (∀ x ∈ ys, x < 256) ∧
      ys = wordBytes a 1 ++ (putAll l ++ (wordBytes b 2 ++ (putOne f.length ++ (f ++ (putAll (s.map zig) ++ (wordBytes c 4 ++ f)))))) := by
    refine ⟨_, rfl, g7.le, ?_, by simp [putAll]⟩
    intro x hx
    simp only [List.nil_append, List.mem_append] at hx
    rcases hx with (((((hx | hx) | hx) | (hx | hx)) | hx) | hx) | hx
    · exact word_byte _ _ x hx
    · exact putAll_byte _ x hx
    · exact word_byte _ _ x hx
    · exact putAll_byte _ x hx
    · exact hf' x hx
    · exact putAll_byte _ x hx
    · exact word_byte _ _ x hx
    · exact hf' x hx
  obtain ⟨ys, hye, hyl, hyb, hyd⟩ := hys
  rw [hye] at g7
  refine runL_V 100 ?_
  simp (disch := first | omega | (simp only [List.length_append, List.length_cons, List.length_nil, List.length_set, List.length_map, List.length_take, List.length_drop]; omega)) only [stdh, goK_s2b, dgoK_s2b, isEff_s2b, isPure_s2b, goK_b2s, dgoK_b2s, isEff_b2s, isPure_b2s, evalOp_s2b, s2bR, goK_mark, dgoK_mark, isEff_mark, isPure_mark, evalOp_mark, markA_slc, markB, ↓reduceIte, Nat.reduceEqDiff, Int.reduceToNat, Int.reducePow, Nat.reduceAdd, Nat.reduceLeDiff, Nat.reduceMul, Nat.reduceBEq, reduceCtorEq]
  refine callK_fn (perr_ok g7 _ ?_)
  refine runL_V 100 ?_
  simp (disch := first | omega | (simp only [List.length_append, List.length_cons, List.length_nil, List.length_set, List.length_map, List.length_take, List.length_drop]; omega)) only [stdh, goK_s2b, dgoK_s2b, isEff_s2b, isPure_s2b, goK_b2s, dgoK_b2s, isEff_b2s, isPure_b2s, evalOp_s2b, s2bR, goK_mark, dgoK_mark, isEff_mark, isPure_mark, evalOp_mark, markA_slc, markB, ↓reduceIte, Nat.reduceEqDiff, Int.reduceToNat, Int.reducePow, Nat.reduceAdd, Nat.reduceLeDiff, Nat.reduceMul, Nat.reduceBEq, reduceCtorEq]
  refine callK_fn (pbytes_ok g7 _ ?_)
  refine runL_V 100 ?_
  simp (disch := first | omega | (simp only [List.length_append, List.length_cons, List.length_nil, List.length_set, List.length_map, List.length_take, List.length_drop]; omega)) only [stdh, goK_s2b, dgoK_s2b, isEff_s2b, isPure_s2b, goK_b2s, dgoK_b2s, isEff_b2s, isPure_b2s, evalOp_s2b, s2bR, goK_mark, dgoK_mark, isEff_mark, isPure_mark, evalOp_mark, markA_slc, markB, ↓reduceIte, Nat.reduceEqDiff, Int.reduceToNat, Int.reducePow, Nat.reduceAdd, Nat.reduceLeDiff, Nat.reduceMul, Nat.reduceBEq, reduceCtorEq]
  refine callK_fn (lnew_ok _ (by omega) _ ?_)
  refine runL_V 100 ?_
  have hq0 : (H7 ++ [lensB ys 0 0])[H7.length]? = some (lensB ys 0 0) := at_0
  generalize H7 ++ [lensB ys 0 0] = G0 at *
  generalize H7.length = p at *
  have hpl0 := (List.getElem?_eq_some_iff.1 hq0).1
  simp (disch := first | omega | (simp only [List.length_append, List.length_cons, List.length_nil, List.length_set, List.length_map, List.length_take, List.length_drop]; omega)) only [stdh, goK_s2b, dgoK_s2b, isEff_s2b, isPure_s2b, goK_b2s, dgoK_b2s, isEff_b2s, isPure_b2s, evalOp_s2b, s2bR, goK_mark, dgoK_mark, isEff_mark, isPure_mark, evalOp_mark, markA_slc, markB, ↓reduceIte, Nat.reduceEqDiff, Int.reduceToNat, Int.reducePow, Nat.reduceAdd, Nat.reduceLeDiff, Nat.reduceMul, Nat.reduceBEq, reduceCtorEq, eqA]
  refine callK_fn (lu8_ok _ hq0 (by omega) hyb (by omega) _ ?_)
  have d0 : ys.drop 0 = wordBytes a 1 ++ (putAll l ++ (wordBytes b 2 ++ (putOne f.length ++ (f ++ (putAll (s.map zig) ++ (wordBytes c 4 ++ f)))))) := hyd
  rw [read_word (s := 1) (by omega) d0]
  have d1 := drop_next d0 w1
  have p1 := drop_le d0 w1 (by omega)
  refine runL_V 100 ?_
  simp (disch := first | omega | (simp only [List.length_append, List.length_cons, List.length_nil, List.length_set, List.length_map, List.length_take, List.length_drop]; omega)) only [stdh, goK_s2b, dgoK_s2b, isEff_s2b, isPure_s2b, goK_b2s, dgoK_b2s, isEff_b2s, isPure_b2s, evalOp_s2b, s2bR, goK_mark, dgoK_mark, isEff_mark, isPure_mark, evalOp_mark, markA_slc, markB, ↓reduceIte, Nat.reduceEqDiff, Int.reduceToNat, Int.reducePow, Nat.reduceAdd, Nat.reduceLeDiff, Nat.reduceMul, Nat.reduceBEq, reduceCtorEq]
  refine lp_nums _ _ hyb hyl hl' _ _ _ _ ?_ _ 0 (0 + 1) _ rfl (by omega) (by rw [List.getElem?_set_self hpl0]) p1 (by rw [List.drop_zero]; exact d1) (by omega)
  intro H8 r8 b1 q8 p2 d2 e1 e2 e4 e5 e14
  have hpl8 := (List.getElem?_eq_some_iff.1 q8).1
  refine run_V0 100 ?_
  simp (disch := first | omega | (simp only [List.length_append, List.length_cons, List.length_nil, List.length_set, List.length_map, List.length_take, List.length_drop]; omega)) only [stdh, goK_s2b, dgoK_s2b, isEff_s2b, isPure_s2b, goK_b2s, dgoK_b2s, isEff_b2s, isPure_b2s, evalOp_s2b, s2bR, goK_mark, dgoK_mark, isEff_mark, isPure_mark, evalOp_mark, markA_slc, markB, ↓reduceIte, Nat.reduceEqDiff, Int.reduceToNat, Int.reducePow, Nat.reduceAdd, Nat.reduceLeDiff, Nat.reduceMul, Nat.reduceBEq, reduceCtorEq, e1, e2, e4, e5, e14]
  refine callK_fn (lu16_ok _ q8 p2 hyb (by omega) _ ?_)
  rw [read_word (s := 2) (by omega) d2]
  have d3 := drop_next d2 w2
  have p3 := drop_le d2 w2 p2
  refine runL_V 100 ?_
  simp (disch := first | omega | (simp only [List.length_append, List.length_cons, List.length_nil, List.length_set, List.length_map, List.length_take, List.length_drop]; omega)) only [stdh, goK_s2b, dgoK_s2b, isEff_s2b, isPure_s2b, goK_b2s, dgoK_b2s, isEff_b2s, isPure_b2s, evalOp_s2b, s2bR, goK_mark, dgoK_mark, isEff_mark, isPure_mark, evalOp_mark, markA_slc, markB, ↓reduceIte, Nat.reduceEqDiff, Int.reduceToNat, Int.reducePow, Nat.reduceAdd, Nat.reduceLeDiff, Nat.reduceMul, Nat.reduceBEq, reduceCtorEq, e1, e2, e4, e5, e14]
  have q9 : (H8.set p (lensB ys (b1 + 2) 0))[p]? = some (lensB ys (b1 + 2) 0) := List.getElem?_set_self hpl8
  have hpl9 := (List.getElem?_eq_some_iff.1 q9).1
  generalize H8.set p (lensB ys (b1 + 2) 0) = H9 at *
  refine callK_fn (lfield_ok _ (by omega) q9 p3 hyb (by omega) _ ?_)
  rw [read_field (by omega) d3]
  have d4 := drop_next (enc := putOne f.length ++ f) (rest := putAll (s.map zig) ++ (wordBytes c 4 ++ f)) (k := sizeOf f.length + f.length) (d3.trans (by simp)) (by rw [List.length_append, putOne_length])
  have p4 := drop_le (enc := putOne f.length ++ f) (rest := putAll (s.map zig) ++ (wordBytes c 4 ++ f)) (k := sizeOf f.length + f.length) (d3.trans (by simp)) (by rw [List.length_append, putOne_length]) p3
  refine runL_V 100 ?_
  simp (disch := first | omega | (simp only [List.length_append, List.length_cons, List.length_nil, List.length_set, List.length_map, List.length_take, List.length_drop]; omega)) only [stdh, goK_s2b, dgoK_s2b, isEff_s2b, isPure_s2b, goK_b2s, dgoK_b2s, isEff_b2s, isPure_b2s, evalOp_s2b, s2bR, goK_mark, dgoK_mark, isEff_mark, isPure_mark, evalOp_mark, markA_slc, markB, ↓reduceIte, Nat.reduceEqDiff, Int.reduceToNat, Int.reducePow, Nat.reduceAdd, Nat.reduceLeDiff, Nat.reduceMul, Nat.reduceBEq, reduceCtorEq, e1, e2, e4, e5, e14]
  refine callK_fn (same_ok _ (nums_nats _ _ _ _) (nums_nats _ _ _ _) (by omega) _ ?_)
  rw [show decide (f = f) = true by simp]
  refine runL_V 100 ?_
  simp (disch := first | omega | (simp only [List.length_append, List.length_cons, List.length_nil, List.length_set, List.length_map, List.length_take, List.length_drop]; omega)) only [stdh, goK_s2b, dgoK_s2b, isEff_s2b, isPure_s2b, goK_b2s, dgoK_b2s, isEff_b2s, isPure_b2s, evalOp_s2b, s2bR, goK_mark, dgoK_mark, isEff_mark, isPure_mark, evalOp_mark, markA_slc, markB, ↓reduceIte, Nat.reduceEqDiff, Int.reduceToNat, Int.reducePow, Nat.reduceAdd, Nat.reduceLeDiff, Nat.reduceMul, Nat.reduceBEq, reduceCtorEq, e1, e2, e4, e5, e14]
  refine lp_sgns _ _ hyb hyl hs' _ _ ?_ _ 0 _ _ rfl (by omega) (by rw [List.getElem?_set_self hpl9]) p4 (by rw [List.drop_zero]; exact d4) (by omega)
  intro H10 r10 b2 q10 p5 d5 k2 k5 k14
  have hpl10 := (List.getElem?_eq_some_iff.1 q10).1
  refine run_V0 100 ?_
  simp (disch := first | omega | (simp only [List.length_append, List.length_cons, List.length_nil, List.length_set, List.length_map, List.length_take, List.length_drop]; omega)) only [stdh, goK_s2b, dgoK_s2b, isEff_s2b, isPure_s2b, goK_b2s, dgoK_b2s, isEff_b2s, isPure_b2s, evalOp_s2b, s2bR, goK_mark, dgoK_mark, isEff_mark, isPure_mark, evalOp_mark, markA_slc, markB, ↓reduceIte, Nat.reduceEqDiff, Int.reduceToNat, Int.reducePow, Nat.reduceAdd, Nat.reduceLeDiff, Nat.reduceMul, Nat.reduceBEq, reduceCtorEq, k2, k5, k14]
  refine callK_fn (known03_ok _ _ ?_)
  refine runL_V 100 ?_
  simp (disch := first | omega | (simp only [List.length_append, List.length_cons, List.length_nil, List.length_set, List.length_map, List.length_take, List.length_drop]; omega)) only [stdh, goK_s2b, dgoK_s2b, isEff_s2b, isPure_s2b, goK_b2s, dgoK_b2s, isEff_b2s, isPure_b2s, evalOp_s2b, s2bR, goK_mark, dgoK_mark, isEff_mark, isPure_mark, evalOp_mark, markA_slc, markB, ↓reduceIte, Nat.reduceEqDiff, Int.reduceToNat, Int.reducePow, Nat.reduceAdd, Nat.reduceLeDiff, Nat.reduceMul, Nat.reduceBEq, reduceCtorEq, k2, k5, k14]
  refine callK_fn (lu32_ok _ q10 p5 hyb (by omega) _ ?_)
  rw [read_word (s := 4) (by omega) d5]
  have d6 := drop_next d5 w4
  have p6 := drop_le d5 w4 p5
  refine runL_V 100 ?_
  simp (disch := first | omega | (simp only [List.length_append, List.length_cons, List.length_nil, List.length_set, List.length_map, List.length_take, List.length_drop]; omega)) only [stdh, goK_s2b, dgoK_s2b, isEff_s2b, isPure_s2b, goK_b2s, dgoK_b2s, isEff_b2s, isPure_b2s, evalOp_s2b, s2bR, goK_mark, dgoK_mark, isEff_mark, isPure_mark, evalOp_mark, markA_slc, markB, ↓reduceIte, Nat.reduceEqDiff, Int.reduceToNat, Int.reducePow, Nat.reduceAdd, Nat.reduceLeDiff, Nat.reduceMul, Nat.reduceBEq, reduceCtorEq, k2, k5, k14]
  have q11 : (H10.set p (lensB ys (b2 + 4) 0))[p]? = some (lensB ys (b2 + 4) 0) := List.getElem?_set_self hpl10
  have hpl11 := (List.getElem?_eq_some_iff.1 q11).1
  generalize H10.set p (lensB ys (b2 + 4) 0) = H11 at *
  refine callK_fn (lraw_ok _ (by omega) q11 p6 (by omega) _ ?_)
  have d6' : ys.drop (b2 + 4) = f ++ [] := by rw [d6]; simp
  rw [read_raw d6']
  have p7 := drop_le d6' rfl p6
  have d7 := drop_next d6' rfl
  have hend : b2 + 4 + f.length = ys.length := by
    have : (ys.drop (b2 + 4 + f.length)).length = 0 := by rw [d7]; rfl
    rw [List.length_drop] at this; omega
  refine runL_V 100 ?_
  simp (disch := first | omega | (simp only [List.length_append, List.length_cons, List.length_nil, List.length_set, List.length_map, List.length_take, List.length_drop]; omega)) only [stdh, goK_s2b, dgoK_s2b, isEff_s2b, isPure_s2b, goK_b2s, dgoK_b2s, isEff_b2s, isPure_b2s, evalOp_s2b, s2bR, goK_mark, dgoK_mark, isEff_mark, isPure_mark, evalOp_mark, markA_slc, markB, ↓reduceIte, Nat.reduceEqDiff, Int.reduceToNat, Int.reducePow, Nat.reduceAdd, Nat.reduceLeDiff, Nat.reduceMul, Nat.reduceBEq, reduceCtorEq, k2, k5, k14]
  refine callK_fn (same_ok _ (nums_nats _ _ _ _) (nums_nats _ _ _ _) (by omega) _ ?_)
  rw [show decide (f = f) = true by simp]
  refine runL_V 100 ?_
  simp (disch := first | omega | (simp only [List.length_append, List.length_cons, List.length_nil, List.length_set, List.length_map, List.length_take, List.length_drop]; omega)) only [stdh, goK_s2b, dgoK_s2b, isEff_s2b, isPure_s2b, goK_b2s, dgoK_b2s, isEff_b2s, isPure_b2s, evalOp_s2b, s2bR, goK_mark, dgoK_mark, isEff_mark, isPure_mark, evalOp_mark, markA_slc, markB, ↓reduceIte, Nat.reduceEqDiff, Int.reduceToNat, Int.reducePow, Nat.reduceAdd, Nat.reduceLeDiff, Nat.reduceMul, Nat.reduceBEq, reduceCtorEq, k2, k5, k14]
  refine callK_fn (end_ok (ys := ys) (a := b2 + 4 + f.length) (e := 0) _ (by rw [List.getElem?_set_self hpl11]) p7 (by omega) _ ?_)
  rw [if_neg (by omega)]
  refine runL_V 100 ?_
  simp (disch := first | omega | (simp only [List.length_append, List.length_cons, List.length_nil, List.length_set, List.length_map, List.length_take, List.length_drop]; omega)) only [stdh, goK_s2b, dgoK_s2b, isEff_s2b, isPure_s2b, goK_b2s, dgoK_b2s, isEff_b2s, isPure_b2s, evalOp_s2b, s2bR, goK_mark, dgoK_mark, isEff_mark, isPure_mark, evalOp_mark, markA_slc, markB, ↓reduceIte, Nat.reduceEqDiff, Int.reduceToNat, Int.reducePow, Nat.reduceAdd, Nat.reduceLeDiff, Nat.reduceMul, Nat.reduceBEq, reduceCtorEq]
end Go.Proofs.Ytebhlclfiiffbaa

namespace Go.Proofs.Ytebhlclfiiffbaa.lensPen
open Go Go.Am Go.ChangeShapes Go.WideShapes Go.ChangeAt Go.RowKit
set_option linter.unusedVariables false

theorem own : ownKnob Try.prog.godebug = none := by kernel_rfl
theorem laidOut : laidOutB Try.prog = true := by kernel_rfl

set_option maxRecDepth 100000 in
theorem lifted (os : Os) (started : os.Started) (H : Type) (enc : TypeId × Value → H) :
    ReturnsInHanded {} Try.checked os F.cuneiformlaw03_LensPen .any (Rows.lensPenSpec.pre6 enc Try.prog Try.f6 Rows.lensPenRow.domain false) (Rows.lensPenSpec.post enc Try.prog Try.f6 false true false false) := by
  refine returnsInHanded_of_change (C := Try.checked) own started (by kernel_rfl) Try.func6
    (ChangeSpec.witness6 (enc := enc) (C := Try.checked) false ⟨#[], #[.int .u8 1, .int .u16 2, .int .u32 3, .slice none 0 0, .slice none 0 0, .slice none 0 0], []⟩ 8 (by kernel_rfl) (by kernel_rfl) (by kernel_rfl) (by kernel_rfl)) ?_
  intro W base args ds gs before hval hW hcnd _
  refine law_calls (shs := [.int .u8, .int .u16, .int .u32, .slice (.int .u64), .slice (.int .i64), .slice (.int .u8)]) (tb := 4) laidOut (by kernel_rfl) ?_ (by kernel_rfl) Try.underlying4 rfl ?_ ?_ hval hW
  · intro t ht
    have : ∀ t ∈ Try.f6.params.toList, (Try.prog.readableRec t && decide (t < Try.prog.types.size)) = true := List.all_eq_true.1 (by kernel_rfl)
    simpa using this t ht
  · intro H ds hd
    match ds, hd with
    | [d0, d1, d2, d3, d4, d5], _ => exact ⟨rfl, rfl, rfl⟩
  · rintro xs ⟨a, r, rfl, ⟨x, hx, wx⟩, b, r2, rfl, ⟨y, hy, wy⟩, c, r3, rfl, ⟨z, hz, wz⟩, l, r4, rfl, hl, s, r5, rfl, hs, f, r6, rfl, hf, rfl⟩
    cases hx
    cases hy
    cases hz
    obtain ⟨ls, l1, l2, l3⟩ := nums_fits (k := .u64) rfl hl
    obtain ⟨ss, s1, s2, s3⟩ := ints_fits hs
    obtain ⟨fs, f1, f2, f3⟩ := nums_fits (k := .u8) rfl hf
    have h4 := bounds_u8 wx
    have h5 := bounds_u16 wy
    have h6 := bounds_u32 wz
    obtain ⟨x, rfl⟩ := Int.eq_ofNat_of_zero_le h4.1
    obtain ⟨y, rfl⟩ := Int.eq_ofNat_of_zero_le h5.1
    obtain ⟨z, rfl⟩ := Int.eq_ofNat_of_zero_le h6.1
    exact fun_sees (.cons (.refl _) (.cons (.refl _) (.cons (.refl _) (.cons l1 (.cons s1 (.cons f1 .nil)))))) (lenspen_ok (by omega) (by omega) (by omega) (fun n hn => by have := bounds_u64 (l2 n hn); omega) s2 (fun b hb => by have := bounds_u8 (f2 b hb); omega))

theorem proved : Rows.LensPenSaid :=
  OpenClaim.holds_of_wide F.cuneiformlaw03_LensPen Try.f6 rfl rfl rfl rfl rfl rfl rfl ⟨rfl, rfl, rfl, rfl, rfl⟩ rfl rfl rfl rfl rfl (by kernel_rfl) Try.func6 (by kernel_rfl)
    (of_decide_eq_true (by kernel_rfl)) (by unfold Func.isWrapper; first | (rw [if_pos (by decide +kernel)]; kernel_rfl) | (rw [if_neg (by decide +kernel)]; exact ⟨rfl, rfl⟩))
    (fun os started H enc _ => lifted os started H enc)
end Go.Proofs.Ytebhlclfiiffbaa.lensPen
