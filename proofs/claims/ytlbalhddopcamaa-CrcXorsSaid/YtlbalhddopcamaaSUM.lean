/-
  Lemmas on the way to the statements of this seat. By an AI agent. No person has read it.
-/
import Derived.Test.YtlbalhddopcamaaAm6
import Derived.Test.YtlbalhddopcamaaCode

namespace Go.Am
open Go
set_option linter.unusedVariables false
set_option linter.unusedSimpArgs false

/-! ### Sums, as words -/

def pol : Nat := 3988292384
def sh1 (w : Nat) : Nat := w / 2 ^^^ (if w % 2 = 1 then pol else 0)
def shN : Nat → Nat → Nat
  | 0, w => w
  | n + 1, w => shN n (sh1 w)
def sh8 (w : Nat) : Nat := shN 8 w
/-- A word behind a byte. -/
def add1 (s c : Nat) : Nat := sh8 (s ^^^ c)
def addAll (s : Nat) (bs : List Nat) : Nat := bs.foldl add1 s
def sumOf (bs : List Nat) : Nat := 4294967295 - addAll 4294967295 bs

theorem xor_lt {a b : Nat} (ha : a < 4294967296) (hb : b < 4294967296) : a ^^^ b < 4294967296 := Nat.xor_lt_two_pow (n := 32) ha hb

theorem sh1_lt {w : Nat} (h : w < 4294967296) : sh1 w < 4294967296 := by
  unfold sh1
  refine xor_lt (by omega) ?_
  split
  · decide
  · decide
theorem shN_lt : ∀ (n : Nat) {w : Nat}, w < 4294967296 → shN n w < 4294967296
  | 0, w, h => h
  | n + 1, w, h => shN_lt n (sh1_lt h)
theorem sh8_lt {w : Nat} (h : w < 4294967296) : sh8 w < 4294967296 := shN_lt 8 h
theorem add1_lt {s c : Nat} (h : s < 4294967296) (hc : c < 256) : add1 s c < 4294967296 := sh8_lt (xor_lt h (by omega))
theorem addAll_lt : ∀ (bs : List Nat) {s : Nat}, s < 4294967296 → (∀ b ∈ bs, b < 256) → addAll s bs < 4294967296
  | [], s, h, _ => h
  | b :: bs, s, h, hb => addAll_lt bs (add1_lt h (hb b (by simp))) fun x hx => hb x (by simp [hx])
theorem sumOf_lt (bs : List Nat) : sumOf bs < 4294967296 := by unfold sumOf; omega

theorem sh1_xor (a b : Nat) : sh1 (a ^^^ b) = sh1 a ^^^ sh1 b := by
  unfold sh1
  rw [Nat.xor_div_two]
  have hm : (a ^^^ b) % 2 = (a % 2) ^^^ (b % 2) := Nat.xor_mod_two_pow (n := 1)
  have e : ∀ x y p q : Nat, (x ^^^ y) ^^^ (p ^^^ q) = (x ^^^ p) ^^^ (y ^^^ q) := fun x y p q => by
    rw [Nat.xor_assoc, Nat.xor_assoc, ← Nat.xor_assoc y p q, Nat.xor_comm y p, Nat.xor_assoc p y q]
  rcases Nat.mod_two_eq_zero_or_one a with h1 | h1 <;> rcases Nat.mod_two_eq_zero_or_one b with h2 | h2
  · rw [hm, h1, h2]; simp
  · rw [hm, h1, h2]; simp [Nat.xor_assoc]
  · rw [hm, h1, h2]
    simp
    rw [Nat.xor_assoc, Nat.xor_assoc, Nat.xor_comm (b / 2)]
  · rw [hm, h1, h2]
    simp
    rw [← e, Nat.xor_self, Nat.xor_zero]

theorem shN_xor : ∀ (n a b : Nat), shN n (a ^^^ b) = shN n a ^^^ shN n b
  | 0, a, b => rfl
  | n + 1, a, b => by rw [shN, sh1_xor, shN_xor n]; rfl

theorem shN_add : ∀ (m n w : Nat), shN (m + n) w = shN n (shN m w)
  | 0, n, w => by rw [Nat.zero_add]; rfl
  | m + 1, n, w => by rw [Nat.add_right_comm, shN, shN_add m n]; rfl

theorem sh1_two (x : Nat) : sh1 (2 * x) = x := by
  unfold sh1
  rw [if_neg (by omega), Nat.xor_zero]; omega

theorem shN_pow : ∀ (k x : Nat), shN k (x * 2 ^ k) = x
  | 0, x => by simp [shN]
  | k + 1, x => by
    rw [shN, show x * 2 ^ (k + 1) = 2 * (x * 2 ^ k) by rw [Nat.pow_succ]; ac_rfl, sh1_two, shN_pow k]

theorem xor_shift {a b n : Nat} (h : a < 2 ^ n) : a ^^^ b * 2 ^ n = a + b * 2 ^ n := by
  rw [← or_shift h]
  refine Nat.eq_of_testBit_eq fun i => ?_
  rw [Nat.testBit_xor, Nat.testBit_or, Nat.testBit_mul_two_pow]
  by_cases hi : n ≤ i
  · have : a.testBit i = false := Nat.testBit_lt_two_pow (Nat.lt_of_lt_of_le h (Nat.pow_le_pow_right (by omega) hi))
    simp [this]
  · simp [hi]

/-- The table's entry. -/
def ent (k i : Nat) : Nat := shN (8 * (k + 1)) i

theorem step_one {s c : Nat} (hc : c < 256) : add1 s c = s / 256 ^^^ ent 0 (s % 256 ^^^ c) := by
  unfold add1 sh8 ent
  have e : s ^^^ c = (s % 256 ^^^ c) ^^^ (s / 256 * 2 ^ 8) := by
    have h1 : s = s % 256 ^^^ s / 256 * 2 ^ 8 := by rw [xor_shift (by omega)]; omega
    rw [Nat.xor_assoc, Nat.xor_comm c, ← Nat.xor_assoc, ← h1]
  rw [e, shN_xor, shN_pow, Nat.xor_comm]

/-- Four bytes as a word. -/
def word4 (a b c d : Nat) : Nat := a ^^^ b * 2 ^ 8 ^^^ c * 2 ^ 16 ^^^ d * 2 ^ 24

theorem word4_or {a b c d : Nat} (ha : a < 256) (hb : b < 256) (hc : c < 256) : ((a ||| b * 256) ||| c * 65536) ||| d * 16777216 = word4 a b c d := by
  have e1 : a ||| b * 256 = a + b * 256 := or_shift (n := 8) ha
  have e2 : a ^^^ b * 2 ^ 8 = a + b * 2 ^ 8 := xor_shift ha
  have e3 : (a + b * 256) ||| c * 65536 = (a + b * 256) + c * 65536 := or_shift (n := 16) (by omega)
  have e4 : (a + b * 2 ^ 8) ^^^ c * 2 ^ 16 = (a + b * 2 ^ 8) + c * 2 ^ 16 := xor_shift (by omega)
  have e5 : ((a + b * 256) + c * 65536) ||| d * 16777216 = ((a + b * 256) + c * 65536) + d * 16777216 := or_shift (n := 24) (by omega)
  have e6 : ((a + b * 2 ^ 8) + c * 2 ^ 16) ^^^ d * 2 ^ 24 = ((a + b * 2 ^ 8) + c * 2 ^ 16) + d * 2 ^ 24 := xor_shift (by omega)
  unfold word4
  rw [e1, e3, e5, e2, e4, e6]

theorem word4_lt {a b c d : Nat} (ha : a < 256) (hb : b < 256) (hc : c < 256) (hd : d < 256) : word4 a b c d < 4294967296 := by
  unfold word4
  refine xor_lt (xor_lt (xor_lt (by omega) (by omega)) (by omega)) (by omega)

theorem word4_of {w : Nat} (h : w < 4294967296) : w = word4 (w % 256) (w / 256 % 256) (w / 65536 % 256) (w / 16777216) := by
  have e2 : w % 256 ^^^ (w / 256 % 256) * 2 ^ 8 = w % 256 + (w / 256 % 256) * 2 ^ 8 := xor_shift (by omega)
  have e4 : (w % 256 + (w / 256 % 256) * 2 ^ 8) ^^^ (w / 65536 % 256) * 2 ^ 16 = (w % 256 + (w / 256 % 256) * 2 ^ 8) + (w / 65536 % 256) * 2 ^ 16 := xor_shift (by omega)
  have e6 : ((w % 256 + (w / 256 % 256) * 2 ^ 8) + (w / 65536 % 256) * 2 ^ 16) ^^^ (w / 16777216) * 2 ^ 24 = ((w % 256 + (w / 256 % 256) * 2 ^ 8) + (w / 65536 % 256) * 2 ^ 16) + (w / 16777216) * 2 ^ 24 := xor_shift (by omega)
  unfold word4
  rw [e2, e4, e6]; omega

theorem sh32_word4 (a b c d : Nat) : shN 32 (word4 a b c d) = ent 3 a ^^^ ent 2 b ^^^ ent 1 c ^^^ ent 0 d := by
  unfold word4 ent
  rw [shN_xor, shN_xor, shN_xor, show (32 : Nat) = 8 + 24 from rfl, shN_add 8 24 (b * 2 ^ 8), shN_pow, show (8 + 24 : Nat) = 16 + 16 from rfl, shN_add 16 16 (c * 2 ^ 16), shN_pow, show (16 + 16 : Nat) = 24 + 8 from rfl, shN_add 24 8 (d * 2 ^ 24), shN_pow]

/-- Four bytes at a time. -/
theorem step_four {s a b c d : Nat} : add1 (add1 (add1 (add1 s a) b) c) d = shN 32 (s ^^^ word4 a b c d) := by
  unfold add1 sh8 word4
  rw [← Nat.xor_assoc, ← Nat.xor_assoc, ← Nat.xor_assoc, shN_xor 32, shN_xor 32, shN_xor 32, show (32 : Nat) = 8 + 24 from rfl, shN_add 8 24 (b * 2 ^ 8), shN_pow, show (8 + 24 : Nat) = 16 + 16 from rfl, shN_add 16 16 (c * 2 ^ 16), shN_pow, show (16 + 16 : Nat) = 24 + 8 from rfl, shN_add 24 8 (d * 2 ^ 24), shN_pow]
  rw [show (24 + 8 : Nat) = 8 + (8 + (8 + 8)) from rfl, shN_add 8 (8 + (8 + 8)), shN_add 8 (8 + 8), shN_add 8 8 (shN 8 (shN 8 (s ^^^ a))), show (24 : Nat) = 8 + (8 + 8) from rfl, shN_add 8 (8 + 8) b, shN_add 8 8 (shN 8 b), show (16 : Nat) = 8 + 8 from rfl, shN_add 8 8 c]
  simp only [shN_xor]

theorem addAll_append (s : Nat) (xs ys : List Nat) : addAll s (xs ++ ys) = addAll (addAll s xs) ys := by simp [addAll, List.foldl_append]

theorem tab_index {s a b c d : Nat} (hs : s < 4294967296) (ha : a < 256) (hb : b < 256) (hc : c < 256) (hd : d < 256) {w : Nat} (hw : w = s ^^^ word4 a b c d) :
    ent 3 (w % 256) ^^^ ent 2 (w / 256 % 256) ^^^ ent 1 (w / 65536 % 256) ^^^ ent 0 (w / 16777216) = addAll s [a, b, c, d] := by
  have hl : w < 4294967296 := by rw [hw]; exact xor_lt hs (word4_lt ha hb hc hd)
  show _ = add1 (add1 (add1 (add1 s a) b) c) d
  rw [step_four, ← sh32_word4, ← word4_of hl, hw]

theorem ent_lt {k i : Nat} (h : i < 256) : ent k i < 4294967296 := shN_lt _ (by omega)
theorem ent_succ (k i : Nat) : ent (k + 1) i = sh8 (ent k i) := by
  unfold ent sh8
  rw [← shN_add]
  rfl

/-- The numbers ahead of one; never unfolded. -/
def upTo (n : Nat) : List Nat := if h : n = 0 then [] else upTo (n - 1) ++ [n - 1]
  termination_by n
theorem upTo_eq : ∀ n, upTo n = List.range n
  | 0 => by rw [upTo]; simp
  | n + 1 => by rw [upTo, dif_neg (by omega), Nat.add_sub_cancel, upTo_eq n, List.range_succ]

/-- The table. -/
def tabL : List Nat := (upTo 1024).map fun q => ent (q / 256) (q % 256)
theorem tab_len : tabL.length = 1024 := by simp [tabL, upTo_eq]
theorem tab_get {q : Nat} (h : q < 1024) : tabL.getD q 0 = ent (q / 256) (q % 256) := by
  simp [tabL, upTo_eq, List.getD_eq_getElem?_getD, List.getElem?_map, List.getElem?_range h]

def tabV : AVal := .sptr (nums .u32 true tabL) 0
end Go.Am

namespace Go.Proofs.Ytlbalhddopcamaa
open Go Go.Am
set_option linter.unusedSimpArgs false
set_option linter.unusedVariables false

abbrev shC : Ctx := ⟨F.crc_shift, 14, [.tmp 2], none⟩

theorem and_u32 {a b : Nat} (ha : a < 4294967296) (hb : b < 4294967296) : Am.bits .and .u32 (a : Int) (b : Int) = ((a &&& b : Nat) : Int) := bits_and rfl ha hb
theorem or_u32 {a b : Nat} (ha : a < 4294967296) (hb : b < 4294967296) : Am.bits .or .u32 (a : Int) (b : Int) = ((a ||| b : Nat) : Int) := bits_or rfl ha hb
theorem xor_u32 {a b : Nat} (ha : a < 4294967296) (hb : b < 4294967296) : Am.bits .xor .u32 (a : Int) (b : Int) = ((a ^^^ b : Nat) : Int) := bits_xor rfl ha hb
theorem xor_u8 {a b : Nat} (ha : a < 256) (hb : b < 256) : Am.bits .xor .u8 (a : Int) (b : Int) = ((a ^^^ b : Nat) : Int) := bits_xor rfl ha hb
theorem and_255 (a : Nat) : a &&& 255 = a % 256 := Nat.and_two_pow_sub_one_eq_mod a 8

theorem sh_loop (K : List AItem) (H : AHeap) (Q : AVal → AHeap → Prop) {v : Nat} (hK : ∀ r', rget r' 0 = .int .u32 (v : Nat) → Run Try.prog shC K r' H Q) :
    ∀ (m i w : Nat), i + m = 8 → w < 4294967296 → shN m w = v → Rounds Try.prog shC crc_shift.b0 [.inBlock 0] K [(0, .int .u32 (w : Nat)), (3, .int .i64 (i : Nat))] H Q
  | 0, i, w, h1, h2, h3 => by
    refine loop_V 100 crc_shift.b0.eq_1 ?_
    have h3' : w = v := h3
    subst h3'
    simp (disch := first | omega | (simp only [lnx]; omega)) only [stdh, stdx, ↓reduceIte, Nat.reduceEqDiff, Int.reduceToNat, Int.reducePow, Nat.reduceAdd, Nat.reduceLeDiff, Nat.reduceMul, Nat.reduceBEq, reduceCtorEq]
    exact hK _ rfl
  | m + 1, i, w, h1, h2, h3 => by
    refine loop_V 100 crc_shift.b0.eq_1 ?_
    have e1 : Am.bits .and .u32 (w : Int) 1 = ((w % 2 : Nat) : Int) := by
      rw [show (1 : Int) = ((1 : Nat) : Int) from rfl, and_u32 h2 (by omega), Nat.and_one_is_mod]
    have e2 : (w : Int) / 2 = ((w / 2 : Nat) : Int) := by omega
    have e3 : IntKind.u32.wrap (0 - ((w % 2 : Nat) : Int)) = ((if w % 2 = 1 then 4294967295 else 0 : Nat) : Int) := by
      rcases Nat.mod_two_eq_zero_or_one w with h | h <;> rw [h] <;> decide
    have e4 : Am.bits .and .u32 3988292384 ((if w % 2 = 1 then 4294967295 else 0 : Nat) : Int) = ((if w % 2 = 1 then pol else 0 : Nat) : Int) := by
      split <;> decide
    have e5 : Am.bits .xor .u32 ((w / 2 : Nat) : Int) ((if w % 2 = 1 then pol else 0 : Nat) : Int) = ((sh1 w : Nat) : Int) := by
      rw [xor_u32 (by omega) (by split <;> decide)]; rfl
    simp (disch := first | omega | (simp only [lnx]; omega)) only [stdh, stdx, ↓reduceIte, Nat.reduceEqDiff, Int.reduceToNat, Int.reducePow, Nat.reduceAdd, Nat.reduceLeDiff, Nat.reduceMul, Nat.reduceBEq, reduceCtorEq, e1, e2, e3, e4, e5]
    exact sh_loop K H Q hK m (i + 1) (sh1 w) (by omega) (sh1_lt h2) h3

theorem shift_ok (H : AHeap) {w : Nat} (hw : w < 4294967296) (Q : AVal → AHeap → Prop) (h : Q (.int .u32 (sh8 w : Nat)) H) : FunOK Try.prog F.crc_shift [.int .u32 (w : Nat)] H Q := by
  refine fun_V 100 crc_shift_code rfl ?_
  simp (disch := first | omega | (simp only [lnx]; omega)) only [stdh, stdx, ↓reduceIte, Nat.reduceEqDiff, Int.reduceToNat, Int.reducePow, Nat.reduceAdd, Nat.reduceLeDiff, Nat.reduceMul, Nat.reduceBEq, reduceCtorEq, crc_shift, crc_shift.body]
  refine sh_loop _ H Q (v := sh8 w) ?_ 8 0 w rfl hw rfl
  intro r' e
  refine run_V0 60 ?_
  simp (disch := first | omega | (simp only [lnx]; omega)) only [stdh, stdx, ↓reduceIte, Nat.reduceEqDiff, Int.reduceToNat, Int.reducePow, Nat.reduceAdd, Nat.reduceLeDiff, Nat.reduceMul, Nat.reduceBEq, reduceCtorEq, e]
  exact h

/-! ### The table -/

def tabC (f : Nat → Nat) : List AVal := ((upTo 1024).map f).map fun n : Nat => AVal.int .u32 (n : Int)
theorem tabC_len (f : Nat → Nat) : (tabC f).length = 1024 := by simp [tabC, upTo_eq]
theorem tabC_set (f : Nat → Nat) {q v : Nat} (h : q < 1024) : (tabC f).set q (.int .u32 (v : Int)) = tabC fun x => if x = q then v else f x := by
  apply List.ext_getElem?
  intro i
  simp only [tabC, upTo_eq, List.getElem?_set, List.length_map, List.length_range, List.getElem?_map]
  by_cases hi : i < 1024
  · rw [List.getElem?_range hi]
    by_cases hq : q = i
    · subst hq; simp [h]
    · rw [if_neg hq]; simp [show ¬ i = q from fun e => hq e.symm]
  · by_cases hq : q = i
    · omega
    · rw [if_neg hq]; simp [hi, show ¬ i = q from fun e => hq e.symm]
theorem tabC_congr {f g : Nat → Nat} (h : ∀ q, q < 1024 → f q = g q) : tabC f = tabC g := by
  have : (upTo 1024).map f = (upTo 1024).map g := List.map_congr_left fun q hq => h q (by rw [upTo_eq] at hq; exact List.mem_range.1 hq)
  simp only [tabC, this]
theorem tabC_set1 (f : Nat → Nat) {q v : Nat} (h : q < 1024) : fillAt (tabC f) q [.int .u32 (v : Int)] = tabC fun x => if x = q then v else f x := by
  simp only [fillAt, tabC_set f h]
theorem tabC_fill (f g : Nat → Nat) : fillAt (tabC f) 0 (tabC g) = tabC g := by
  have key : ∀ (vs : List AVal) (cs : List AVal) (o : Nat), o + vs.length = cs.length → fillAt cs o vs = cs.take o ++ vs := by
    intro vs
    induction vs with
    | nil => intro cs o h; simp only [fillAt]; rw [List.take_of_length_le (by simp at h; omega), List.append_nil]
    | cons v vs ih =>
      intro cs o h
      simp only [fillAt]
      rw [ih _ _ (by simp at h ⊢; omega)]
      have ho : o < cs.length := by simp at h; omega
      rw [List.take_succ_eq_append_getElem (by simpa using ho), List.take_set, List.set_eq_of_length_le (by simp; omega)]
      simp
  rw [key _ _ _ (by simp [tabC_len])]
  simp

/-- Behind i columns, and k rows of the next one. -/
def tabF (i k q : Nat) : Nat := if q % 256 < i ∨ (q % 256 = i ∧ q / 256 < k) then ent (q / 256) (q % 256) else 0

abbrev newC : Ctx := ⟨F.crc_New, 28, [.tmp 0], none⟩

theorem new_inner (K : List AItem) (H : AHeap) (Q : AVal → AHeap → Prop) {i : Nat} (hi : i < 256)
    (hK : ∀ r', rget r' 1 = .ptr H.length 0 → rget r' 7 = .int .i64 (i : Nat) → Run Try.prog newC K r' (H ++ [.cells (tabC (tabF (i + 1) 0)) T.crc_Table]) Q) :
    ∀ (m k w : Nat), k + m = 4 → (∀ k', k = k' + 1 → w = ent k' i) → (k = 0 → w = i) → Rounds Try.prog newC crc_New.b0 [.inBlock 2] K [(1, .ptr H.length 0), (2, .int .i64 (i : Nat)), (3, .int .u32 (w : Nat)), (7, .int .i64 (i : Nat)), (12, .int .i64 (k : Nat))] (H ++ [.cells (tabC (tabF i k)) T.crc_Table]) Q
  | 0, k, w, h1, h2, h3 => by
    refine loop_V 100 crc_New.b0.eq_1 ?_
    have hk : k = 4 := by omega
    subst hk
    simp (disch := first | omega | (simp only [lnx]; omega)) only [stdh, stdx, ↓reduceIte, Nat.reduceEqDiff, Int.reduceToNat, Int.reducePow, Nat.reduceAdd, Nat.reduceLeDiff, Nat.reduceMul, Nat.reduceBEq, reduceCtorEq]
    have e : tabC (tabF i 4) = tabC (tabF (i + 1) 0) := tabC_congr fun q hq => by
      unfold tabF
      have : q / 256 < 4 := by omega
      by_cases h : q % 256 < i ∨ (q % 256 = i ∧ q / 256 < 4)
      · rw [if_pos h, if_pos (by omega)]
      · rw [if_neg h, if_neg (by omega)]
    rw [e]
    exact hK _ rfl rfl
  | m + 1, k, w, h1, h2, h3 => by
    refine loop_V 100 crc_New.b0.eq_1 ?_
    have hw : w < 4294967296 ∧ sh8 w = ent k i := by
      cases k with
      | zero => rw [h3 rfl]; exact ⟨by omega, rfl⟩
      | succ k => rw [h2 k rfl]; exact ⟨ent_lt hi, (ent_succ k i).symm⟩
    simp (disch := first | omega | (simp only [lnx]; omega)) only [stdh, stdx, ↓reduceIte, Nat.reduceEqDiff, Int.reduceToNat, Int.reducePow, Nat.reduceAdd, Nat.reduceLeDiff, Nat.reduceMul, Nat.reduceBEq, reduceCtorEq]
    refine callK_fn (shift_ok _ hw.1 _ ?_)
    rw [hw.2]
    refine runL_V 60 ?_
    have hst : fillAt (tabC (tabF i k)) (k * 256 + i) [AVal.int .u32 (ent k i : Nat)] = tabC (tabF i (k + 1)) := by
      rw [tabC_set1 _ (by omega)]
      refine tabC_congr fun q hq => ?_
      unfold tabF
      by_cases hq2 : q = k * 256 + i
      · subst hq2
        rw [if_pos rfl, if_pos (by omega), show (k * 256 + i) / 256 = k by omega, show (k * 256 + i) % 256 = i by omega]
      · rw [if_neg hq2]
        by_cases h : q % 256 < i ∨ (q % 256 = i ∧ q / 256 < k)
        · rw [if_pos h, if_pos (by omega)]
        · rw [if_neg h, if_neg (by omega)]
    simp (disch := first | omega | (simp only [lnx]; omega)) only [stdh, stdx, ↓reduceIte, Nat.reduceEqDiff, Int.reduceToNat, Int.reducePow, Nat.reduceAdd, Nat.reduceLeDiff, Nat.reduceMul, Nat.reduceBEq, reduceCtorEq, hst, tabC_len]
    have := new_inner K H Q hi hK m (k + 1) (ent k i) (by omega) (fun k' e => by rw [show k' = k by omega]) (fun e => by omega)
    exact this

theorem new_outer (K : List AItem) (H : AHeap) (Q : AVal → AHeap → Prop)
    (hK : ∀ r', rget r' 1 = .ptr H.length 0 → Run Try.prog newC K r' (H ++ [.cells (tabC (tabF 256 0)) T.crc_Table]) Q) :
    ∀ (m i : Nat), i + m = 256 → Rounds Try.prog newC crc_New.b1 [.inBlock 0] K [(1, .ptr H.length 0), (7, .int .i64 (i : Nat))] (H ++ [.cells (tabC (tabF i 0)) T.crc_Table]) Q
  | 0, i, h1 => by
    refine loop_V 100 crc_New.b1.eq_1 ?_
    have hi : i = 256 := by omega
    subst hi
    simp (disch := first | omega | (simp only [lnx]; omega)) only [stdh, stdx, ↓reduceIte, Nat.reduceEqDiff, Int.reduceToNat, Int.reducePow, Nat.reduceAdd, Nat.reduceLeDiff, Nat.reduceMul, Nat.reduceBEq, reduceCtorEq]
    exact hK _ rfl
  | m + 1, i, h1 => by
    refine loop_V 100 crc_New.b1.eq_1 ?_
    simp (disch := first | omega | (simp only [lnx]; omega)) only [stdh, stdx, ↓reduceIte, Nat.reduceEqDiff, Int.reduceToNat, Int.reducePow, Nat.reduceAdd, Nat.reduceLeDiff, Nat.reduceMul, Nat.reduceBEq, reduceCtorEq]
    refine new_inner _ H Q (by omega) ?_ 4 0 i rfl (fun k' e => by omega) (fun _ => rfl)
    intro r' g1 g2
    refine run_VT 60 [_, _, _, _] K rfl ?_
    simp (disch := first | omega | (simp only [lnx]; omega)) only [stdh, stdx, ↓reduceIte, Nat.reduceEqDiff, Int.reduceToNat, Int.reducePow, Nat.reduceAdd, Nat.reduceLeDiff, Nat.reduceMul, Nat.reduceBEq, reduceCtorEq, g1, g2]
    exact new_outer K H Q hK m (i + 1) (by omega)

def newBody (z : List AVal) : ACode := .seq (.region [⟨(some 0), .mov (.const .nilp), none⟩] [])
  (.seq (.region [⟨(some 5), .build z [], none⟩,
    ⟨(some 6), .box T.crc_Table (.tmp 5), none⟩,
    ⟨(some 1), .mov (.tmp 6), none⟩] [1])
  (.seq (.seq (.region [⟨(some 7), .mov (.const (.int .i64 0)), none⟩] [1, 7])
  (.block 0 (.loop crc_New.b1)))
  (.seq (.region [⟨(some 27), .mov (.tmp 1), none⟩,
    ⟨(some 0), .mov (.tmp 27), none⟩] [0])
  (.ret))))
theorem newBody_eq0 : crc_New.body = newBody (List.replicate 1024 (.int .u32 0)) := by kernel_rfl
theorem newBody_eq : crc_New.body = newBody (tabC fun _ => 0) := by
  rw [newBody_eq0]
  congr 1
  refine List.ext_getElem? fun i => ?_
  simp only [tabC, upTo_eq, List.map_map, List.getElem?_map, List.getElem?_replicate]
  by_cases hi : i < 1024
  · rw [if_pos hi, List.getElem?_range hi]; rfl
  · rw [if_neg hi, List.getElem?_eq_none (by simp; omega)]; rfl

theorem tab_full : tabC (tabF 256 0) = tabL.map fun n : Nat => AVal.int .u32 (n : Int) := by
  have : tabC (tabF 256 0) = tabC fun q => ent (q / 256) (q % 256) := tabC_congr fun q hq => by
    unfold tabF
    rw [if_pos (by omega)]
  rw [this]; rfl

theorem tabF_zero : tabC (tabF 0 0) = tabC fun _ => 0 := tabC_congr fun q hq => by
  unfold tabF
  rw [if_neg (by omega)]

theorem tabC_closed {L : Nat} {f : Nat → Nat} : closeds L (tabC f) := by
  unfold tabC
  generalize (upTo 1024).map f = xs
  exact closeds_ints _ xs

theorem nums_sptr (xs : List Nat) : AVal.sptr (.imm (xs.map fun n : Nat => AVal.int .u32 (n : Int)) (xs.map fun n : Nat => AVal.int .u32 (n : Int)).length true) 0 = .sptr (nums .u32 true xs) 0 := by
  simp only [nums, List.length_map]

theorem tab_end {H : AHeap} {Q : AVal → AHeap → Prop} (f : Nat → Nat) (h : Q tabV H) (hf : tabC f = tabL.map fun n : Nat => AVal.int .u32 (n : Int)) : IceQ H Q (.ptr H.length 0) (H ++ [.cells (tabC f) T.crc_Table]) := by
  refine ice_ptr tabC_closed ?_
  have e : AVal.sptr (.imm (tabC f) (tabC f).length true) 0 = tabV := by
    rw [hf]
    exact nums_sptr tabL
  rw [e]; exact h

theorem new_ok (H : AHeap) (Q : AVal → AHeap → Prop) (h : Q tabV H) : FunOK Try.prog F.crc_New [] H Q := by
  refine fun_iced crc_New_code fun _ => ?_
  refine fun_V 100 crc_New_code rfl ?_
  rw [show crc_New = ⟨28, 0, [.tmp 0], newBody (tabC fun _ => 0)⟩ by rw [← newBody_eq]; rfl, ← tabF_zero]
  have hce : (tabC (tabF 0 0)).all AVal.cellish = true := by simp [tabC, AVal.cellish]
  simp (disch := first | omega | (simp only [lnx]; omega)) only [stdh, stdx, ↓reduceIte, Nat.reduceEqDiff, Int.reduceToNat, Int.reducePow, Nat.reduceAdd, Nat.reduceLeDiff, Nat.reduceMul, Nat.reduceBEq, reduceCtorEq, newBody, hce]
  refine new_outer _ H _ ?_ 256 0 rfl
  intro r' g1
  refine run_V0 60 ?_
  simp (disch := first | omega | (simp only [lnx]; omega)) only [stdh, stdx, ↓reduceIte, Nat.reduceEqDiff, Int.reduceToNat, Int.reducePow, Nat.reduceAdd, Nat.reduceLeDiff, Nat.reduceMul, Nat.reduceBEq, reduceCtorEq, g1]
  exact tab_end (tabF 256 0) h tab_full

theorem add_nil (H : AHeap) (s b : AVal) (Q : AVal → AHeap → Prop) (h : Q (.int .u32 0) H) : FunOK Try.prog F.crc_Table_Add [.nilp, s, b] H Q := by
  refine fun_V 100 crc_Table_Add_code rfl ?_
  simp (disch := first | omega | (simp only [lnx]; omega)) only [stdh, stdx, ↓reduceIte, Nat.reduceEqDiff, Int.reduceToNat, Int.reducePow, Nat.reduceAdd, Nat.reduceLeDiff, Nat.reduceMul, Nat.reduceBEq, reduceCtorEq, crc_Table_Add, crc_Table_Add.body, eqA]
  exact h

abbrev addC : Ctx := ⟨F.crc_Table_Add, 98, [.tmp 6], none⟩

theorem add_rest (K : List AItem) (H : AHeap) (Q : AVal → AHeap → Prop) {t : Bool} {bs : List Nat} (hlen : bs.length ≤ 9223372036854775807) (hb : ∀ b ∈ bs, b < 256) {v : Nat} (hK : ∀ r', rget r' 1 = .int .u32 (v : Nat) → Run Try.prog addC K r' H Q) :
    ∀ (m j s : Nat), j + m = bs.length → s < 4294967296 → addAll s (bs.drop j) = v →
    Rounds Try.prog addC crc_Table_Add.b3 [.inBlock 2] K [(0, tabV), (1, .int .u32 (s : Nat)), (77, nums .u8 t bs), (78, .int .i64 (bs.length : Nat)), (79, .int .i64 (j : Nat))] H Q
  | 0, j, s, h1, h2, h3 => by
    refine loop_V 100 crc_Table_Add.b3.eq_1 ?_
    rw [List.drop_eq_nil_of_le (by omega)] at h3
    have h3' : s = v := h3
    subst h3'
    simp (disch := first | omega | (simp only [lnx]; omega)) only [stdh, stdx, ↓reduceIte, Nat.reduceEqDiff, Int.reduceToNat, Int.reducePow, Nat.reduceAdd, Nat.reduceLeDiff, Nat.reduceMul, Nat.reduceBEq, reduceCtorEq]
    exact hK _ rfl
  | m + 1, j, s, h1, h2, h3 => by
    refine loop_V 100 crc_Table_Add.b3.eq_1 ?_
    have hj : j < bs.length := by omega
    rw [List.drop_eq_getElem_cons hj] at h3
    have hb' : bs.getD j 0 < 256 := by
      rw [List.getD_eq_getElem?_getD]; simp [hj]; exact hb _ (List.getElem_mem hj)
    have hbe : bs[j] = bs.getD j 0 := by simp [hj]
    rw [hbe] at h3
    generalize hce : bs.getD j 0 = c at *
    have hl := tab_len
    have e1 : (s : Int) / 256 = ((s / 256 : Nat) : Int) := by omega
    have e2 : IntKind.u8.wrap (s : Int) = ((s % 256 : Nat) : Int) := by rw [wrap_u8']; omega
    have e3 : Am.bits .xor .u8 ((s % 256 : Nat) : Int) (c : Int) = ((s % 256 ^^^ c : Nat) : Int) := xor_u8 (by omega) hb'
    have hx : s % 256 ^^^ c < 256 := Nat.xor_lt_two_pow (n := 8) (by omega) hb'
    generalize hxe : s % 256 ^^^ c = x at *
    have e4 : tabL.getD x 0 = ent 0 x := by
      rw [tab_get (by omega), Nat.div_eq_of_lt (by omega), Nat.mod_eq_of_lt (by omega)]
    have e5 : Am.bits .xor .u32 ((s / 256 : Nat) : Int) ((ent 0 x : Nat) : Int) = ((add1 s c : Nat) : Int) := by
      rw [xor_u32 (by omega) (ent_lt (by omega)), step_one hb', hxe]
    simp (disch := first | omega | (simp only [lnx]; omega)) only [stdh, stdx, ↓reduceIte, Nat.reduceEqDiff, Int.reduceToNat, Int.reducePow, Nat.reduceAdd, Nat.reduceLeDiff, Nat.reduceMul, Nat.reduceBEq, reduceCtorEq, hce, tabV, e1, e2, e3, Nat.add_zero, e4, e5]
    exact add_rest K H Q hlen hb hK m (j + 1) (add1 s c) (by omega) (add1_lt h2 hb') h3

set_option maxRecDepth 20000 in
theorem add_four (K : List AItem) (H : AHeap) (Q : AVal → AHeap → Prop) {v : Nat} :
    ∀ (m s : Nat) (t : Bool) (bs : List Nat) (r : Regs), rget r 0 = tabV → rget r 1 = .int .u32 (s : Nat) → rget r 2 = nums .u8 t bs → bs.length = m → (∀ b ∈ bs, b < 256) → s < 4294967296 → addAll s bs = v →
    (∀ r' s' t' bs', (∀ b ∈ bs', b < 256) → s' < 4294967296 → addAll s' bs' = v → rget r' 0 = tabV → rget r' 1 = .int .u32 (s' : Nat) → rget r' 2 = nums .u8 t' bs' → bs'.length ≤ m → Run Try.prog addC K r' H Q) →
    Rounds Try.prog addC crc_Table_Add.b2 [.inBlock 0] K r H Q := by
  intro m
  induction m using Nat.strongRecOn with
  | _ m ih =>
  intro s t bs r r0 r1 r2 h1 hb h2 h3 hK
  refine loop_V 200 crc_Table_Add.b2.eq_1 ?_
  by_cases h4 : bs.length < 4
  · simp (disch := first | omega | (simp only [lnx]; omega)) only [stdh, stdx, ↓reduceIte, Nat.reduceEqDiff, Int.reduceToNat, Int.reducePow, Nat.reduceAdd, Nat.reduceLeDiff, Nat.reduceMul, Nat.reduceBEq, reduceCtorEq, r0, r1, r2]
    exact hK _ s t bs hb h2 h3 rfl rfl rfl (by omega)
  · obtain ⟨b0, b1, b2, b3, cs, rfl⟩ : ∃ b0 b1 b2 b3 cs, bs = b0 :: b1 :: b2 :: b3 :: cs := by
      match bs, h4 with
      | [], h4 => simp at h4
      | [_], h4 => simp at h4
      | [_, _], h4 => simp at h4
      | [_, _, _], h4 => simp at h4
      | b0 :: b1 :: b2 :: b3 :: cs, _ => exact ⟨b0, b1, b2, b3, cs, rfl⟩
    · have c0 : b0 < 256 := hb b0 (by simp)
      have c1 : b1 < 256 := hb b1 (by simp)
      have c2 : b2 < 256 := hb b2 (by simp)
      have c3 : b3 < 256 := hb b3 (by simp)
      have e1 : IntKind.u32.wrap ((b1 : Int) * 256) = ((b1 * 256 : Nat) : Int) := by rw [wrap_u32 (by omega)]; omega
      have e2 : IntKind.u32.wrap ((b2 : Int) * 65536) = ((b2 * 65536 : Nat) : Int) := by rw [wrap_u32 (by omega)]; omega
      have e3 : IntKind.u32.wrap ((b3 : Int) * 16777216) = ((b3 * 16777216 : Nat) : Int) := by rw [wrap_u32 (by omega)]; omega
      have e4 : Am.bits .or .u32 (b0 : Int) ((b1 * 256 : Nat) : Int) = ((b0 ||| b1 * 256 : Nat) : Int) := or_u32 (by omega) (by omega)
      have e5 : Am.bits .or .u32 ((b0 ||| b1 * 256 : Nat) : Int) ((b2 * 65536 : Nat) : Int) = (((b0 ||| b1 * 256) ||| b2 * 65536 : Nat) : Int) := or_u32 (Nat.or_lt_two_pow (n := 32) (by omega) (by omega)) (by omega)
      have e6 : Am.bits .or .u32 (((b0 ||| b1 * 256) ||| b2 * 65536 : Nat) : Int) ((b3 * 16777216 : Nat) : Int) = ((word4 b0 b1 b2 b3 : Nat) : Int) := by
        rw [or_u32 (Nat.or_lt_two_pow (n := 32) (Nat.or_lt_two_pow (n := 32) (by omega) (by omega)) (by omega)) (by omega), word4_or c0 c1 c2]
      have hw4 := word4_lt c0 c1 c2 c3
      have e7 : Am.bits .xor .u32 (s : Int) ((word4 b0 b1 b2 b3 : Nat) : Int) = ((s ^^^ word4 b0 b1 b2 b3 : Nat) : Int) := xor_u32 h2 hw4
      have hwl : s ^^^ word4 b0 b1 b2 b3 < 4294967296 := xor_lt h2 hw4
      generalize hwe : s ^^^ word4 b0 b1 b2 b3 = w at *
      have hti := tab_index h2 c0 c1 c2 c3 hwe.symm
      have hl := tab_len
      have a3 : Am.bits .and .u32 (w : Int) 255 = ((w % 256 : Nat) : Int) := by
        rw [show (255 : Int) = ((255 : Nat) : Int) from rfl, and_u32 hwl (by omega), and_255]
      have a2 : Am.bits .and .u32 ((w : Int) / 256) 255 = ((w / 256 % 256 : Nat) : Int) := by
        rw [show (w : Int) / 256 = ((w / 256 : Nat) : Int) by omega, show (255 : Int) = ((255 : Nat) : Int) from rfl, and_u32 (by omega) (by omega), and_255]
      have a1 : Am.bits .and .u32 ((w : Int) / 65536) 255 = ((w / 65536 % 256 : Nat) : Int) := by
        rw [show (w : Int) / 65536 = ((w / 65536 : Nat) : Int) by omega, show (255 : Int) = ((255 : Nat) : Int) from rfl, and_u32 (by omega) (by omega), and_255]
      have a0 : (w : Int) / 16777216 = ((w / 16777216 : Nat) : Int) := by omega
      have g3 : tabL.getD (768 + w % 256) 0 = ent 3 (w % 256) := by
        rw [tab_get (by omega), show (768 + w % 256) / 256 = 3 by omega, show (768 + w % 256) % 256 = w % 256 by omega]
      have g2 : tabL.getD (512 + w / 256 % 256) 0 = ent 2 (w / 256 % 256) := by
        rw [tab_get (by omega), show (512 + w / 256 % 256) / 256 = 2 by omega, show (512 + w / 256 % 256) % 256 = w / 256 % 256 by omega]
      have g1 : tabL.getD (256 + w / 65536 % 256) 0 = ent 1 (w / 65536 % 256) := by
        rw [tab_get (by omega), show (256 + w / 65536 % 256) / 256 = 1 by omega, show (256 + w / 65536 % 256) % 256 = w / 65536 % 256 by omega]
      have g0 : tabL.getD (w / 16777216) 0 = ent 0 (w / 16777216) := by
        rw [tab_get (by omega), show (w / 16777216) / 256 = 0 by omega, Nat.mod_eq_of_lt (by omega)]
      have l3 : ent 3 (w % 256) < 4294967296 := ent_lt (by omega)
      have l2 : ent 2 (w / 256 % 256) < 4294967296 := ent_lt (by omega)
      have l1 : ent 1 (w / 65536 % 256) < 4294967296 := ent_lt (by omega)
      have l0 : ent 0 (w / 16777216) < 4294967296 := ent_lt (by omega)
      have x1 := xor_u32 l3 l2
      have x2 := xor_u32 (xor_lt l3 l2) l1
      have x3 := xor_u32 (xor_lt (xor_lt l3 l2) l1) l0
      rw [hti] at x3
      have hs' : addAll s [b0, b1, b2, b3] < 4294967296 := addAll_lt _ h2 (by simp; omega)
      have hrec : addAll (addAll s [b0, b1, b2, b3]) cs = v := by rw [← addAll_append]; exact h3
      (simp (disch := first | omega | (simp only [lnx]; omega)) only [stdh, stdx, ↓reduceIte, Nat.reduceEqDiff, Int.reduceToNat, Int.reducePow, Nat.reduceAdd, Nat.reduceLeDiff, Nat.reduceMul, Nat.reduceBEq, reduceCtorEq, r0, r1, r2, crc_Table_Add.d0, crc_Table_Add.d1, e1, e2, e3, e4, e5, e6, e7, a3, a2, a1, a0, tabV, Nat.add_zero, g3, g2, g1, g0, x1, x2, x3]; repeat (first | (refine runL_V 20 ?_; simp (disch := first | omega | (simp only [lnx]; omega)) only [stdh, stdx, ↓reduceIte, Nat.reduceEqDiff, Int.reduceToNat, Int.reducePow, Nat.reduceAdd, Nat.reduceLeDiff, Nat.reduceMul, Nat.reduceBEq, reduceCtorEq, r0, r1, r2, crc_Table_Add.d0, crc_Table_Add.d1, e1, e2, e3, e4, e5, e6, e7, a3, a2, a1, a0, tabV, Nat.add_zero, g3, g2, g1, g0, x1, x2, x3]) | (refine run_V 20 ?_; simp (disch := first | omega | (simp only [lnx]; omega)) only [stdh, stdx, ↓reduceIte, Nat.reduceEqDiff, Int.reduceToNat, Int.reducePow, Nat.reduceAdd, Nat.reduceLeDiff, Nat.reduceMul, Nat.reduceBEq, reduceCtorEq, r0, r1, r2, crc_Table_Add.d0, crc_Table_Add.d1, e1, e2, e3, e4, e5, e6, e7, a3, a2, a1, a0, tabV, Nat.add_zero, g3, g2, g1, g0, x1, x2, x3]) | (refine runD_V 20 ?_; simp (disch := first | omega | (simp only [lnx]; omega)) only [stdh, stdx, ↓reduceIte, Nat.reduceEqDiff, Int.reduceToNat, Int.reducePow, Nat.reduceAdd, Nat.reduceLeDiff, Nat.reduceMul, Nat.reduceBEq, reduceCtorEq, r0, r1, r2, crc_Table_Add.d0, crc_Table_Add.d1, e1, e2, e3, e4, e5, e6, e7, a3, a2, a1, a0, tabV, Nat.add_zero, g3, g2, g1, g0, x1, x2, x3])))
      exact ih cs.length (by simp at h1; omega) _ t cs _ rfl rfl rfl rfl (fun b hb' => hb b (by simp [hb'])) hs' hrec (fun r' s' t' bs' a1 a2 a3 a4 a5 a6 a7 => hK r' s' t' bs' a1 a2 a3 a4 a5 a6 (by simp at h1; omega))

theorem add_ok (H : AHeap) {s : Nat} (hs : s < 4294967296) {t : Bool} {bs : List Nat} (hlen : bs.length ≤ 9223372036854775807) (hb : ∀ b ∈ bs, b < 256) (Q : AVal → AHeap → Prop) (h : Q (.int .u32 (addAll s bs : Nat)) H) :
    FunOK Try.prog F.crc_Table_Add [tabV, .int .u32 (s : Nat), nums .u8 t bs] H Q := by
  refine fun_V 100 crc_Table_Add_code rfl ?_
  have hne : eqA .ptr tabV .nilp = some false := rfl
  simp (disch := first | omega | (simp only [lnx]; omega)) only [stdh, stdx, ↓reduceIte, Nat.reduceEqDiff, Int.reduceToNat, Int.reducePow, Nat.reduceAdd, Nat.reduceLeDiff, Nat.reduceMul, Nat.reduceBEq, reduceCtorEq, crc_Table_Add, crc_Table_Add.body, hne]
  refine add_four _ H Q (v := addAll s bs) bs.length s t bs _ rfl rfl rfl rfl hb hs rfl ?_
  intro r' s' t' bs' g1 g2 g3 g4 g5 g6 g7
  refine run_V0 60 ?_
  simp (disch := first | omega | (simp only [lnx]; omega)) only [stdh, stdx, ↓reduceIte, Nat.reduceEqDiff, Int.reduceToNat, Int.reducePow, Nat.reduceAdd, Nat.reduceLeDiff, Nat.reduceMul, Nat.reduceBEq, reduceCtorEq, g4, g5, g6]
  refine add_rest _ H Q (by omega) g1 (v := addAll s bs) ?_ bs'.length 0 s' (by omega) g2 g3
  intro r'' e
  refine run_V0 60 ?_
  simp (disch := first | omega | (simp only [lnx]; omega)) only [stdh, stdx, ↓reduceIte, Nat.reduceEqDiff, Int.reduceToNat, Int.reducePow, Nat.reduceAdd, Nat.reduceLeDiff, Nat.reduceMul, Nat.reduceBEq, reduceCtorEq, e]
  exact h

theorem begin_ok (H : AHeap) (Q : AVal → AHeap → Prop) (h : Q (.int .u32 4294967295) H) : FunOK Try.prog F.crc_Table_Begin [tabV] H Q := by
  refine fun_V 100 crc_Table_Begin_code rfl ?_
  have hne : eqA .ptr tabV .nilp = some false := rfl
  simp (disch := first | omega | (simp only [lnx]; omega)) only [stdh, stdx, ↓reduceIte, Nat.reduceEqDiff, Int.reduceToNat, Int.reducePow, Nat.reduceAdd, Nat.reduceLeDiff, Nat.reduceMul, Nat.reduceBEq, reduceCtorEq, crc_Table_Begin, crc_Table_Begin.body, hne]
  exact h

theorem ones_xor_u32 {x : Nat} (h : x < 4294967296) : Am.bits .xor .u32 4294967295 (x : Int) = ((4294967295 - x : Nat) : Int) := by
  have h1 := toNat_ofInt (n := 32) h
  show IntKind.u32.wrap ((BitVec.allOnes 32 ^^^ BitVec.ofInt 32 (x : Int)).toNat : Int) = _
  rw [BitVec.allOnes_xor, BitVec.toNat_not, h1, wrap_u32 (by omega)]
theorem ones_u32 : (if IntKind.u32.signed = true then (-1 : Int) else IntKind.u32.max) = 4294967295 := rfl

theorem end_ok (H : AHeap) {s : Nat} (hs : s < 4294967296) (Q : AVal → AHeap → Prop) (h : Q (.int .u32 (4294967295 - s : Nat)) H) : FunOK Try.prog F.crc_Table_End [tabV, .int .u32 (s : Nat)] H Q := by
  refine fun_V 100 crc_Table_End_code rfl ?_
  have hne : eqA .ptr tabV .nilp = some false := rfl
  simp (disch := first | omega | (simp only [lnx]; omega)) only [stdh, stdx, ↓reduceIte, Nat.reduceEqDiff, Int.reduceToNat, Int.reducePow, Nat.reduceAdd, Nat.reduceLeDiff, Nat.reduceMul, Nat.reduceBEq, reduceCtorEq, crc_Table_End, crc_Table_End.body, hne, ones_u32, ones_xor_u32 hs]
  try exact h

theorem load_view {H : AHeap} {a : AVal} {cs : List AVal} (h : view H a = some cs) {j : Nat} (hj : j < cs.length) : loadA H none (.sptr a j) = some (True, cs.getD j .junk) := by
  simp only [loadA, cellsAt, h, Option.map_some]
  congr 2
  · simp; omega
  · rw [List.headD_eq_head?_getD, List.head?_drop]
    simp [List.getD_eq_getElem?_getD]

abbrev sumC : Ctx := ⟨F.crc_Table_Sum, 24, [.tmp 4], none⟩

/-- Lists of bytes, in a list. -/
structure ByteLists (H : AHeap) (l : AVal) (bss : List (List Nat)) : Prop where
  len : slen l = some bss.length
  view : ∃ cs, view H l = some cs ∧ cs.length = bss.length ∧ ∀ j, j < bss.length → Sees (cs.getD j .junk) (nums .u8 false (bss.getD j []))
  lt : ∀ bs ∈ bss, (∀ b ∈ bs, b < 256) ∧ bs.length ≤ 9223372036854775807
  le : bss.length ≤ 9223372036854775807

theorem sum_loop (K : List AItem) (H : AHeap) (Q : AVal → AHeap → Prop) {l : AVal} {bss : List (List Nat)} (hl : ByteLists H l bss) {v : Nat} (hK : ∀ r', rget r' 0 = tabV → (∃ s : Nat, s = v ∧ s < 4294967296 ∧ rget r' 5 = .int .u32 (s : Nat)) → Run Try.prog sumC K r' H Q) :
    ∀ (m j s : Nat), j + m = bss.length → s < 4294967296 → addAll s (bss.drop j).flatten = v →
    Rounds Try.prog sumC crc_Table_Sum.b0 [.inBlock 0] K [(0, tabV), (5, .int .u32 (s : Nat)), (10, l), (11, .int .i64 (bss.length : Nat)), (12, .int .i64 (j : Nat))] H Q
  | 0, j, s, h1, h2, h3 => by
    refine loop_V 100 crc_Table_Sum.b0.eq_1 ?_
    rw [List.drop_eq_nil_of_le (by omega)] at h3
    simp (disch := first | omega | (simp only [lnx]; omega)) only [stdh, stdx, ↓reduceIte, Nat.reduceEqDiff, Int.reduceToNat, Int.reducePow, Nat.reduceAdd, Nat.reduceLeDiff, Nat.reduceMul, Nat.reduceBEq, reduceCtorEq]
    exact hK _ rfl ⟨s, h3, h2, rfl⟩
  | m + 1, j, s, h1, h2, h3 => by
    refine loop_V 100 crc_Table_Sum.b0.eq_1 ?_
    have hj : j < bss.length := by omega
    obtain ⟨hlen, ⟨cs, hv, hcl, hsee⟩, hlt, hle⟩ := hl
    have hld := load_view hv (j := j) (by omega)
    have his : (view H l).isSome = true := by rw [hv]; rfl
    rw [List.drop_eq_getElem_cons hj, List.flatten_cons, addAll_append] at h3
    have hmem : bss[j] ∈ bss := List.getElem_mem hj
    obtain ⟨hb, hbl⟩ := hlt _ hmem
    have hbe : bss.getD j [] = bss[j] := by simp [hj]
    have hs := hsee j hj
    rw [hbe] at hs
    simp (disch := first | omega | (simp only [lnx]; omega)) only [stdh, stdx, ↓reduceIte, Nat.reduceEqDiff, Int.reduceToNat, Int.reducePow, Nat.reduceAdd, Nat.reduceLeDiff, Nat.reduceMul, Nat.reduceBEq, reduceCtorEq, hlen, his, hld]
    refine callK_fn (fun_sees (.cons (.refl _) (.cons (.refl _) (.cons hs .nil))) (add_ok _ h2 hbl hb _ ?_))
    refine runL_V 60 ?_
    simp (disch := first | omega | (simp only [lnx]; omega)) only [stdh, stdx, ↓reduceIte, Nat.reduceEqDiff, Int.reduceToNat, Int.reducePow, Nat.reduceAdd, Nat.reduceLeDiff, Nat.reduceMul, Nat.reduceBEq, reduceCtorEq]
    exact sum_loop K H Q ⟨hlen, ⟨cs, hv, hcl, hsee⟩, hlt, hle⟩ hK m (j + 1) _ (by omega) (addAll_lt _ h2 hb) h3

theorem sum_ok (H : AHeap) {l : AVal} {bss : List (List Nat)} (hl : ByteLists H l bss) (Q : AVal → AHeap → Prop) (h : Q (.int .u32 (sumOf bss.flatten : Nat)) H) : FunOK Try.prog F.crc_Table_Sum [tabV, l] H Q := by
  refine fun_V 100 crc_Table_Sum_code rfl ?_
  simp (disch := first | omega | (simp only [lnx]; omega)) only [stdh, stdx, ↓reduceIte, Nat.reduceEqDiff, Int.reduceToNat, Int.reducePow, Nat.reduceAdd, Nat.reduceLeDiff, Nat.reduceMul, Nat.reduceBEq, reduceCtorEq, crc_Table_Sum, crc_Table_Sum.body]
  refine callK_fn (begin_ok _ _ ?_)
  refine runL_V 60 ?_
  simp (disch := first | omega | (simp only [lnx]; omega)) only [stdh, stdx, ↓reduceIte, Nat.reduceEqDiff, Int.reduceToNat, Int.reducePow, Nat.reduceAdd, Nat.reduceLeDiff, Nat.reduceMul, Nat.reduceBEq, reduceCtorEq, hl.len]
  refine sum_loop _ H Q hl (v := addAll 4294967295 bss.flatten) ?_ bss.length 0 4294967295 (by omega) (by omega) rfl
  rintro r' e0 ⟨s, hs, hs2, e⟩
  refine run_V0 60 ?_
  simp (disch := first | omega | (simp only [lnx]; omega)) only [stdh, stdx, ↓reduceIte, Nat.reduceEqDiff, Int.reduceToNat, Int.reducePow, Nat.reduceAdd, Nat.reduceLeDiff, Nat.reduceMul, Nat.reduceBEq, reduceCtorEq, e0, e]
  refine callK_fn (end_ok _ hs2 _ ?_)
  refine runL_V 60 ?_
  simp (disch := first | omega | (simp only [lnx]; omega)) only [stdh, stdx, ↓reduceIte, Nat.reduceEqDiff, Int.reduceToNat, Int.reducePow, Nat.reduceAdd, Nat.reduceLeDiff, Nat.reduceMul, Nat.reduceBEq, reduceCtorEq]
  rw [hs]
  exact h

theorem sum_nil (H : AHeap) {l x : AVal} (hl : slen l = some 1) (hv : view H l = some [x]) (Q : AVal → AHeap → Prop) (h : Q (.int .u32 0) H) : FunOK Try.prog F.crc_Table_Sum [.nilp, l] H Q := by
  refine fun_V 100 crc_Table_Sum_code rfl ?_
  simp (disch := first | omega | (simp only [lnx]; omega)) only [stdh, stdx, ↓reduceIte, Nat.reduceEqDiff, Int.reduceToNat, Int.reducePow, Nat.reduceAdd, Nat.reduceLeDiff, Nat.reduceMul, Nat.reduceBEq, reduceCtorEq, crc_Table_Sum, crc_Table_Sum.body]
  refine callK_fn (fun_reck codes_ok 100 (.int .u32 0) (by kernel_rfl) rfl rfl _ _ ?_)
  refine runL_V 60 ?_
  simp (disch := first | omega | (simp only [lnx]; omega)) only [stdh, stdx, ↓reduceIte, Nat.reduceEqDiff, Int.reduceToNat, Int.reducePow, Nat.reduceAdd, Nat.reduceLeDiff, Nat.reduceMul, Nat.reduceBEq, reduceCtorEq, hl]
  have hld := load_view hv (j := 0) (by simp)
  have his : (view H l).isSome = true := by rw [hv]; rfl
  refine loop_V 100 crc_Table_Sum.b0.eq_1 ?_
  simp (disch := first | omega | (simp only [lnx]; omega)) only [stdh, stdx, ↓reduceIte, Nat.reduceEqDiff, Int.reduceToNat, Int.reducePow, Nat.reduceAdd, Nat.reduceLeDiff, Nat.reduceMul, Nat.reduceBEq, reduceCtorEq, hl, his, hld]
  refine callK_fn (add_nil _ _ _ _ ?_)
  refine runL_V 60 ?_
  simp (disch := first | omega | (simp only [lnx]; omega)) only [stdh, stdx, ↓reduceIte, Nat.reduceEqDiff, Int.reduceToNat, Int.reducePow, Nat.reduceAdd, Nat.reduceLeDiff, Nat.reduceMul, Nat.reduceBEq, reduceCtorEq]
  refine loop_V 100 crc_Table_Sum.b0.eq_1 ?_
  simp (disch := first | omega | (simp only [lnx]; omega)) only [stdh, stdx, ↓reduceIte, Nat.reduceEqDiff, Int.reduceToNat, Int.reducePow, Nat.reduceAdd, Nat.reduceLeDiff, Nat.reduceMul, Nat.reduceBEq, reduceCtorEq]
  refine run_V0 60 ?_
  simp (disch := first | omega | (simp only [lnx]; omega)) only [stdh, stdx, ↓reduceIte, Nat.reduceEqDiff, Int.reduceToNat, Int.reducePow, Nat.reduceAdd, Nat.reduceLeDiff, Nat.reduceMul, Nat.reduceBEq, reduceCtorEq]
  refine callK_fn (fun_reck codes_ok 100 (.int .u32 0) (by kernel_rfl) rfl rfl _ _ ?_)
  refine runL_V 60 ?_
  simp (disch := first | omega | (simp only [lnx]; omega)) only [stdh, stdx, ↓reduceIte, Nat.reduceEqDiff, Int.reduceToNat, Int.reducePow, Nat.reduceAdd, Nat.reduceLeDiff, Nat.reduceMul, Nat.reduceBEq, reduceCtorEq]
  exact h

theorem entry_ok (H : AHeap) {i : Int} (hi : -9223372036854775808 ≤ i ∧ i < 9223372036854775808) (Q : AVal → AHeap → Prop) (h : Q (.int .u32 ((if 0 ≤ i ∧ i < 256 then ent 0 i.toNat else 0 : Nat) : Int)) H) : FunOK Try.prog F.crc_Table_Entry [tabV, .int .i64 i] H Q := by
  refine fun_V 100 crc_Table_Entry_code rfl ?_
  have hne : eqA .ptr tabV .nilp = some false := rfl
  have hl := tab_len
  by_cases h0 : i < 0
  · rw [if_neg (by omega)] at h
    simp (disch := first | omega | (simp only [lnx]; omega)) only [stdh, stdx, ↓reduceIte, Nat.reduceEqDiff, Int.reduceToNat, Int.reducePow, Nat.reduceAdd, Nat.reduceLeDiff, Nat.reduceMul, Nat.reduceBEq, reduceCtorEq, crc_Table_Entry, crc_Table_Entry.body, hne]
    exact h
  · by_cases h1 : 255 < i
    · rw [if_neg (by omega)] at h
      simp (disch := first | omega | (simp only [lnx]; omega)) only [stdh, stdx, ↓reduceIte, Nat.reduceEqDiff, Int.reduceToNat, Int.reducePow, Nat.reduceAdd, Nat.reduceLeDiff, Nat.reduceMul, Nat.reduceBEq, reduceCtorEq, crc_Table_Entry, crc_Table_Entry.body, hne]
      exact h
    · rw [if_pos (by omega)] at h
      obtain ⟨n, rfl⟩ : ∃ n : Nat, i = n := ⟨i.toNat, by omega⟩
      have e4 : tabL.getD n 0 = ent 0 n := by
        rw [tab_get (by omega), Nat.div_eq_of_lt (by omega), Nat.mod_eq_of_lt (by omega)]
      simp (disch := first | omega | (simp only [lnx]; omega)) only [stdh, stdx, ↓reduceIte, Nat.reduceEqDiff, Int.reduceToNat, Int.reducePow, Nat.reduceAdd, Nat.reduceLeDiff, Nat.reduceMul, Nat.reduceBEq, reduceCtorEq, crc_Table_Entry, crc_Table_Entry.body, hne, tabV, Nat.add_zero, e4]
      simpa using h

abbrev slowC : Ctx := ⟨F.crc_Slow, 20, [.tmp 2], none⟩

theorem slow_loop (K : List AItem) (H : AHeap) (Q : AVal → AHeap → Prop) {t : Bool} {bs : List Nat} (hlen : bs.length ≤ 9223372036854775807) (hb : ∀ b ∈ bs, b < 256) {v : Nat} (hK : ∀ r', (∃ s : Nat, s = v ∧ s < 4294967296 ∧ rget r' 3 = .int .u32 (s : Nat)) → Run Try.prog slowC K r' H Q) :
    ∀ (m j s : Nat), j + m = bs.length → s < 4294967296 → addAll s (bs.drop j) = v →
    Rounds Try.prog slowC crc_Slow.b0 [.inBlock 0] K [(3, .int .u32 (s : Nat)), (6, nums .u8 t bs), (7, .int .i64 (bs.length : Nat)), (8, .int .i64 (j : Nat))] H Q
  | 0, j, s, h1, h2, h3 => by
    refine loop_V 100 crc_Slow.b0.eq_1 ?_
    rw [List.drop_eq_nil_of_le (by omega)] at h3
    simp (disch := first | omega | (simp only [lnx]; omega)) only [stdh, stdx, ↓reduceIte, Nat.reduceEqDiff, Int.reduceToNat, Int.reducePow, Nat.reduceAdd, Nat.reduceLeDiff, Nat.reduceMul, Nat.reduceBEq, reduceCtorEq]
    exact hK _ ⟨s, h3, h2, rfl⟩
  | m + 1, j, s, h1, h2, h3 => by
    refine loop_V 100 crc_Slow.b0.eq_1 ?_
    have hj : j < bs.length := by omega
    rw [List.drop_eq_getElem_cons hj] at h3
    have hb' : bs.getD j 0 < 256 := by
      rw [List.getD_eq_getElem?_getD]; simp [hj]; exact hb _ (List.getElem_mem hj)
    have hbe : bs[j] = bs.getD j 0 := by simp [hj]
    rw [hbe] at h3
    generalize hce : bs.getD j 0 = c at *
    have e1 := xor_u32 h2 (show c < 4294967296 by omega)
    simp (disch := first | omega | (simp only [lnx]; omega)) only [stdh, stdx, ↓reduceIte, Nat.reduceEqDiff, Int.reduceToNat, Int.reducePow, Nat.reduceAdd, Nat.reduceLeDiff, Nat.reduceMul, Nat.reduceBEq, reduceCtorEq, hce, e1]
    refine callK_fn (shift_ok _ (xor_lt h2 (by omega)) _ ?_)
    refine runL_V 60 ?_
    simp (disch := first | omega | (simp only [lnx]; omega)) only [stdh, stdx, ↓reduceIte, Nat.reduceEqDiff, Int.reduceToNat, Int.reducePow, Nat.reduceAdd, Nat.reduceLeDiff, Nat.reduceMul, Nat.reduceBEq, reduceCtorEq]
    exact slow_loop K H Q hlen hb hK m (j + 1) (add1 s c) (by omega) (add1_lt h2 hb') h3

theorem slow_ok (H : AHeap) {t : Bool} {bs : List Nat} (hlen : bs.length ≤ 9223372036854775807) (hb : ∀ b ∈ bs, b < 256) (Q : AVal → AHeap → Prop) (h : Q (.int .u32 (sumOf bs : Nat)) H) :
    FunOK Try.prog F.crc_Slow [nums .u8 t bs] H Q := by
  refine fun_V 100 crc_Slow_code rfl ?_
  simp (disch := first | omega | (simp only [lnx]; omega)) only [stdh, stdx, ↓reduceIte, Nat.reduceEqDiff, Int.reduceToNat, Int.reducePow, Nat.reduceAdd, Nat.reduceLeDiff, Nat.reduceMul, Nat.reduceBEq, reduceCtorEq, crc_Slow, crc_Slow.body]
  refine slow_loop _ H Q hlen hb (v := addAll 4294967295 bs) ?_ bs.length 0 4294967295 (by omega) (by omega) rfl
  rintro r' ⟨s, hs, hs2, e⟩
  refine run_V0 60 ?_
  simp (disch := first | omega | (simp only [lnx]; omega)) only [stdh, stdx, ↓reduceIte, Nat.reduceEqDiff, Int.reduceToNat, Int.reducePow, Nat.reduceAdd, Nat.reduceLeDiff, Nat.reduceMul, Nat.reduceBEq, reduceCtorEq, e, ones_u32, ones_xor_u32 hs2]
  rw [hs]
  exact h
end Go.Proofs.Ytlbalhddopcamaa

namespace Go.Proofs.Ytlbalhddopcamaa
open Go Go.Am
set_option linter.unusedSimpArgs false
set_option linter.unusedVariables false

theorem lists_one {H : AHeap} {n : Nat} {t : Bool} {el : TypeId} {x : AVal} {bs : List Nat} (hn : H[n]? = some (.vec [x] el 1)) (hx : Sees x (nums .u8 t bs)) (hb : ∀ b ∈ bs, b < 256) (hl : bs.length ≤ 9223372036854775807) : ByteLists H (.slc n 0 1 1) [bs] where
  len := rfl
  view := ⟨[x], by simp [view, hn, content], rfl, fun j hj => by
    have : j = 0 := by simpa using hj
    subst this
    exact hx.trans (Sees.loose _ _ _)⟩
  lt := fun c hc => by simp only [List.mem_singleton] at hc; subst hc; exact ⟨hb, hl⟩
  le := by simp

theorem lists_none {H : AHeap} : ByteLists H .nils [] where
  len := rfl
  view := ⟨[], rfl, rfl, fun j hj => by simp at hj⟩
  lt := fun c hc => by simp at hc
  le := by simp

def digits9 : List Nat := [49, 50, 51, 52, 53, 54, 55, 56, 57]

theorem sum9 : sumOf digits9 = 3421780262 := by decide +kernel
theorem ent01 : ent 0 1 = 1996959894 := by decide +kernel

theorem known04_ok (H : AHeap) (Q : AVal → AHeap → Prop) (h : Q (.bool true) H) : FunOK Try.prog F.cuneiformlaw04_known [] H Q := by
  refine fun_iced cuneiformlaw04_known_code fun _ => ?_
  refine fun_V 100 cuneiformlaw04_known_code rfl ?_
  simp (disch := first | omega | (simp only [lnx]; omega)) only [stdh, stdx, ↓reduceIte, Nat.reduceEqDiff, Int.reduceToNat, Int.reducePow, Nat.reduceAdd, Nat.reduceLeDiff, Nat.reduceMul, Nat.reduceBEq, reduceCtorEq, cuneiformlaw04_known, cuneiformlaw04_known.body]
  refine callK_fn (new_ok _ _ ?_)
  refine runL_V 60 ?_
  simp (disch := first | omega | (simp only [lnx]; omega)) only [stdh, stdx, ↓reduceIte, Nat.reduceEqDiff, Int.reduceToNat, Int.reducePow, Nat.reduceAdd, Nat.reduceLeDiff, Nat.reduceMul, Nat.reduceBEq, reduceCtorEq]
  refine callK_fn (sum_ok _ (lists_one (bs := digits9) (t := false) (by rw [at_k]; rfl) (Sees.refl _) (by decide) (by decide)) _ ?_)
  rw [show sumOf [digits9].flatten = 3421780262 from sum9]
  refine runL_V 60 ?_
  simp (disch := first | omega | (simp only [lnx]; omega)) only [stdh, stdx, ↓reduceIte, Nat.reduceEqDiff, Int.reduceToNat, Int.reducePow, Nat.reduceAdd, Nat.reduceLeDiff, Nat.reduceMul, Nat.reduceBEq, reduceCtorEq]
  refine callK_fn (sum_ok _ lists_none _ ?_)
  rw [show sumOf ([] : List (List Nat)).flatten = 0 from rfl]
  refine runL_V 60 ?_
  simp (disch := first | omega | (simp only [lnx]; omega)) only [stdh, stdx, ↓reduceIte, Nat.reduceEqDiff, Int.reduceToNat, Int.reducePow, Nat.reduceAdd, Nat.reduceLeDiff, Nat.reduceMul, Nat.reduceBEq, reduceCtorEq]
  refine callK_fn (entry_ok _ (by omega) _ ?_)
  rw [show (if 0 ≤ (1 : Int) ∧ (1 : Int) < 256 then ent 0 (1 : Int).toNat else 0) = 1996959894 from ent01]
  refine runL_V 60 ?_
  simp (disch := first | omega | (simp only [lnx]; omega)) only [stdh, stdx, ↓reduceIte, Nat.reduceEqDiff, Int.reduceToNat, Int.reducePow, Nat.reduceAdd, Nat.reduceLeDiff, Nat.reduceMul, Nat.reduceBEq, reduceCtorEq]
  refine callK_fn (slow_ok _ (t := false) (bs := digits9) (by decide) (by decide) _ ?_)
  rw [sum9]
  refine runL_V 60 ?_
  simp (disch := first | omega | (simp only [lnx]; omega)) only [stdh, stdx, ↓reduceIte, Nat.reduceEqDiff, Int.reduceToNat, Int.reducePow, Nat.reduceAdd, Nat.reduceLeDiff, Nat.reduceMul, Nat.reduceBEq, reduceCtorEq]
  exact ice_none trivial h

theorem open_nil (H : AHeap) {b : AVal} {n : Nat} (hb : slen b = some n) (Q : AVal → AHeap → Prop) (h : Q (.tup [.nils, .int .i64 1]) H) : FunOK Try.prog F.crc_Open [.nilp, b] H Q := by
  refine fun_V 100 crc_Open_code rfl ?_
  simp (disch := first | omega | (simp only [lnx]; omega)) only [stdh, stdx, ↓reduceIte, Nat.reduceEqDiff, Int.reduceToNat, Int.reducePow, Nat.reduceAdd, Nat.reduceLeDiff, Nat.reduceMul, Nat.reduceBEq, reduceCtorEq, crc_Open, crc_Open.body, eqA, hb]
  exact h

theorem seal_nil (H : AHeap) {b : AVal} (Q : AVal → AHeap → Prop) (h : Q .nils H) : FunOK Try.prog F.crc_Seal [.nilp, b] H Q := by
  refine fun_V 100 crc_Seal_code rfl ?_
  simp (disch := first | omega | (simp only [lnx]; omega)) only [stdh, stdx, ↓reduceIte, Nat.reduceEqDiff, Int.reduceToNat, Int.reducePow, Nat.reduceAdd, Nat.reduceLeDiff, Nat.reduceMul, Nat.reduceBEq, reduceCtorEq, crc_Seal, crc_Seal.body, eqA]
  exact h

theorem end_nil (H : AHeap) {b : AVal} (Q : AVal → AHeap → Prop) (h : Q (.int .u32 0) H) : FunOK Try.prog F.crc_Table_End [.nilp, b] H Q := by
  refine fun_V 100 crc_Table_End_code rfl ?_
  simp (disch := first | omega | (simp only [lnx]; omega)) only [stdh, stdx, ↓reduceIte, Nat.reduceEqDiff, Int.reduceToNat, Int.reducePow, Nat.reduceAdd, Nat.reduceLeDiff, Nat.reduceMul, Nat.reduceBEq, reduceCtorEq, crc_Table_End, crc_Table_End.body, eqA]
  exact h

theorem crcnil_ok {t : Bool} {bs : List Nat} {s : AVal} : FunOK Try.prog F.cuneiformlaw04_CrcNil [nums .u8 t bs, s] [] fun av _ => av = .bool true := by
  refine fun_V 100 cuneiformlaw04_CrcNil_code rfl ?_
  simp (disch := first | omega | (simp only [lnx]; omega)) only [stdh, stdx, ↓reduceIte, Nat.reduceEqDiff, Int.reduceToNat, Int.reducePow, Nat.reduceAdd, Nat.reduceLeDiff, Nat.reduceMul, Nat.reduceBEq, reduceCtorEq, cuneiformlaw04_CrcNil, cuneiformlaw04_CrcNil.body]
  refine callK_fn (open_nil _ slen_nums _ ?_)
  refine runL_V 60 ?_
  simp (disch := first | omega | (simp only [lnx]; omega)) only [stdh, stdx, ↓reduceIte, Nat.reduceEqDiff, Int.reduceToNat, Int.reducePow, Nat.reduceAdd, Nat.reduceLeDiff, Nat.reduceMul, Nat.reduceBEq, reduceCtorEq]
  refine callK_fn (known04_ok _ _ ?_)
  refine runL_V 60 ?_
  simp (disch := first | omega | (simp only [lnx]; omega)) only [stdh, stdx, ↓reduceIte, Nat.reduceEqDiff, Int.reduceToNat, Int.reducePow, Nat.reduceAdd, Nat.reduceLeDiff, Nat.reduceMul, Nat.reduceBEq, reduceCtorEq]
  refine callK_fn (sum_nil _ rfl rfl _ ?_)
  refine runL_V 60 ?_
  simp (disch := first | omega | (simp only [lnx]; omega)) only [stdh, stdx, ↓reduceIte, Nat.reduceEqDiff, Int.reduceToNat, Int.reducePow, Nat.reduceAdd, Nat.reduceLeDiff, Nat.reduceMul, Nat.reduceBEq, reduceCtorEq]
  refine callK_fn (fun_reck codes_ok 100 (.int .u32 0) (by kernel_rfl) rfl rfl _ _ ?_)
  refine runL_V 60 ?_
  simp (disch := first | omega | (simp only [lnx]; omega)) only [stdh, stdx, ↓reduceIte, Nat.reduceEqDiff, Int.reduceToNat, Int.reducePow, Nat.reduceAdd, Nat.reduceLeDiff, Nat.reduceMul, Nat.reduceBEq, reduceCtorEq]
  refine callK_fn (add_nil _ _ _ _ ?_)
  refine runL_V 60 ?_
  simp (disch := first | omega | (simp only [lnx]; omega)) only [stdh, stdx, ↓reduceIte, Nat.reduceEqDiff, Int.reduceToNat, Int.reducePow, Nat.reduceAdd, Nat.reduceLeDiff, Nat.reduceMul, Nat.reduceBEq, reduceCtorEq]
  refine callK_fn (end_nil _ _ ?_)
  refine runL_V 60 ?_
  simp (disch := first | omega | (simp only [lnx]; omega)) only [stdh, stdx, ↓reduceIte, Nat.reduceEqDiff, Int.reduceToNat, Int.reducePow, Nat.reduceAdd, Nat.reduceLeDiff, Nat.reduceMul, Nat.reduceBEq, reduceCtorEq]
  refine callK_fn (fun_reck codes_ok 100 (.int .u32 0) (by kernel_rfl) rfl rfl _ _ ?_)
  refine runL_V 60 ?_
  simp (disch := first | omega | (simp only [lnx]; omega)) only [stdh, stdx, ↓reduceIte, Nat.reduceEqDiff, Int.reduceToNat, Int.reducePow, Nat.reduceAdd, Nat.reduceLeDiff, Nat.reduceMul, Nat.reduceBEq, reduceCtorEq]
  refine callK_fn (seal_nil _ _ ?_)
  refine runL_V 60 ?_
  simp (disch := first | omega | (simp only [lnx]; omega)) only [stdh, stdx, ↓reduceIte, Nat.reduceEqDiff, Int.reduceToNat, Int.reducePow, Nat.reduceAdd, Nat.reduceLeDiff, Nat.reduceMul, Nat.reduceBEq, reduceCtorEq]
end Go.Proofs.Ytlbalhddopcamaa

namespace Go.Am
open Go
set_option linter.unusedVariables false
set_option linter.unusedSimpArgs false

/-! ### Bytes as one number; turned bits -/

def valL : List Nat → Nat
  | [] => 0
  | c :: r => c ^^^ valL r * 2 ^ 8

theorem xor_mul (a b n : Nat) : (a ^^^ b) * 2 ^ n = a * 2 ^ n ^^^ b * 2 ^ n := by
  refine Nat.eq_of_testBit_eq fun i => ?_
  rw [Nat.testBit_xor, Nat.testBit_mul_two_pow, Nat.testBit_mul_two_pow, Nat.testBit_mul_two_pow, Nat.testBit_xor]
  cases decide (i ≥ n) <;> simp

theorem addAll_val : ∀ (bs : List Nat) (s : Nat), addAll s bs = shN (8 * bs.length) (s ^^^ valL bs)
  | [], s => by simp [addAll, valL, shN]
  | c :: r, s => by
    show addAll (add1 s c) r = _
    rw [addAll_val r, List.length_cons, show 8 * (r.length + 1) = 8 + 8 * r.length by omega, shN_add]
    congr 1
    rw [valL, ← Nat.xor_assoc, shN_xor 8 (s ^^^ c), shN_pow]
    rfl

theorem valL_set : ∀ (ys : List Nat) (q d : Nat), q < ys.length → valL (ys.set q (ys.getD q 0 ^^^ d)) = valL ys ^^^ d * 2 ^ (8 * q)
  | [], q, d, h => by simp at h
  | c :: r, 0, d, h => by
    show (c ^^^ d) ^^^ valL r * 2 ^ 8 = (c ^^^ valL r * 2 ^ 8) ^^^ d * 2 ^ (8 * 0)
    rw [Nat.mul_zero, Nat.pow_zero, Nat.mul_one, Nat.xor_assoc, Nat.xor_assoc, Nat.xor_comm d]
  | c :: r, q + 1, d, h => by
    show c ^^^ valL (r.set q (r.getD q 0 ^^^ d)) * 2 ^ 8 = (c ^^^ valL r * 2 ^ 8) ^^^ d * 2 ^ (8 * (q + 1))
    rw [valL_set r q d (by simpa using h), xor_mul, Nat.xor_assoc, Nat.mul_assoc, ← Nat.pow_add, show 8 * q + 8 = 8 * (q + 1) by omega]

theorem mod_succ (t i : Nat) : t % 2 ^ (i + 1) = t % 2 ^ i ^^^ (if t.testBit i = true then 2 ^ i else 0) := by
  refine Nat.eq_of_testBit_eq fun j => ?_
  rw [Nat.testBit_mod_two_pow, Nat.testBit_xor, Nat.testBit_mod_two_pow]
  by_cases hb : t.testBit i = true
  · rw [if_pos hb, Nat.testBit_two_pow]
    by_cases h1 : i = j
    · subst h1; simp [hb]
    · by_cases h2 : j < i
      · simp [h1, h2, show j < i + 1 by omega]
      · simp [h1, h2, show ¬ j < i + 1 by omega]
  · rw [if_neg hb, Nat.zero_testBit]
    by_cases h1 : i = j
    · subst h1; simp [hb]
    · by_cases h2 : j < i
      · simp [h1, h2, show j < i + 1 by omega]
      · simp [h1, h2, show ¬ j < i + 1 by omega]

theorem sh1_ne {w : Nat} (h : w < 4294967296) (h0 : w ≠ 0) : sh1 w ≠ 0 := by
  unfold sh1
  by_cases ho : w % 2 = 1
  · rw [if_pos ho]
    intro he
    have hb : (w / 2 ^^^ pol).testBit 31 = false := by rw [he]; simp
    rw [Nat.testBit_xor, Nat.testBit_lt_two_pow (x := w / 2) (i := 31) (by omega), show pol.testBit 31 = true by decide] at hb
    simp at hb
  · rw [if_neg ho, Nat.xor_zero]; omega
theorem shN_ne : ∀ (n : Nat) {w : Nat}, w < 4294967296 → w ≠ 0 → shN n w ≠ 0
  | 0, w, _, h => h
  | n + 1, w, h, h0 => shN_ne n (sh1_lt h) (sh1_ne h h0)

theorem xor_not {s : Nat} (h : s < 4294967296) : s ^^^ (4294967295 - s) = 4294967295 := by
  have e : (4294967296 : Nat) = 2 ^ 32 := by decide
  have e1 : 4294967295 - s = 2 ^ 32 - (s + 1) := by omega
  have e2 : (4294967295 : Nat) = 2 ^ 32 - 1 := by decide
  rw [e1]
  refine Nat.eq_of_testBit_eq fun i => ?_
  rw [Nat.testBit_xor, Nat.testBit_two_pow_sub_succ (by omega), e2, Nat.testBit_two_pow_sub_one]
  by_cases hi : i < 32
  · simp [hi]
  · have : s.testBit i = false := Nat.testBit_lt_two_pow (Nat.lt_of_lt_of_le h (by rw [e]; exact Nat.pow_le_pow_right (by omega) (by omega)))
    simp [hi, this]

theorem seal_const {hs : List Nat} {a b c d : Nat} (hb : ∀ b ∈ hs, b < 256) (he : [sumOf hs % 256, sumOf hs / 256 % 256, sumOf hs / 65536 % 256, sumOf hs / 16777216] = [a, b, c, d]) :
    addAll 4294967295 (hs ++ [a, b, c, d]) = shN 32 4294967295 := by
  rw [addAll_append]
  show add1 (add1 (add1 (add1 (addAll 4294967295 hs) a) b) c) d = _
  rw [step_four]
  congr 1
  have h1 := word4_of (sumOf_lt hs)
  simp only [List.cons.injEq, and_true] at he
  obtain ⟨rfl, rfl, rfl, rfl⟩ := he
  rw [← h1]
  unfold sumOf
  exact xor_not (addAll_lt hs (by omega) hb)

/-- Bits that are turned, within 32 in a row, are told. -/
theorem turned_told {xs ys : List Nat} {t f : Nat} (ht : t < 4294967296) (h0 : t ≠ 0) (hf : f + 32 ≤ 8 * xs.length) (hl : ys.length = xs.length) (hv : valL ys = valL xs ^^^ t * 2 ^ f) (hx : addAll 4294967295 xs = shN 32 4294967295) : addAll 4294967295 ys ≠ shN 32 4294967295 := by
  intro hy
  rw [addAll_val] at hx hy
  rw [hl, hv, ← Nat.xor_assoc, shN_xor, hx] at hy
  have e : shN (8 * xs.length) (t * 2 ^ f) = shN (8 * xs.length - f) t := by
    rw [show 8 * xs.length = f + (8 * xs.length - f) by omega, shN_add, shN_pow]
    congr 1; omega
  rw [e] at hy
  have hne := shN_ne (8 * xs.length - f) ht h0
  generalize shN (8 * xs.length - f) t = z at *
  generalize shN 32 4294967295 = k at *
  have : z = k ^^^ (k ^^^ z) := by rw [← Nat.xor_assoc, Nat.xor_self, Nat.zero_xor]
  rw [hy, Nat.xor_self] at this
  exact hne this
end Go.Am
