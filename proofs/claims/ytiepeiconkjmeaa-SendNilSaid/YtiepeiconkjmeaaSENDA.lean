/-
  Lemmas on the way to the statements of this seat. By an AI agent. No person has read it.
-/
import Derived.Test.YtiepeiconkjmeaaAm6
import Derived.Test.YtiepeiconkjmeaaCode

namespace Go.Am
open Go

def shHead : Sh := .struct [.int .i64, .int .i64, .int .u32, .int .i64, .int .i64]
def shFrame : Sh := .struct [shHead, .slice (.int .u8)]

/-- A frame that is handed in. -/
theorem frame_fits {a : AVal} (h : FitsA shFrame a) : ∃ (v k s i c : Int) (bs : List Nat), Sees a (.agg [.int .i64 v, .int .i64 k, .int .u32 s, .int .i64 i, .int .i64 c, nums .u8 false bs]) ∧
    (Lit.int .i64 v).wf = true ∧ (Lit.int .i64 k).wf = true ∧ (Lit.int .u32 s).wf = true ∧ (Lit.int .i64 i).wf = true ∧ (Lit.int .i64 c).wf = true ∧ (∀ b ∈ bs, (Lit.int .u8 (b : Int)).wf = true) ∧ bs.length ≤ 9223372036854775807 := by
  obtain ⟨l, rfl, h⟩ := h
  obtain ⟨l1, l2, rfl, h1, h2⟩ := h
  obtain ⟨l3, l4, rfl, h3, h4⟩ := h2
  have h4' : l4 = [] := h4
  subst h4'
  obtain ⟨_, _, rfl, ⟨v, rfl, b1⟩, h1⟩ := h1
  obtain ⟨_, _, rfl, ⟨k, rfl, b2⟩, h1⟩ := h1
  obtain ⟨_, _, rfl, ⟨s, rfl, b3⟩, h1⟩ := h1
  obtain ⟨_, _, rfl, ⟨i, rfl, b4⟩, h1⟩ := h1
  obtain ⟨_, _, rfl, ⟨c, rfl, b5⟩, h1⟩ := h1
  have h1' : _ = ([] : List AVal) := h1
  subst h1'
  have h5 : ∃ x, l3 = [x] := by
    rcases h3 with rfl | ⟨gs, t, _, rfl, _⟩
    · exact ⟨_, rfl⟩
    · exact ⟨_, rfl⟩
  obtain ⟨x, rfl⟩ := h5
  obtain ⟨bs, q1, q2, q3⟩ := nums_fits (k := .u8) rfl (show FitsA (.slice (.int .u8)) x from h3)
  exact ⟨v, k, s, i, c, bs, Sees.agg (SeesL.cons (Sees.refl _) (SeesL.cons (Sees.refl _) (SeesL.cons (Sees.refl _) (SeesL.cons (Sees.refl _) (SeesL.cons (Sees.refl _) (SeesL.cons q1 SeesL.nil)))))), b1, b2, b3, b4, b5, q2, q3⟩
end Go.Am

namespace Go.Am
open Go

def shMsg : Sh := .struct [.int .i64, .arr 6 .i64, .slice (.struct [.int .i64, .int .i64]), .slice (.int .i64), .str, .str]

theorem arr6_fits {l : List AVal} (h : Fits (.arr 6 .i64) l) : ∃ a b c d e f : Int, l = [.int .i64 a, .int .i64 b, .int .i64 c, .int .i64 d, .int .i64 e, .int .i64 f] := by
  obtain ⟨hl, h⟩ := h
  obtain ⟨a, ha, _⟩ := h 0 (by omega)
  obtain ⟨b, hb, _⟩ := h 1 (by omega)
  obtain ⟨c, hc, _⟩ := h 2 (by omega)
  obtain ⟨d, hd, _⟩ := h 3 (by omega)
  obtain ⟨e, he, _⟩ := h 4 (by omega)
  obtain ⟨f, hf, _⟩ := h 5 (by omega)
  match l, hl with
  | [x0, x1, x2, x3, x4, x5], _ =>
    simp only [List.getElem?_cons_zero, List.getElem?_cons_succ, Option.some.injEq] at ha hb hc hd he hf
    exact ⟨a, b, c, d, e, f, by rw [ha, hb, hc, hd, he, hf]⟩

theorem slice_fits {s : Sh} {l : List AVal} (h : Fits (.slice s) l) : ∃ p : AVal, l = [p] ∧ p.cellish = true ∧ p.cells = [p] := by
  rcases h with rfl | ⟨gs, t, _, rfl, _⟩
  · exact ⟨_, rfl, rfl, rfl⟩
  · exact ⟨_, rfl, rfl, rfl⟩

/-- A message that is handed in. -/
theorem msg_fits {a : AVal} (h : FitsA shMsg a) : ∃ (k n0 n1 n2 n3 n4 n5 : Int) (p c : AVal) (t g : ByteArray), a = .agg [.int .i64 k, .int .i64 n0, .int .i64 n1, .int .i64 n2, .int .i64 n3, .int .i64 n4, .int .i64 n5, p, c, .str t, .str g] ∧
    p.cellish = true ∧ c.cellish = true := by
  obtain ⟨l, rfl, h⟩ := h
  obtain ⟨_, _, rfl, ⟨k, rfl, _⟩, h⟩ := h
  obtain ⟨l2, _, rfl, h2, h⟩ := h
  obtain ⟨n0, n1, n2, n3, n4, n5, rfl⟩ := arr6_fits h2
  obtain ⟨l3, _, rfl, h3, h⟩ := h
  obtain ⟨p, rfl, hp, _⟩ := slice_fits h3
  obtain ⟨l4, _, rfl, h4, h⟩ := h
  obtain ⟨c, rfl, hc, _⟩ := slice_fits h4
  obtain ⟨_, _, rfl, ⟨t, rfl, _⟩, h⟩ := h
  obtain ⟨_, _, rfl, ⟨g, rfl, _⟩, h⟩ := h
  have h' : _ = ([] : List AVal) := h
  subst h'
  exact ⟨k, n0, n1, n2, n3, n4, n5, p, c, t, g, rfl, hp, hc⟩
end Go.Am

namespace Go.Am
open Go
set_option linter.unusedVariables false
set_option linter.unusedSimpArgs false

/-! ### Sums, as words -/

def pol : Nat := 3988292384
def sh1 (w : Nat) : Nat := w / 2 ^^^ (if w % 2 = 1 then pol else 0)
def shN : Nat → Nat → Nat
  | 0, w => w
  | n + 1, w => shN n (sh1 w)
def sh8 (w : Nat) : Nat := shN 8 w
/-- A word behind a byte. -/
def add1 (s c : Nat) : Nat := sh8 (s ^^^ c)
def addAll (s : Nat) (bs : List Nat) : Nat := bs.foldl add1 s
def sumOf (bs : List Nat) : Nat := 4294967295 - addAll 4294967295 bs

theorem xor_lt {a b : Nat} (ha : a < 4294967296) (hb : b < 4294967296) : a ^^^ b < 4294967296 := Nat.xor_lt_two_pow (n := 32) ha hb

theorem sh1_lt {w : Nat} (h : w < 4294967296) : sh1 w < 4294967296 := by
  unfold sh1
  refine xor_lt (by omega) ?_
  split
  · decide
  · decide
theorem shN_lt : ∀ (n : Nat) {w : Nat}, w < 4294967296 → shN n w < 4294967296
  | 0, w, h => h
  | n + 1, w, h => shN_lt n (sh1_lt h)
theorem sh8_lt {w : Nat} (h : w < 4294967296) : sh8 w < 4294967296 := shN_lt 8 h
theorem add1_lt {s c : Nat} (h : s < 4294967296) (hc : c < 256) : add1 s c < 4294967296 := sh8_lt (xor_lt h (by omega))
theorem addAll_lt : ∀ (bs : List Nat) {s : Nat}, s < 4294967296 → (∀ b ∈ bs, b < 256) → addAll s bs < 4294967296
  | [], s, h, _ => h
  | b :: bs, s, h, hb => addAll_lt bs (add1_lt h (hb b (by simp))) fun x hx => hb x (by simp [hx])
theorem sumOf_lt (bs : List Nat) : sumOf bs < 4294967296 := by unfold sumOf; omega

theorem sh1_xor (a b : Nat) : sh1 (a ^^^ b) = sh1 a ^^^ sh1 b := by
  unfold sh1
  rw [Nat.xor_div_two]
  have hm : (a ^^^ b) % 2 = (a % 2) ^^^ (b % 2) := Nat.xor_mod_two_pow (n := 1)
  have e : ∀ x y p q : Nat, (x ^^^ y) ^^^ (p ^^^ q) = (x ^^^ p) ^^^ (y ^^^ q) := fun x y p q => by
    rw [Nat.xor_assoc, Nat.xor_assoc, ← Nat.xor_assoc y p q, Nat.xor_comm y p, Nat.xor_assoc p y q]
  rcases Nat.mod_two_eq_zero_or_one a with h1 | h1 <;> rcases Nat.mod_two_eq_zero_or_one b with h2 | h2
  · rw [hm, h1, h2]; simp
  · rw [hm, h1, h2]; simp [Nat.xor_assoc]
  · rw [hm, h1, h2]
    simp
    rw [Nat.xor_assoc, Nat.xor_assoc, Nat.xor_comm (b / 2)]
  · rw [hm, h1, h2]
    simp
    rw [← e, Nat.xor_self, Nat.xor_zero]

theorem shN_xor : ∀ (n a b : Nat), shN n (a ^^^ b) = shN n a ^^^ shN n b
  | 0, a, b => rfl
  | n + 1, a, b => by rw [shN, sh1_xor, shN_xor n]; rfl

theorem shN_add : ∀ (m n w : Nat), shN (m + n) w = shN n (shN m w)
  | 0, n, w => by rw [Nat.zero_add]; rfl
  | m + 1, n, w => by rw [Nat.add_right_comm, shN, shN_add m n]; rfl

theorem sh1_two (x : Nat) : sh1 (2 * x) = x := by
  unfold sh1
  rw [if_neg (by omega), Nat.xor_zero]; omega

theorem shN_pow : ∀ (k x : Nat), shN k (x * 2 ^ k) = x
  | 0, x => by simp [shN]
  | k + 1, x => by
    rw [shN, show x * 2 ^ (k + 1) = 2 * (x * 2 ^ k) by rw [Nat.pow_succ]; ac_rfl, sh1_two, shN_pow k]

theorem xor_shift {a b n : Nat} (h : a < 2 ^ n) : a ^^^ b * 2 ^ n = a + b * 2 ^ n := by
  rw [← or_shift h]
  refine Nat.eq_of_testBit_eq fun i => ?_
  rw [Nat.testBit_xor, Nat.testBit_or, Nat.testBit_mul_two_pow]
  by_cases hi : n ≤ i
  · have : a.testBit i = false := Nat.testBit_lt_two_pow (Nat.lt_of_lt_of_le h (Nat.pow_le_pow_right (by omega) hi))
    simp [this]
  · simp [hi]

/-- The table's entry. -/
def ent (k i : Nat) : Nat := shN (8 * (k + 1)) i

theorem step_one {s c : Nat} (hc : c < 256) : add1 s c = s / 256 ^^^ ent 0 (s % 256 ^^^ c) := by
  unfold add1 sh8 ent
  have e : s ^^^ c = (s % 256 ^^^ c) ^^^ (s / 256 * 2 ^ 8) := by
    have h1 : s = s % 256 ^^^ s / 256 * 2 ^ 8 := by rw [xor_shift (by omega)]; omega
    rw [Nat.xor_assoc, Nat.xor_comm c, ← Nat.xor_assoc, ← h1]
  rw [e, shN_xor, shN_pow, Nat.xor_comm]

/-- Four bytes as a word. -/
def word4 (a b c d : Nat) : Nat := a ^^^ b * 2 ^ 8 ^^^ c * 2 ^ 16 ^^^ d * 2 ^ 24

theorem word4_or {a b c d : Nat} (ha : a < 256) (hb : b < 256) (hc : c < 256) : ((a ||| b * 256) ||| c * 65536) ||| d * 16777216 = word4 a b c d := by
  have e1 : a ||| b * 256 = a + b * 256 := or_shift (n := 8) ha
  have e2 : a ^^^ b * 2 ^ 8 = a + b * 2 ^ 8 := xor_shift ha
  have e3 : (a + b * 256) ||| c * 65536 = (a + b * 256) + c * 65536 := or_shift (n := 16) (by omega)
  have e4 : (a + b * 2 ^ 8) ^^^ c * 2 ^ 16 = (a + b * 2 ^ 8) + c * 2 ^ 16 := xor_shift (by omega)
  have e5 : ((a + b * 256) + c * 65536) ||| d * 16777216 = ((a + b * 256) + c * 65536) + d * 16777216 := or_shift (n := 24) (by omega)
  have e6 : ((a + b * 2 ^ 8) + c * 2 ^ 16) ^^^ d * 2 ^ 24 = ((a + b * 2 ^ 8) + c * 2 ^ 16) + d * 2 ^ 24 := xor_shift (by omega)
  unfold word4
  rw [e1, e3, e5, e2, e4, e6]

theorem word4_lt {a b c d : Nat} (ha : a < 256) (hb : b < 256) (hc : c < 256) (hd : d < 256) : word4 a b c d < 4294967296 := by
  unfold word4
  refine xor_lt (xor_lt (xor_lt (by omega) (by omega)) (by omega)) (by omega)

theorem word4_of {w : Nat} (h : w < 4294967296) : w = word4 (w % 256) (w / 256 % 256) (w / 65536 % 256) (w / 16777216) := by
  have e2 : w % 256 ^^^ (w / 256 % 256) * 2 ^ 8 = w % 256 + (w / 256 % 256) * 2 ^ 8 := xor_shift (by omega)
  have e4 : (w % 256 + (w / 256 % 256) * 2 ^ 8) ^^^ (w / 65536 % 256) * 2 ^ 16 = (w % 256 + (w / 256 % 256) * 2 ^ 8) + (w / 65536 % 256) * 2 ^ 16 := xor_shift (by omega)
  have e6 : ((w % 256 + (w / 256 % 256) * 2 ^ 8) + (w / 65536 % 256) * 2 ^ 16) ^^^ (w / 16777216) * 2 ^ 24 = ((w % 256 + (w / 256 % 256) * 2 ^ 8) + (w / 65536 % 256) * 2 ^ 16) + (w / 16777216) * 2 ^ 24 := xor_shift (by omega)
  unfold word4
  rw [e2, e4, e6]; omega

theorem sh32_word4 (a b c d : Nat) : shN 32 (word4 a b c d) = ent 3 a ^^^ ent 2 b ^^^ ent 1 c ^^^ ent 0 d := by
  unfold word4 ent
  rw [shN_xor, shN_xor, shN_xor, show (32 : Nat) = 8 + 24 from rfl, shN_add 8 24 (b * 2 ^ 8), shN_pow, show (8 + 24 : Nat) = 16 + 16 from rfl, shN_add 16 16 (c * 2 ^ 16), shN_pow, show (16 + 16 : Nat) = 24 + 8 from rfl, shN_add 24 8 (d * 2 ^ 24), shN_pow]

/-- Four bytes at a time. -/
theorem step_four {s a b c d : Nat} : add1 (add1 (add1 (add1 s a) b) c) d = shN 32 (s ^^^ word4 a b c d) := by
  unfold add1 sh8 word4
  rw [← Nat.xor_assoc, ← Nat.xor_assoc, ← Nat.xor_assoc, shN_xor 32, shN_xor 32, shN_xor 32, show (32 : Nat) = 8 + 24 from rfl, shN_add 8 24 (b * 2 ^ 8), shN_pow, show (8 + 24 : Nat) = 16 + 16 from rfl, shN_add 16 16 (c * 2 ^ 16), shN_pow, show (16 + 16 : Nat) = 24 + 8 from rfl, shN_add 24 8 (d * 2 ^ 24), shN_pow]
  rw [show (24 + 8 : Nat) = 8 + (8 + (8 + 8)) from rfl, shN_add 8 (8 + (8 + 8)), shN_add 8 (8 + 8), shN_add 8 8 (shN 8 (shN 8 (s ^^^ a))), show (24 : Nat) = 8 + (8 + 8) from rfl, shN_add 8 (8 + 8) b, shN_add 8 8 (shN 8 b), show (16 : Nat) = 8 + 8 from rfl, shN_add 8 8 c]
  simp only [shN_xor]

theorem addAll_append (s : Nat) (xs ys : List Nat) : addAll s (xs ++ ys) = addAll (addAll s xs) ys := by simp [addAll, List.foldl_append]

theorem tab_index {s a b c d : Nat} (hs : s < 4294967296) (ha : a < 256) (hb : b < 256) (hc : c < 256) (hd : d < 256) {w : Nat} (hw : w = s ^^^ word4 a b c d) :
    ent 3 (w % 256) ^^^ ent 2 (w / 256 % 256) ^^^ ent 1 (w / 65536 % 256) ^^^ ent 0 (w / 16777216) = addAll s [a, b, c, d] := by
  have hl : w < 4294967296 := by rw [hw]; exact xor_lt hs (word4_lt ha hb hc hd)
  show _ = add1 (add1 (add1 (add1 s a) b) c) d
  rw [step_four, ← sh32_word4, ← word4_of hl, hw]

theorem ent_lt {k i : Nat} (h : i < 256) : ent k i < 4294967296 := shN_lt _ (by omega)
theorem ent_succ (k i : Nat) : ent (k + 1) i = sh8 (ent k i) := by
  unfold ent sh8
  rw [← shN_add]
  rfl

/-- The numbers ahead of one; never unfolded. -/
def upTo (n : Nat) : List Nat := if h : n = 0 then [] else upTo (n - 1) ++ [n - 1]
  termination_by n
theorem upTo_eq : ∀ n, upTo n = List.range n
  | 0 => by rw [upTo]; simp
  | n + 1 => by rw [upTo, dif_neg (by omega), Nat.add_sub_cancel, upTo_eq n, List.range_succ]

/-- The table. -/
def tabL : List Nat := (upTo 1024).map fun q => ent (q / 256) (q % 256)
theorem tab_len : tabL.length = 1024 := by simp [tabL, upTo_eq]
theorem tab_get {q : Nat} (h : q < 1024) : tabL.getD q 0 = ent (q / 256) (q % 256) := by
  simp [tabL, upTo_eq, List.getD_eq_getElem?_getD, List.getElem?_map, List.getElem?_range h]

def tabV : AVal := .sptr (nums .u32 true tabL) 0
end Go.Am

namespace Go.Proofs.Ytiepeiconkjmeaa
open Go Go.Am
set_option linter.unusedSimpArgs false
set_option linter.unusedVariables false

abbrev shC : Ctx := ⟨F.crc_shift, 14, [.tmp 2], none⟩

theorem and_u32 {a b : Nat} (ha : a < 4294967296) (hb : b < 4294967296) : Am.bits .and .u32 (a : Int) (b : Int) = ((a &&& b : Nat) : Int) := bits_and rfl ha hb
theorem or_u32 {a b : Nat} (ha : a < 4294967296) (hb : b < 4294967296) : Am.bits .or .u32 (a : Int) (b : Int) = ((a ||| b : Nat) : Int) := bits_or rfl ha hb
theorem xor_u32 {a b : Nat} (ha : a < 4294967296) (hb : b < 4294967296) : Am.bits .xor .u32 (a : Int) (b : Int) = ((a ^^^ b : Nat) : Int) := bits_xor rfl ha hb
theorem xor_u8 {a b : Nat} (ha : a < 256) (hb : b < 256) : Am.bits .xor .u8 (a : Int) (b : Int) = ((a ^^^ b : Nat) : Int) := bits_xor rfl ha hb
theorem and_255 (a : Nat) : a &&& 255 = a % 256 := Nat.and_two_pow_sub_one_eq_mod a 8

theorem sh_loop (K : List AItem) (H : AHeap) (Q : AVal → AHeap → Prop) {v : Nat} (hK : ∀ r', rget r' 0 = .int .u32 (v : Nat) → Run Try.prog shC K r' H Q) :
    ∀ (m i w : Nat), i + m = 8 → w < 4294967296 → shN m w = v → Rounds Try.prog shC crc_shift.b0 [.inBlock 0] K [(0, .int .u32 (w : Nat)), (3, .int .i64 (i : Nat))] H Q
  | 0, i, w, h1, h2, h3 => by
    refine loop_V 100 crc_shift.b0.eq_1 ?_
    have h3' : w = v := h3
    subst h3'
    simp (disch := first | omega | (simp only [lnx]; omega)) only [stdh, stdx, ↓reduceIte, seval]
    exact hK _ rfl
  | m + 1, i, w, h1, h2, h3 => by
    refine loop_V 100 crc_shift.b0.eq_1 ?_
    have e1 : Am.bits .and .u32 (w : Int) 1 = ((w % 2 : Nat) : Int) := by
      rw [show (1 : Int) = ((1 : Nat) : Int) from rfl, and_u32 h2 (by omega), Nat.and_one_is_mod]
    have e2 : (w : Int) / 2 = ((w / 2 : Nat) : Int) := by omega
    have e3 : IntKind.u32.wrap (0 - ((w % 2 : Nat) : Int)) = ((if w % 2 = 1 then 4294967295 else 0 : Nat) : Int) := by
      rcases Nat.mod_two_eq_zero_or_one w with h | h <;> rw [h] <;> decide
    have e4 : Am.bits .and .u32 3988292384 ((if w % 2 = 1 then 4294967295 else 0 : Nat) : Int) = ((if w % 2 = 1 then pol else 0 : Nat) : Int) := by
      split <;> decide
    have e5 : Am.bits .xor .u32 ((w / 2 : Nat) : Int) ((if w % 2 = 1 then pol else 0 : Nat) : Int) = ((sh1 w : Nat) : Int) := by
      rw [xor_u32 (by omega) (by split <;> decide)]; rfl
    simp (disch := first | omega | (simp only [lnx]; omega)) only [stdh, stdx, ↓reduceIte, seval, e1, e2, e3, e4, e5]
    exact sh_loop K H Q hK m (i + 1) (sh1 w) (by omega) (sh1_lt h2) h3

theorem shift_ok (H : AHeap) {w : Nat} (hw : w < 4294967296) (Q : AVal → AHeap → Prop) (h : Q (.int .u32 (sh8 w : Nat)) H) : FunOK Try.prog F.crc_shift [.int .u32 (w : Nat)] H Q := by
  refine fun_V 100 crc_shift_code rfl ?_
  simp (disch := first | omega | (simp only [lnx]; omega)) only [stdh, stdx, ↓reduceIte, seval, crc_shift, crc_shift.body]
  refine sh_loop _ H Q (v := sh8 w) ?_ 8 0 w rfl hw rfl
  intro r' e
  refine run_V0 60 ?_
  simp (disch := first | omega | (simp only [lnx]; omega)) only [stdh, stdx, ↓reduceIte, seval, e]
  exact h

/-! ### The table -/

def tabC (f : Nat → Nat) : List AVal := ((upTo 1024).map f).map fun n : Nat => AVal.int .u32 (n : Int)
theorem tabC_len (f : Nat → Nat) : (tabC f).length = 1024 := by simp [tabC, upTo_eq]
theorem tabC_set (f : Nat → Nat) {q v : Nat} (h : q < 1024) : (tabC f).set q (.int .u32 (v : Int)) = tabC fun x => if x = q then v else f x := by
  apply List.ext_getElem?
  intro i
  simp only [tabC, upTo_eq, List.getElem?_set, List.length_map, List.length_range, List.getElem?_map]
  by_cases hi : i < 1024
  · rw [List.getElem?_range hi]
    by_cases hq : q = i
    · subst hq; simp [h]
    · rw [if_neg hq]; simp [show ¬ i = q from fun e => hq e.symm]
  · by_cases hq : q = i
    · omega
    · rw [if_neg hq]; simp [hi, show ¬ i = q from fun e => hq e.symm]
theorem tabC_congr {f g : Nat → Nat} (h : ∀ q, q < 1024 → f q = g q) : tabC f = tabC g := by
  have : (upTo 1024).map f = (upTo 1024).map g := List.map_congr_left fun q hq => h q (by rw [upTo_eq] at hq; exact List.mem_range.1 hq)
  simp only [tabC, this]
theorem tabC_set1 (f : Nat → Nat) {q v : Nat} (h : q < 1024) : fillAt (tabC f) q [.int .u32 (v : Int)] = tabC fun x => if x = q then v else f x := by
  simp only [fillAt, tabC_set f h]
theorem tabC_fill (f g : Nat → Nat) : fillAt (tabC f) 0 (tabC g) = tabC g := by
  have key : ∀ (vs : List AVal) (cs : List AVal) (o : Nat), o + vs.length = cs.length → fillAt cs o vs = cs.take o ++ vs := by
    intro vs
    induction vs with
    | nil => intro cs o h; simp only [fillAt]; rw [List.take_of_length_le (by simp at h; omega), List.append_nil]
    | cons v vs ih =>
      intro cs o h
      simp only [fillAt]
      rw [ih _ _ (by simp at h ⊢; omega)]
      have ho : o < cs.length := by simp at h; omega
      rw [List.take_succ_eq_append_getElem (by simpa using ho), List.take_set, List.set_eq_of_length_le (by simp; omega)]
      simp
  rw [key _ _ _ (by simp [tabC_len])]
  simp

/-- Behind i columns, and k rows of the next one. -/
def tabF (i k q : Nat) : Nat := if q % 256 < i ∨ (q % 256 = i ∧ q / 256 < k) then ent (q / 256) (q % 256) else 0

abbrev newC : Ctx := ⟨F.crc_New, 28, [.tmp 0], none⟩

theorem new_inner (K : List AItem) (H : AHeap) (Q : AVal → AHeap → Prop) {i : Nat} (hi : i < 256)
    (hK : ∀ r', rget r' 1 = .ptr H.length 0 → rget r' 7 = .int .i64 (i : Nat) → Run Try.prog newC K r' (H ++ [.cells (tabC (tabF (i + 1) 0)) T.crc_Table]) Q) :
    ∀ (m k w : Nat), k + m = 4 → (∀ k', k = k' + 1 → w = ent k' i) → (k = 0 → w = i) → Rounds Try.prog newC crc_New.b0 [.inBlock 2] K [(1, .ptr H.length 0), (2, .int .i64 (i : Nat)), (3, .int .u32 (w : Nat)), (7, .int .i64 (i : Nat)), (12, .int .i64 (k : Nat))] (H ++ [.cells (tabC (tabF i k)) T.crc_Table]) Q
  | 0, k, w, h1, h2, h3 => by
    refine loop_V 100 crc_New.b0.eq_1 ?_
    have hk : k = 4 := by omega
    subst hk
    simp (disch := first | omega | (simp only [lnx]; omega)) only [stdh, stdx, ↓reduceIte, seval]
    have e : tabC (tabF i 4) = tabC (tabF (i + 1) 0) := tabC_congr fun q hq => by
      unfold tabF
      have : q / 256 < 4 := by omega
      by_cases h : q % 256 < i ∨ (q % 256 = i ∧ q / 256 < 4)
      · rw [if_pos h, if_pos (by omega)]
      · rw [if_neg h, if_neg (by omega)]
    rw [e]
    exact hK _ rfl rfl
  | m + 1, k, w, h1, h2, h3 => by
    refine loop_V 100 crc_New.b0.eq_1 ?_
    have hw : w < 4294967296 ∧ sh8 w = ent k i := by
      cases k with
      | zero => rw [h3 rfl]; exact ⟨by omega, rfl⟩
      | succ k => rw [h2 k rfl]; exact ⟨ent_lt hi, (ent_succ k i).symm⟩
    simp (disch := first | omega | (simp only [lnx]; omega)) only [stdh, stdx, ↓reduceIte, seval]
    refine callK_fn (shift_ok _ hw.1 _ ?_)
    rw [hw.2]
    refine runL_V 60 ?_
    have hst : fillAt (tabC (tabF i k)) (k * 256 + i) [AVal.int .u32 (ent k i : Nat)] = tabC (tabF i (k + 1)) := by
      rw [tabC_set1 _ (by omega)]
      refine tabC_congr fun q hq => ?_
      unfold tabF
      by_cases hq2 : q = k * 256 + i
      · subst hq2
        rw [if_pos rfl, if_pos (by omega), show (k * 256 + i) / 256 = k by omega, show (k * 256 + i) % 256 = i by omega]
      · rw [if_neg hq2]
        by_cases h : q % 256 < i ∨ (q % 256 = i ∧ q / 256 < k)
        · rw [if_pos h, if_pos (by omega)]
        · rw [if_neg h, if_neg (by omega)]
    simp (disch := first | omega | (simp only [lnx]; omega)) only [stdh, stdx, ↓reduceIte, seval, hst, tabC_len]
    have := new_inner K H Q hi hK m (k + 1) (ent k i) (by omega) (fun k' e => by rw [show k' = k by omega]) (fun e => by omega)
    exact this

theorem new_outer (K : List AItem) (H : AHeap) (Q : AVal → AHeap → Prop)
    (hK : ∀ r', rget r' 1 = .ptr H.length 0 → Run Try.prog newC K r' (H ++ [.cells (tabC (tabF 256 0)) T.crc_Table]) Q) :
    ∀ (m i : Nat), i + m = 256 → Rounds Try.prog newC crc_New.b1 [.inBlock 0] K [(1, .ptr H.length 0), (7, .int .i64 (i : Nat))] (H ++ [.cells (tabC (tabF i 0)) T.crc_Table]) Q
  | 0, i, h1 => by
    refine loop_V 100 crc_New.b1.eq_1 ?_
    have hi : i = 256 := by omega
    subst hi
    simp (disch := first | omega | (simp only [lnx]; omega)) only [stdh, stdx, ↓reduceIte, seval]
    exact hK _ rfl
  | m + 1, i, h1 => by
    refine loop_V 100 crc_New.b1.eq_1 ?_
    simp (disch := first | omega | (simp only [lnx]; omega)) only [stdh, stdx, ↓reduceIte, seval]
    refine new_inner _ H Q (by omega) ?_ 4 0 i rfl (fun k' e => by omega) (fun _ => rfl)
    intro r' g1 g2
    refine run_VT 60 [_, _, _, _] K rfl ?_
    simp (disch := first | omega | (simp only [lnx]; omega)) only [stdh, stdx, ↓reduceIte, seval, g1, g2]
    exact new_outer K H Q hK m (i + 1) (by omega)

def newBody (z : List AVal) : ACode := .seq (.region [⟨(some 0), .mov (.const .nilp), none⟩] [])
  (.seq (.region [⟨(some 5), .build z [], none⟩,
    ⟨(some 6), .box T.crc_Table (.tmp 5), none⟩,
    ⟨(some 1), .mov (.tmp 6), none⟩] [1])
  (.seq (.seq (.region [⟨(some 7), .mov (.const (.int .i64 0)), none⟩] [1, 7])
  (.block 0 (.loop crc_New.b1)))
  (.seq (.region [⟨(some 27), .mov (.tmp 1), none⟩,
    ⟨(some 0), .mov (.tmp 27), none⟩] [0])
  (.ret))))
theorem newBody_eq0 : crc_New.body = newBody (List.replicate 1024 (.int .u32 0)) := by kernel_rfl
theorem newBody_eq : crc_New.body = newBody (tabC fun _ => 0) := by
  rw [newBody_eq0]
  congr 1
  refine List.ext_getElem? fun i => ?_
  simp only [tabC, upTo_eq, List.map_map, List.getElem?_map, List.getElem?_replicate]
  by_cases hi : i < 1024
  · rw [if_pos hi, List.getElem?_range hi]; rfl
  · rw [if_neg hi, List.getElem?_eq_none (by simp; omega)]; rfl

theorem tab_full : tabC (tabF 256 0) = tabL.map fun n : Nat => AVal.int .u32 (n : Int) := by
  have : tabC (tabF 256 0) = tabC fun q => ent (q / 256) (q % 256) := tabC_congr fun q hq => by
    unfold tabF
    rw [if_pos (by omega)]
  rw [this]; rfl

theorem tabF_zero : tabC (tabF 0 0) = tabC fun _ => 0 := tabC_congr fun q hq => by
  unfold tabF
  rw [if_neg (by omega)]

theorem tabC_closed {L : Nat} {f : Nat → Nat} : closeds L (tabC f) := by
  unfold tabC
  generalize (upTo 1024).map f = xs
  exact closeds_ints _ xs

theorem nums_sptr (xs : List Nat) : AVal.sptr (.imm (xs.map fun n : Nat => AVal.int .u32 (n : Int)) (xs.map fun n : Nat => AVal.int .u32 (n : Int)).length true) 0 = .sptr (nums .u32 true xs) 0 := by
  simp only [nums, List.length_map]

theorem tab_end {H : AHeap} {Q : AVal → AHeap → Prop} (f : Nat → Nat) (h : Q tabV H) (hf : tabC f = tabL.map fun n : Nat => AVal.int .u32 (n : Int)) : IceQ H Q (.ptr H.length 0) (H ++ [.cells (tabC f) T.crc_Table]) := by
  refine ice_ptr tabC_closed ?_
  have e : AVal.sptr (.imm (tabC f) (tabC f).length true) 0 = tabV := by
    rw [hf]
    exact nums_sptr tabL
  rw [e]; exact h

theorem new_ok (H : AHeap) (Q : AVal → AHeap → Prop) (h : Q tabV H) : FunOK Try.prog F.crc_New [] H Q := by
  refine fun_iced crc_New_code fun _ => ?_
  refine fun_V 100 crc_New_code rfl ?_
  rw [show crc_New = ⟨28, 0, [.tmp 0], newBody (tabC fun _ => 0)⟩ by rw [← newBody_eq]; rfl, ← tabF_zero]
  have hce : (tabC (tabF 0 0)).all AVal.cellish = true := by simp [tabC, AVal.cellish]
  simp (disch := first | omega | (simp only [lnx]; omega)) only [stdh, stdx, ↓reduceIte, seval, newBody, hce]
  refine new_outer _ H _ ?_ 256 0 rfl
  intro r' g1
  refine run_V0 60 ?_
  simp (disch := first | omega | (simp only [lnx]; omega)) only [stdh, stdx, ↓reduceIte, seval, g1]
  exact tab_end (tabF 256 0) h tab_full

theorem add_nil (H : AHeap) (s b : AVal) (Q : AVal → AHeap → Prop) (h : Q (.int .u32 0) H) : FunOK Try.prog F.crc_Table_Add [.nilp, s, b] H Q := by
  refine fun_V 100 crc_Table_Add_code rfl ?_
  simp (disch := first | omega | (simp only [lnx]; omega)) only [stdh, stdx, ↓reduceIte, seval, crc_Table_Add, crc_Table_Add.body, eqA]
  exact h

abbrev addC : Ctx := ⟨F.crc_Table_Add, 98, [.tmp 6], none⟩

theorem add_rest (K : List AItem) (H : AHeap) (Q : AVal → AHeap → Prop) {t : Bool} {bs : List Nat} (hlen : bs.length ≤ 9223372036854775807) (hb : ∀ b ∈ bs, b < 256) {v : Nat} (hK : ∀ r', rget r' 1 = .int .u32 (v : Nat) → Run Try.prog addC K r' H Q) :
    ∀ (m j s : Nat), j + m = bs.length → s < 4294967296 → addAll s (bs.drop j) = v →
    Rounds Try.prog addC crc_Table_Add.b3 [.inBlock 2] K [(0, tabV), (1, .int .u32 (s : Nat)), (77, nums .u8 t bs), (78, .int .i64 (bs.length : Nat)), (79, .int .i64 (j : Nat))] H Q
  | 0, j, s, h1, h2, h3 => by
    refine loop_V 100 crc_Table_Add.b3.eq_1 ?_
    rw [List.drop_eq_nil_of_le (by omega)] at h3
    have h3' : s = v := h3
    subst h3'
    simp (disch := first | omega | (simp only [lnx]; omega)) only [stdh, stdx, ↓reduceIte, seval]
    exact hK _ rfl
  | m + 1, j, s, h1, h2, h3 => by
    refine loop_V 100 crc_Table_Add.b3.eq_1 ?_
    have hj : j < bs.length := by omega
    rw [List.drop_eq_getElem_cons hj] at h3
    have hb' : bs.getD j 0 < 256 := by
      rw [List.getD_eq_getElem?_getD]; simp [hj]; exact hb _ (List.getElem_mem hj)
    have hbe : bs[j] = bs.getD j 0 := by simp [hj]
    rw [hbe] at h3
    generalize hce : bs.getD j 0 = c at *
    have hl := tab_len
    have e1 : (s : Int) / 256 = ((s / 256 : Nat) : Int) := by omega
    have e2 : IntKind.u8.wrap (s : Int) = ((s % 256 : Nat) : Int) := by rw [wrap_u8']; omega
    have e3 : Am.bits .xor .u8 ((s % 256 : Nat) : Int) (c : Int) = ((s % 256 ^^^ c : Nat) : Int) := xor_u8 (by omega) hb'
    have hx : s % 256 ^^^ c < 256 := Nat.xor_lt_two_pow (n := 8) (by omega) hb'
    generalize hxe : s % 256 ^^^ c = x at *
    have e4 : tabL.getD x 0 = ent 0 x := by
      rw [tab_get (by omega), Nat.div_eq_of_lt (by omega), Nat.mod_eq_of_lt (by omega)]
    have e5 : Am.bits .xor .u32 ((s / 256 : Nat) : Int) ((ent 0 x : Nat) : Int) = ((add1 s c : Nat) : Int) := by
      rw [xor_u32 (by omega) (ent_lt (by omega)), step_one hb', hxe]
    simp (disch := first | omega | (simp only [lnx]; omega)) only [stdh, stdx, ↓reduceIte, seval, hce, tabV, e1, e2, e3, Nat.add_zero, e4, e5]
    exact add_rest K H Q hlen hb hK m (j + 1) (add1 s c) (by omega) (add1_lt h2 hb') h3

set_option maxRecDepth 20000 in
theorem add_four (K : List AItem) (H : AHeap) (Q : AVal → AHeap → Prop) {v : Nat} :
    ∀ (m s : Nat) (t : Bool) (bs : List Nat) (r : Regs), rget r 0 = tabV → rget r 1 = .int .u32 (s : Nat) → rget r 2 = nums .u8 t bs → bs.length = m → (∀ b ∈ bs, b < 256) → s < 4294967296 → addAll s bs = v →
    (∀ r' s' t' bs', (∀ b ∈ bs', b < 256) → s' < 4294967296 → addAll s' bs' = v → rget r' 0 = tabV → rget r' 1 = .int .u32 (s' : Nat) → rget r' 2 = nums .u8 t' bs' → bs'.length ≤ m → Run Try.prog addC K r' H Q) →
    Rounds Try.prog addC crc_Table_Add.b2 [.inBlock 0] K r H Q := by
  intro m
  induction m using Nat.strongRecOn with
  | _ m ih =>
  intro s t bs r r0 r1 r2 h1 hb h2 h3 hK
  refine loop_V 200 crc_Table_Add.b2.eq_1 ?_
  by_cases h4 : bs.length < 4
  · simp (disch := first | omega | (simp only [lnx]; omega)) only [stdh, stdx, ↓reduceIte, seval, r0, r1, r2]
    exact hK _ s t bs hb h2 h3 rfl rfl rfl (by omega)
  · obtain ⟨b0, b1, b2, b3, cs, rfl⟩ : ∃ b0 b1 b2 b3 cs, bs = b0 :: b1 :: b2 :: b3 :: cs := by
      match bs, h4 with
      | [], h4 => simp at h4
      | [_], h4 => simp at h4
      | [_, _], h4 => simp at h4
      | [_, _, _], h4 => simp at h4
      | b0 :: b1 :: b2 :: b3 :: cs, _ => exact ⟨b0, b1, b2, b3, cs, rfl⟩
    · have c0 : b0 < 256 := hb b0 (by simp)
      have c1 : b1 < 256 := hb b1 (by simp)
      have c2 : b2 < 256 := hb b2 (by simp)
      have c3 : b3 < 256 := hb b3 (by simp)
      have e1 : IntKind.u32.wrap ((b1 : Int) * 256) = ((b1 * 256 : Nat) : Int) := by rw [wrap_u32 (by omega)]; omega
      have e2 : IntKind.u32.wrap ((b2 : Int) * 65536) = ((b2 * 65536 : Nat) : Int) := by rw [wrap_u32 (by omega)]; omega
      have e3 : IntKind.u32.wrap ((b3 : Int) * 16777216) = ((b3 * 16777216 : Nat) : Int) := by rw [wrap_u32 (by omega)]; omega
      have e4 : Am.bits .or .u32 (b0 : Int) ((b1 * 256 : Nat) : Int) = ((b0 ||| b1 * 256 : Nat) : Int) := or_u32 (by omega) (by omega)
      have e5 : Am.bits .or .u32 ((b0 ||| b1 * 256 : Nat) : Int) ((b2 * 65536 : Nat) : Int) = (((b0 ||| b1 * 256) ||| b2 * 65536 : Nat) : Int) := or_u32 (Nat.or_lt_two_pow (n := 32) (by omega) (by omega)) (by omega)
      have e6 : Am.bits .or .u32 (((b0 ||| b1 * 256) ||| b2 * 65536 : Nat) : Int) ((b3 * 16777216 : Nat) : Int) = ((word4 b0 b1 b2 b3 : Nat) : Int) := by
        rw [or_u32 (Nat.or_lt_two_pow (n := 32) (Nat.or_lt_two_pow (n := 32) (by omega) (by omega)) (by omega)) (by omega), word4_or c0 c1 c2]
      have hw4 := word4_lt c0 c1 c2 c3
      have e7 : Am.bits .xor .u32 (s : Int) ((word4 b0 b1 b2 b3 : Nat) : Int) = ((s ^^^ word4 b0 b1 b2 b3 : Nat) : Int) := xor_u32 h2 hw4
      have hwl : s ^^^ word4 b0 b1 b2 b3 < 4294967296 := xor_lt h2 hw4
      generalize hwe : s ^^^ word4 b0 b1 b2 b3 = w at *
      have hti := tab_index h2 c0 c1 c2 c3 hwe.symm
      have hl := tab_len
      have a3 : Am.bits .and .u32 (w : Int) 255 = ((w % 256 : Nat) : Int) := by
        rw [show (255 : Int) = ((255 : Nat) : Int) from rfl, and_u32 hwl (by omega), and_255]
      have a2 : Am.bits .and .u32 ((w : Int) / 256) 255 = ((w / 256 % 256 : Nat) : Int) := by
        rw [show (w : Int) / 256 = ((w / 256 : Nat) : Int) by omega, show (255 : Int) = ((255 : Nat) : Int) from rfl, and_u32 (by omega) (by omega), and_255]
      have a1 : Am.bits .and .u32 ((w : Int) / 65536) 255 = ((w / 65536 % 256 : Nat) : Int) := by
        rw [show (w : Int) / 65536 = ((w / 65536 : Nat) : Int) by omega, show (255 : Int) = ((255 : Nat) : Int) from rfl, and_u32 (by omega) (by omega), and_255]
      have a0 : (w : Int) / 16777216 = ((w / 16777216 : Nat) : Int) := by omega
      have g3 : tabL.getD (768 + w % 256) 0 = ent 3 (w % 256) := by
        rw [tab_get (by omega), show (768 + w % 256) / 256 = 3 by omega, show (768 + w % 256) % 256 = w % 256 by omega]
      have g2 : tabL.getD (512 + w / 256 % 256) 0 = ent 2 (w / 256 % 256) := by
        rw [tab_get (by omega), show (512 + w / 256 % 256) / 256 = 2 by omega, show (512 + w / 256 % 256) % 256 = w / 256 % 256 by omega]
      have g1 : tabL.getD (256 + w / 65536 % 256) 0 = ent 1 (w / 65536 % 256) := by
        rw [tab_get (by omega), show (256 + w / 65536 % 256) / 256 = 1 by omega, show (256 + w / 65536 % 256) % 256 = w / 65536 % 256 by omega]
      have g0 : tabL.getD (w / 16777216) 0 = ent 0 (w / 16777216) := by
        rw [tab_get (by omega), show (w / 16777216) / 256 = 0 by omega, Nat.mod_eq_of_lt (by omega)]
      have l3 : ent 3 (w % 256) < 4294967296 := ent_lt (by omega)
      have l2 : ent 2 (w / 256 % 256) < 4294967296 := ent_lt (by omega)
      have l1 : ent 1 (w / 65536 % 256) < 4294967296 := ent_lt (by omega)
      have l0 : ent 0 (w / 16777216) < 4294967296 := ent_lt (by omega)
      have x1 := xor_u32 l3 l2
      have x2 := xor_u32 (xor_lt l3 l2) l1
      have x3 := xor_u32 (xor_lt (xor_lt l3 l2) l1) l0
      rw [hti] at x3
      have hs' : addAll s [b0, b1, b2, b3] < 4294967296 := addAll_lt _ h2 (by simp; omega)
      have hrec : addAll (addAll s [b0, b1, b2, b3]) cs = v := by rw [← addAll_append]; exact h3
      (simp (disch := first | omega | (simp only [lnx]; omega)) only [stdh, stdx, ↓reduceIte, seval, r0, r1, r2, crc_Table_Add.d0, crc_Table_Add.d1, e1, e2, e3, e4, e5, e6, e7, a3, a2, a1, a0, tabV, Nat.add_zero, g3, g2, g1, g0, x1, x2, x3]; repeat (first | (refine runL_V 20 ?_; simp (disch := first | omega | (simp only [lnx]; omega)) only [stdh, stdx, ↓reduceIte, seval, r0, r1, r2, crc_Table_Add.d0, crc_Table_Add.d1, e1, e2, e3, e4, e5, e6, e7, a3, a2, a1, a0, tabV, Nat.add_zero, g3, g2, g1, g0, x1, x2, x3]) | (refine run_V 20 ?_; simp (disch := first | omega | (simp only [lnx]; omega)) only [stdh, stdx, ↓reduceIte, seval, r0, r1, r2, crc_Table_Add.d0, crc_Table_Add.d1, e1, e2, e3, e4, e5, e6, e7, a3, a2, a1, a0, tabV, Nat.add_zero, g3, g2, g1, g0, x1, x2, x3]) | (refine runD_V 20 ?_; simp (disch := first | omega | (simp only [lnx]; omega)) only [stdh, stdx, ↓reduceIte, seval, r0, r1, r2, crc_Table_Add.d0, crc_Table_Add.d1, e1, e2, e3, e4, e5, e6, e7, a3, a2, a1, a0, tabV, Nat.add_zero, g3, g2, g1, g0, x1, x2, x3])))
      exact ih cs.length (by simp at h1; omega) _ t cs _ rfl rfl rfl rfl (fun b hb' => hb b (by simp [hb'])) hs' hrec (fun r' s' t' bs' a1 a2 a3 a4 a5 a6 a7 => hK r' s' t' bs' a1 a2 a3 a4 a5 a6 (by simp at h1; omega))

theorem add_ok (H : AHeap) {s : Nat} (hs : s < 4294967296) {t : Bool} {bs : List Nat} (hlen : bs.length ≤ 9223372036854775807) (hb : ∀ b ∈ bs, b < 256) (Q : AVal → AHeap → Prop) (h : Q (.int .u32 (addAll s bs : Nat)) H) :
    FunOK Try.prog F.crc_Table_Add [tabV, .int .u32 (s : Nat), nums .u8 t bs] H Q := by
  refine fun_V 100 crc_Table_Add_code rfl ?_
  have hne : eqA .ptr tabV .nilp = some false := rfl
  simp (disch := first | omega | (simp only [lnx]; omega)) only [stdh, stdx, ↓reduceIte, seval, crc_Table_Add, crc_Table_Add.body, hne]
  refine add_four _ H Q (v := addAll s bs) bs.length s t bs _ rfl rfl rfl rfl hb hs rfl ?_
  intro r' s' t' bs' g1 g2 g3 g4 g5 g6 g7
  refine run_V0 60 ?_
  simp (disch := first | omega | (simp only [lnx]; omega)) only [stdh, stdx, ↓reduceIte, seval, g4, g5, g6]
  refine add_rest _ H Q (by omega) g1 (v := addAll s bs) ?_ bs'.length 0 s' (by omega) g2 g3
  intro r'' e
  refine run_V0 60 ?_
  simp (disch := first | omega | (simp only [lnx]; omega)) only [stdh, stdx, ↓reduceIte, seval, e]
  exact h

theorem begin_ok (H : AHeap) (Q : AVal → AHeap → Prop) (h : Q (.int .u32 4294967295) H) : FunOK Try.prog F.crc_Table_Begin [tabV] H Q := by
  refine fun_V 100 crc_Table_Begin_code rfl ?_
  have hne : eqA .ptr tabV .nilp = some false := rfl
  simp (disch := first | omega | (simp only [lnx]; omega)) only [stdh, stdx, ↓reduceIte, seval, crc_Table_Begin, crc_Table_Begin.body, hne]
  exact h

theorem ones_xor_u32 {x : Nat} (h : x < 4294967296) : Am.bits .xor .u32 4294967295 (x : Int) = ((4294967295 - x : Nat) : Int) := by
  have h1 := toNat_ofInt (n := 32) h
  show IntKind.u32.wrap ((BitVec.allOnes 32 ^^^ BitVec.ofInt 32 (x : Int)).toNat : Int) = _
  rw [BitVec.allOnes_xor, BitVec.toNat_not, h1, wrap_u32 (by omega)]
theorem ones_u32 : (if IntKind.u32.signed = true then (-1 : Int) else IntKind.u32.max) = 4294967295 := rfl

theorem end_ok (H : AHeap) {s : Nat} (hs : s < 4294967296) (Q : AVal → AHeap → Prop) (h : Q (.int .u32 (4294967295 - s : Nat)) H) : FunOK Try.prog F.crc_Table_End [tabV, .int .u32 (s : Nat)] H Q := by
  refine fun_V 100 crc_Table_End_code rfl ?_
  have hne : eqA .ptr tabV .nilp = some false := rfl
  simp (disch := first | omega | (simp only [lnx]; omega)) only [stdh, stdx, ↓reduceIte, seval, crc_Table_End, crc_Table_End.body, hne, ones_u32, ones_xor_u32 hs]
  try exact h

theorem load_view {H : AHeap} {a : AVal} {cs : List AVal} (h : view H a = some cs) {j : Nat} (hj : j < cs.length) : loadA H none (.sptr a j) = some (True, cs.getD j .junk) := by
  simp only [loadA, cellsAt, h, Option.map_some]
  congr 2
  · simp; omega
  · rw [List.headD_eq_head?_getD, List.head?_drop]
    simp [List.getD_eq_getElem?_getD]

abbrev sumC : Ctx := ⟨F.crc_Table_Sum, 24, [.tmp 4], none⟩

/-- Lists of bytes, in a list. -/
structure ByteLists (H : AHeap) (l : AVal) (bss : List (List Nat)) : Prop where
  len : slen l = some bss.length
  view : ∃ cs, view H l = some cs ∧ cs.length = bss.length ∧ ∀ j, j < bss.length → Sees (cs.getD j .junk) (nums .u8 false (bss.getD j []))
  lt : ∀ bs ∈ bss, (∀ b ∈ bs, b < 256) ∧ bs.length ≤ 9223372036854775807
  le : bss.length ≤ 9223372036854775807

theorem sum_loop (K : List AItem) (H : AHeap) (Q : AVal → AHeap → Prop) {l : AVal} {bss : List (List Nat)} (hl : ByteLists H l bss) {v : Nat} (hK : ∀ r', rget r' 0 = tabV → (∃ s : Nat, s = v ∧ s < 4294967296 ∧ rget r' 5 = .int .u32 (s : Nat)) → Run Try.prog sumC K r' H Q) :
    ∀ (m j s : Nat), j + m = bss.length → s < 4294967296 → addAll s (bss.drop j).flatten = v →
    Rounds Try.prog sumC crc_Table_Sum.b0 [.inBlock 0] K [(0, tabV), (5, .int .u32 (s : Nat)), (10, l), (11, .int .i64 (bss.length : Nat)), (12, .int .i64 (j : Nat))] H Q
  | 0, j, s, h1, h2, h3 => by
    refine loop_V 100 crc_Table_Sum.b0.eq_1 ?_
    rw [List.drop_eq_nil_of_le (by omega)] at h3
    simp (disch := first | omega | (simp only [lnx]; omega)) only [stdh, stdx, ↓reduceIte, seval]
    exact hK _ rfl ⟨s, h3, h2, rfl⟩
  | m + 1, j, s, h1, h2, h3 => by
    refine loop_V 100 crc_Table_Sum.b0.eq_1 ?_
    have hj : j < bss.length := by omega
    obtain ⟨hlen, ⟨cs, hv, hcl, hsee⟩, hlt, hle⟩ := hl
    have hld := load_view hv (j := j) (by omega)
    have his : (view H l).isSome = true := by rw [hv]; rfl
    rw [List.drop_eq_getElem_cons hj, List.flatten_cons, addAll_append] at h3
    have hmem : bss[j] ∈ bss := List.getElem_mem hj
    obtain ⟨hb, hbl⟩ := hlt _ hmem
    have hbe : bss.getD j [] = bss[j] := by simp [hj]
    have hs := hsee j hj
    rw [hbe] at hs
    simp (disch := first | omega | (simp only [lnx]; omega)) only [stdh, stdx, ↓reduceIte, seval, hlen, his, hld]
    refine callK_fn (fun_sees (.cons (.refl _) (.cons (.refl _) (.cons hs .nil))) (add_ok _ h2 hbl hb _ ?_))
    refine runL_V 60 ?_
    simp (disch := first | omega | (simp only [lnx]; omega)) only [stdh, stdx, ↓reduceIte, seval]
    exact sum_loop K H Q ⟨hlen, ⟨cs, hv, hcl, hsee⟩, hlt, hle⟩ hK m (j + 1) _ (by omega) (addAll_lt _ h2 hb) h3

theorem sum_ok (H : AHeap) {l : AVal} {bss : List (List Nat)} (hl : ByteLists H l bss) (Q : AVal → AHeap → Prop) (h : Q (.int .u32 (sumOf bss.flatten : Nat)) H) : FunOK Try.prog F.crc_Table_Sum [tabV, l] H Q := by
  refine fun_V 100 crc_Table_Sum_code rfl ?_
  simp (disch := first | omega | (simp only [lnx]; omega)) only [stdh, stdx, ↓reduceIte, seval, crc_Table_Sum, crc_Table_Sum.body]
  refine callK_fn (begin_ok _ _ ?_)
  refine runL_V 60 ?_
  simp (disch := first | omega | (simp only [lnx]; omega)) only [stdh, stdx, ↓reduceIte, seval, hl.len]
  refine sum_loop _ H Q hl (v := addAll 4294967295 bss.flatten) ?_ bss.length 0 4294967295 (by omega) (by omega) rfl
  rintro r' e0 ⟨s, hs, hs2, e⟩
  refine run_V0 60 ?_
  simp (disch := first | omega | (simp only [lnx]; omega)) only [stdh, stdx, ↓reduceIte, seval, e0, e]
  refine callK_fn (end_ok _ hs2 _ ?_)
  refine runL_V 60 ?_
  simp (disch := first | omega | (simp only [lnx]; omega)) only [stdh, stdx, ↓reduceIte, seval]
  rw [hs]
  exact h

theorem sum_nil (H : AHeap) {l x : AVal} (hl : slen l = some 1) (hv : view H l = some [x]) (Q : AVal → AHeap → Prop) (h : Q (.int .u32 0) H) : FunOK Try.prog F.crc_Table_Sum [.nilp, l] H Q := by
  refine fun_V 100 crc_Table_Sum_code rfl ?_
  simp (disch := first | omega | (simp only [lnx]; omega)) only [stdh, stdx, ↓reduceIte, seval, crc_Table_Sum, crc_Table_Sum.body]
  refine callK_fn (fun_reck codes_ok 100 (.int .u32 0) (by kernel_rfl) rfl rfl _ _ ?_)
  refine runL_V 60 ?_
  simp (disch := first | omega | (simp only [lnx]; omega)) only [stdh, stdx, ↓reduceIte, seval, hl]
  have hld := load_view hv (j := 0) (by simp)
  have his : (view H l).isSome = true := by rw [hv]; rfl
  refine loop_V 100 crc_Table_Sum.b0.eq_1 ?_
  simp (disch := first | omega | (simp only [lnx]; omega)) only [stdh, stdx, ↓reduceIte, seval, hl, his, hld]
  refine callK_fn (add_nil _ _ _ _ ?_)
  refine runL_V 60 ?_
  simp (disch := first | omega | (simp only [lnx]; omega)) only [stdh, stdx, ↓reduceIte, seval]
  refine loop_V 100 crc_Table_Sum.b0.eq_1 ?_
  simp (disch := first | omega | (simp only [lnx]; omega)) only [stdh, stdx, ↓reduceIte, seval]
  refine run_V0 60 ?_
  simp (disch := first | omega | (simp only [lnx]; omega)) only [stdh, stdx, ↓reduceIte, seval]
  refine callK_fn (fun_reck codes_ok 100 (.int .u32 0) (by kernel_rfl) rfl rfl _ _ ?_)
  refine runL_V 60 ?_
  simp (disch := first | omega | (simp only [lnx]; omega)) only [stdh, stdx, ↓reduceIte, seval]
  exact h

end Go.Proofs.Ytiepeiconkjmeaa

namespace Go.Proofs.Ytiepeiconkjmeaa
open Go Go.Am
set_option linter.unusedSimpArgs false
set_option linter.unusedVariables false

/-- The table of the sums, written out. -/
def tabI : List Int := [0, 1996959894, 3993919788, 2567524794, 124634137, 1886057615, 3915621685, 2657392035, 249268274, 2044508324, 3772115230, 2547177864, 162941995, 2125561021, 3887607047, 2428444049,
  498536548, 1789927666, 4089016648, 2227061214, 450548861, 1843258603, 4107580753, 2211677639, 325883990, 1684777152, 4251122042, 2321926636, 335633487, 1661365465, 4195302755,
  2366115317, 997073096, 1281953886, 3579855332, 2724688242, 1006888145, 1258607687, 3524101629, 2768942443, 901097722, 1119000684, 3686517206, 2898065728, 853044451, 1172266101,
  3705015759, 2882616665, 651767980, 1373503546, 3369554304, 3218104598, 565507253, 1454621731, 3485111705, 3099436303, 671266974, 1594198024, 3322730930, 2970347812, 795835527,
  1483230225, 3244367275, 3060149565, 1994146192, 31158534, 2563907772, 4023717930, 1907459465, 112637215, 2680153253, 3904427059, 2013776290, 251722036, 2517215374, 3775830040,
  2137656763, 141376813, 2439277719, 3865271297, 1802195444, 476864866, 2238001368, 4066508878, 1812370925, 453092731, 2181625025, 4111451223, 1706088902, 314042704, 2344532202,
  4240017532, 1658658271, 366619977, 2362670323, 4224994405, 1303535960, 984961486, 2747007092, 3569037538, 1256170817, 1037604311, 2765210733, 3554079995, 1131014506, 879679996,
  2909243462, 3663771856, 1141124467, 855842277, 2852801631, 3708648649, 1342533948, 654459306, 3188396048, 3373015174, 1466479909, 544179635, 3110523913, 3462522015, 1591671054,
  702138776, 2966460450, 3352799412, 1504918807, 783551873, 3082640443, 3233442989, 3988292384, 2596254646, 62317068, 1957810842, 3939845945, 2647816111, 81470997, 1943803523,
  3814918930, 2489596804, 225274430, 2053790376, 3826175755, 2466906013, 167816743, 2097651377, 4027552580, 2265490386, 503444072, 1762050814, 4150417245, 2154129355, 426522225,
  1852507879, 4275313526, 2312317920, 282753626, 1742555852, 4189708143, 2394877945, 397917763, 1622183637, 3604390888, 2714866558, 953729732, 1340076626, 3518719985, 2797360999,
  1068828381, 1219638859, 3624741850, 2936675148, 906185462, 1090812512, 3747672003, 2825379669, 829329135, 1181335161, 3412177804, 3160834842, 628085408, 1382605366, 3423369109,
  3138078467, 570562233, 1426400815, 3317316542, 2998733608, 733239954, 1555261956, 3268935591, 3050360625, 752459403, 1541320221, 2607071920, 3965973030, 1969922972, 40735498,
  2617837225, 3943577151, 1913087877, 83908371, 2512341634, 3803740692, 2075208622, 213261112, 2463272603, 3855990285, 2094854071, 198958881, 2262029012, 4057260610, 1759359992,
  534414190, 2176718541, 4139329115, 1873836001, 414664567, 2282248934, 4279200368, 1711684554, 285281116, 2405801727, 4167216745, 1634467795, 376229701, 2685067896, 3608007406,
  1308918612, 956543938, 2808555105, 3495958263, 1231636301, 1047427035, 2932959818, 3654703836, 1088359270, 936918000, 2847714899, 3736837829, 1202900863, 817233897, 3183342108,
  3401237130, 1404277552, 615818150, 3134207493, 3453421203, 1423857449, 601450431, 3009837614, 3294710456, 1567103746, 711928724, 3020668471, 3272380065, 1510334235, 755167117, 0,
  421212481, 842424962, 724390851, 1684849924, 2105013317, 1448781702, 1329698503, 3369699848, 3519200073, 4210026634, 3824474571, 2897563404, 3048111693, 2659397006, 2274893007,
  1254232657, 1406739216, 2029285587, 1643069842, 783210325, 934667796, 479770071, 92505238, 2182846553, 2600511768, 2955803355, 2838940570, 3866582365, 4285295644, 3561045983,
  3445231262, 2508465314, 2359236067, 2813478432, 3198777185, 4058571174, 3908292839, 3286139684, 3670389349, 1566420650, 1145479147, 1869335592, 1987116393, 959540142, 539646703,
  185010476, 303839341, 3745920755, 3327985586, 3983561841, 4100678960, 3140154359, 2721170102, 2300350837, 2416418868, 396344571, 243568058, 631889529, 1018359608, 1945336319,
  1793607870, 1103436669, 1490954812, 4034481925, 3915546180, 3259968903, 3679722694, 2484439553, 2366552896, 2787371139, 3208174018, 950060301, 565965900, 177645455, 328046286,
  1556873225, 1171730760, 1861902987, 2011255754, 3132841300, 2745199637, 2290958294, 2442530455, 3738671184, 3352078609, 3974232786, 4126854035, 1919080284, 1803150877, 1079293406,
  1498383519, 370020952, 253043481, 607678682, 1025720731, 1711106983, 2095471334, 1472923941, 1322268772, 26324643, 411738082, 866634785, 717028704, 2904875439, 3024081134,
  2668790573, 2248782444, 3376948395, 3495106026, 4219356713, 3798300520, 792689142, 908347575, 487136116, 68299317, 1263779058, 1380486579, 2036719216, 1618931505, 3890672638,
  4278043327, 3587215740, 3435896893, 2206873338, 2593195963, 2981909624, 2829542713, 998479947, 580430090, 162921161, 279890824, 1609522511, 1190423566, 1842954189, 1958874764,
  4082766403, 3930137346, 3245109441, 3631694208, 2536953671, 2385372678, 2768287173, 3155920004, 1900120602, 1750776667, 1131931800, 1517083097, 355290910, 204897887, 656092572,
  1040194781, 3113746450, 2692952403, 2343461520, 2461357009, 3723805974, 3304059991, 4022511508, 4141455061, 2919742697, 3072101800, 2620513899, 2234183466, 3396041197, 3547351212,
  4166851439, 3779471918, 1725839073, 2143618976, 1424512099, 1307796770, 45282277, 464110244, 813994343, 698327078, 3838160568, 4259225593, 3606301754, 3488152955, 2158586812,
  2578602749, 2996767038, 2877569151, 740041904, 889656817, 506086962, 120682355, 1215357364, 1366020341, 2051441462, 1667084919, 3422213966, 3538019855, 4190942668, 3772220557,
  2945847882, 3062702859, 2644537544, 2226864521, 52649286, 439905287, 823476164, 672009861, 1733269570, 2119477507, 1434057408, 1281543041, 2167981343, 2552493150, 3004082077,
  2853541596, 3847487515, 4233048410, 3613549209, 3464057816, 1239502615, 1358593622, 2077699477, 1657543892, 764250643, 882293586, 532408465, 111204816, 1585378284, 1197851309,
  1816695150, 1968414767, 974272232, 587794345, 136598634, 289367339, 2527558116, 2411481253, 2760973158, 3179948583, 4073438432, 3956313505, 3237863010, 3655790371, 347922877,
  229101820, 646611775, 1066513022, 1892689081, 1774917112, 1122387515, 1543337850, 3697634229, 3313392372, 3998419255, 4148705398, 3087642289, 2702352368, 2319436851, 2468674930,
  0, 29518391, 59036782, 38190681, 118073564, 114017003, 76381362, 89069189, 236147128, 265370511, 228034006, 206958561, 152762724, 148411219, 178138378, 190596925, 472294256,
  501532999, 530741022, 509615401, 456068012, 451764635, 413917122, 426358261, 305525448, 334993663, 296822438, 275991697, 356276756, 352202787, 381193850, 393929805, 944588512,
  965684439, 1003065998, 973863097, 1061482044, 1049003019, 1019230802, 1023561829, 912136024, 933002607, 903529270, 874031361, 827834244, 815125939, 852716522, 856752605,
  611050896, 631869351, 669987326, 640506825, 593644876, 580921211, 551983394, 556069653, 712553512, 733666847, 704405574, 675154545, 762387700, 749958851, 787859610, 792175277,
  1889177024, 1901651959, 1931368878, 1927033753, 2006131996, 1985040171, 1947726194, 1976933189, 2122964088, 2135668303, 2098006038, 2093965857, 2038461604, 2017599123, 2047123658,
  2076625661, 1824272048, 1836991623, 1866005214, 1861914857, 1807058540, 1786244187, 1748062722, 1777547317, 1655668488, 1668093247, 1630251878, 1625932113, 1705433044, 1684323811,
  1713505210, 1742760333, 1222101792, 1226154263, 1263738702, 1251046777, 1339974652, 1310460363, 1281013650, 1301863845, 1187289752, 1191637167, 1161842422, 1149379777, 1103966788,
  1074747507, 1112139306, 1133218845, 1425107024, 1429406311, 1467333694, 1454888457, 1408811148, 1379576507, 1350309090, 1371438805, 1524775400, 1528845279, 1499917702, 1487177649,
  1575719220, 1546255107, 1584350554, 1605185389, 3778354048, 3774312887, 3803303918, 3816007129, 3862737756, 3892238699, 3854067506, 3833203973, 4012263992, 4007927823, 3970080342,
  3982554209, 3895452388, 3924658387, 3953866378, 3932773565, 4245928176, 4241609415, 4271336606, 4283762345, 4196012076, 4225268251, 4187931714, 4166823541, 4076923208, 4072833919,
  4035198246, 4047918865, 4094247316, 4123732899, 4153251322, 4132437965, 3648544096, 3636082519, 3673983246, 3678331705, 3732010428, 3753090955, 3723829714, 3694611429, 3614117080,
  3601426159, 3572488374, 3576541825, 3496125444, 3516976691, 3555094634, 3525581405, 3311336976, 3298595879, 3336186494, 3340255305, 3260503756, 3281337595, 3251864226, 3222399125,
  3410866088, 3398419871, 3368647622, 3372945905, 3427010420, 3448139075, 3485520666, 3456284973, 2444203584, 2423127159, 2452308526, 2481530905, 2527477404, 2539934891, 2502093554,
  2497740997, 2679949304, 2659102159, 2620920726, 2650438049, 2562027300, 2574714131, 2603727690, 2599670141, 2374579504, 2353749767, 2383274334, 2412743529, 2323684844, 2336421851,
  2298759554, 2294686645, 2207933576, 2186809023, 2149495014, 2178734801, 2224278612, 2236720739, 2266437690, 2262135309, 2850214048, 2820717207, 2858812622, 2879680249, 2934667388,
  2938704459, 2909776914, 2897069605, 2817622296, 2788420399, 2759153014, 2780249921, 2700618180, 2704950259, 2742877610, 2730399645, 3049550800, 3020298727, 3057690558, 3078802825,
  2999835404, 3004150075, 2974355298, 2961925461, 3151438440, 3121956959, 3092510214, 3113327665, 3168701108, 3172786307, 3210370778, 3197646061, 0, 3099354981, 2852767883,
  313896942, 2405603159, 937357362, 627793884, 2648127673, 3316918511, 2097696650, 1874714724, 3607201537, 1255587768, 4067088605, 3772741427, 1482887254, 1343838111, 3903140090,
  4195393300, 1118632049, 3749429448, 1741137837, 1970407491, 3452858150, 2511175536, 756094997, 1067759611, 2266550430, 449832999, 2725482306, 2965774508, 142231497, 2687676222,
  412010587, 171665333, 2995192016, 793786473, 2548850444, 2237264098, 1038456711, 1703315409, 3711623348, 3482275674, 1999841343, 3940814982, 1381529571, 1089329165, 4166106984,
  4029413537, 1217896388, 1512189994, 3802027855, 2135519222, 3354724499, 3577784189, 1845280792, 899665998, 2367928107, 2677414085, 657096608, 3137160985, 37822588, 284462994,
  2823350519, 2601801789, 598228824, 824021174, 2309093331, 343330666, 2898962447, 3195996129, 113467524, 1587572946, 3860600759, 4104763481, 1276501820, 3519211397, 1769898208,
  2076913422, 3279374443, 3406630818, 1941006535, 1627703081, 3652755532, 1148164341, 4241751952, 3999682686, 1457141531, 247015245, 3053797416, 2763059142, 470583459, 2178658330,
  963106687, 735213713, 2473467892, 992409347, 2207944806, 2435792776, 697522413, 3024379988, 217581361, 508405983, 2800865210, 4271038444, 1177467017, 1419450215, 3962007554,
  1911572667, 3377213406, 3690561584, 1665525589, 1799331996, 3548628985, 3241568279, 2039091058, 3831314379, 1558270126, 1314193216, 4142438437, 2928380019, 372764438, 75645176,
  3158189981, 568925988, 2572515393, 2346768303, 861712586, 3982079547, 1441124702, 1196457648, 4293663189, 1648042348, 3666298377, 3358779879, 1888390786, 686661332, 2421291441,
  2196002399, 978858298, 2811169155, 523464422, 226935048, 3040519789, 3175145892, 100435649, 390670639, 2952089162, 841119475, 2325614998, 2553003640, 546822429, 2029308235,
  3225988654, 3539796416, 1782671013, 4153826844, 1328167289, 1570739863, 3844338162, 1298864389, 4124540512, 3882013070, 1608431339, 3255406162, 2058742071, 1744848601, 3501990332,
  2296328682, 811816591, 584513889, 2590678532, 129869501, 3204563416, 2914283062, 352848211, 494030490, 2781751807, 3078325777, 264757620, 2450577869, 715964072, 941166918,
  2158327331, 3636881013, 1618608400, 1926213374, 3396585883, 1470427426, 4011365959, 4255988137, 1158766284, 1984818694, 3471935843, 3695453837, 1693991400, 4180638033, 1100160564,
  1395044826, 3952793279, 3019491049, 189112716, 435162722, 2706139399, 1016811966, 2217162459, 2526189877, 774831696, 643086745, 2666061564, 2354934034, 887166583, 2838900430,
  294275499, 54519365, 3145957664, 3823145334, 1532818963, 1240029693, 4048895640, 1820460577, 3560857924, 3331051178, 2117577167, 3598663992, 1858283101, 2088143283, 3301633750,
  1495127663, 3785470218, 4078182116, 1269332353, 332098007, 2876706482, 3116540252, 25085497, 2628386432, 605395429, 916469259, 2384220526, 2254837415, 1054503362, 745528876,
  2496903497, 151290352, 2981684885, 2735556987, 464596510, 1137851976, 4218313005, 3923506883, 1365741990, 3434129695, 1946996346, 1723425172, 3724871409]
def tabW : AVal := .sptr (.imm (tabI.map (AVal.int .u32)) 1024 true) 0
set_option maxRecDepth 100000 in
theorem tabW_eq : tabV = tabW := by kernel_rfl
end Go.Proofs.Ytiepeiconkjmeaa

namespace Go.Proofs.Ytiepeiconkjmeaa
open Go Go.Am
set_option linter.unusedSimpArgs false
set_option linter.unusedVariables false

theorem fnew_ok (H : AHeap) (Q : AVal → AHeap → Prop) (h : Q (.ptr H.length 0) (H ++ [.cells [tabW] T.frame_Codec])) : FunOK Try.prog F.frame_New [] H Q := by
  refine fun_V 60 frame_New_code rfl ?_
  simp (disch := first | omega | (simp only [lnx]; omega)) only [stdh, stdx, ↓reduceIte, seval, frame_New, frame_New.body]
  refine callK_fn (new_ok _ _ ?_)
  rw [tabW_eq]
  refine runL_V 60 ?_
  simp (disch := first | omega | (simp only [lnx]; omega)) only [stdh, stdx, ↓reduceIte, seval, show tabW.cells = [tabW] from rfl, show tabW.cellish = true from rfl]
  exact h

theorem known22_0 : FunOK Try.prog F.cuneiformlaw22_known [] [] (fun av _ => av = .bool true) := by
  refine fun_V 60 cuneiformlaw22_known_code rfl ?_
  simp (disch := first | omega | (simp only [lnx]; omega)) only [stdh, stdx, ↓reduceIte, seval, cuneiformlaw22_known, cuneiformlaw22_known.body]
  have hs : FunOK Try.prog F.send_New [.agg [.int .i64 1, .int .i64 16, .int .u32 7]] [] (fun av H => av = .tup [.ptr 2 0, .int .i64 0] ∧ H = [.cells [.int .i64 1, .int .i64 16, .int .u32 7] T.conf_Sender, .cells [tabW] T.frame_Codec, .cells [.int .i64 1, .int .i64 16, .int .u32 7, .ptr 1 0, .int .u32 7, .int .i64 0] T.send_Sender]) := by
    refine fun_V 60 send_New_code rfl ?_
    simp (disch := first | omega | (simp only [lnx]; omega)) only [stdh, stdx, ↓reduceIte, seval, send_New, send_New.body]
    refine callK_fn (fun_reck codes_ok 10000 (.int .i64 0) (by kernel_rfl) rfl rfl _ _ ?_)
    refine runL_V 60 ?_
    simp (disch := first | omega | (simp only [lnx]; omega)) only [stdh, stdx, ↓reduceIte, seval, send_New.d0]
    refine callD_fn (fnew_ok _ _ ?_)
    refine ⟨by simp (disch := first | omega | (simp only [lnx]; omega)) only [stdh, stdx, ↓reduceIte, seval], ?_⟩
    refine runD_V 60 ?_
    simp (disch := first | omega | (simp only [lnx]; omega)) only [stdh, stdx, ↓reduceIte, seval]
  refine callK_fn (FunOK.mono hs ?_)
  rintro av H ⟨rfl, rfl⟩
  refine runL_V 24 ?_
  simp (disch := first | omega | (simp only [lnx]; omega)) only [stdh, stdx, ↓reduceIte, seval, eqA]
  exact callK_reck codes_ok 100000 (.bool true) (by kernel_rfl) (fun _ => rfl)
theorem known22_ok (H : AHeap) (Q : AVal → AHeap → Prop) (h : Q (.bool true) H) : FunOK Try.prog F.cuneiformlaw22_known [] H Q := fun_frame known22_0 rfl rfl H Q h
end Go.Proofs.Ytiepeiconkjmeaa
