/-
  Numbers, lists and arguments in that machine, and what a row asks of a call. By an AI agent. No person has read it.
-/
import Derived.Test.YtamcfgdnhgmkpaaAm3
import Derived.ChangeSame
import Derived.RowKit3
import Derived.ProofKit
import Derived.KernelRfl
import Derived.OpenShut
set_option linter.unusedSimpArgs false
set_option linter.unusedVariables false

namespace Go.Am
open Go
set_option linter.unusedVariables false

/-! ### Rows -/

theorem hrel_nil {ρ : Nat → Option Nat} {w : World} : HRel (nm ρ [] w) where
  blk n b hb := by simp [nm] at hb
  inj n m b ha := by simp [nm, alive] at ha

/-- What a call from outside keeps. -/
theorem calls_of {P : Program} {f : FuncId} {args : List AVal} {Q : AVal → AHeap → Prop} (h : FunOK P f args [] Q) {ρ : Nat → Option Nat} {vs : Array Value} {w : World} (hn : vs.size = args.length) (hv : VsRel (nm ρ [] w) args (fun i => vs[i]?)) :
    Calls P f vs w fun e w' => ∃ av H' ρ' v, Q av H' ∧ e = .returned v ∧ VRel (nm ρ' H' w') av v ∧ HRel (nm ρ' H' w') ∧ RowKit.Below w.heap.size w w' := by
  intro cs
  obtain ⟨av, H', ρ', v, w', fr, h1, h2, h3, h4, h5, h6, h7⟩ := h.2 ρ vs w hn hv hrel_nil cs
  refine ⟨.returned v, w', fr, ⟨av, H', ρ', v, h1, rfl, h5, h6, ⟨h7.os, h7.tape, h7.output, h7.size, fun k hk => h7.keep k hk ?_⟩⟩, h2, h4, h3⟩
  rintro ⟨n, ha, _⟩
  simp [nm, alive] at ha

set_option linter.unusedVariables false

/-! ### Numbers -/

theorem wrap_i64 {x : Int} (h : -9223372036854775808 ≤ x ∧ x < 9223372036854775808) : IntKind.i64.wrap x = x := by
  simp only [IntKind.wrap, IntKind.bits, IntKind.signed]; simp; omega
theorem wrap_i32 {x : Int} (h : -2147483648 ≤ x ∧ x < 2147483648) : IntKind.i32.wrap x = x := by
  simp only [IntKind.wrap, IntKind.bits, IntKind.signed]; simp; omega
theorem wrap_u64 {x : Int} (h : 0 ≤ x ∧ x < 18446744073709551616) : IntKind.u64.wrap x = x := by
  simp only [IntKind.wrap, IntKind.bits, IntKind.signed]; simp; omega
theorem wrap_u32 {x : Int} (h : 0 ≤ x ∧ x < 4294967296) : IntKind.u32.wrap x = x := by
  simp only [IntKind.wrap, IntKind.bits, IntKind.signed]; simp; omega
theorem wrap_u16 {x : Int} (h : 0 ≤ x ∧ x < 65536) : IntKind.u16.wrap x = x := by
  simp only [IntKind.wrap, IntKind.bits, IntKind.signed]; simp; omega
theorem wrap_u8 {x : Int} (h : 0 ≤ x ∧ x < 256) : IntKind.u8.wrap x = x := by
  simp only [IntKind.wrap, IntKind.bits, IntKind.signed]; simp; omega
theorem wrap_u8' (x : Int) : IntKind.u8.wrap x = x % 256 := by
  simp only [IntKind.wrap, IntKind.bits, IntKind.signed]; simp
theorem wrap_u16' (x : Int) : IntKind.u16.wrap x = x % 65536 := by
  simp only [IntKind.wrap, IntKind.bits, IntKind.signed]; simp
theorem wrap_u32' (x : Int) : IntKind.u32.wrap x = x % 4294967296 := by
  simp only [IntKind.wrap, IntKind.bits, IntKind.signed]; simp
theorem wrap_u64' (x : Int) : IntKind.u64.wrap x = x % 18446744073709551616 := by
  simp only [IntKind.wrap, IntKind.bits, IntKind.signed]; simp
theorem fdiv_pow {x : Int} {n : Nat} : x.fdiv (2 ^ n) = x / 2 ^ n := Int.fdiv_eq_ediv_of_nonneg _ (by exact Int.pow_nonneg (by omega))
theorem and_left {p q : Prop} (h : p) : (p ∧ q) = q := by simp [h]

theorem slen_nils : slen .nils = some 0 := rfl
theorem slen_slc (n o l z : Nat) : slen (.slc n o l z) = some l := rfl
theorem slen_imm (cs : List AVal) (l : Nat) (t : Bool) : slen (.imm cs l t) = some l := rfl

/-! ### Variables -/

def loadB (agg : Option Nat) (o : Nat) : Option ABlk → Option (Prop × AVal)
  | some (.cells cs _) => (match agg with
    | some n => some (n ≤ (cs.drop o).length, .agg ((cs.drop o).take n))
    | none => some (o < cs.length, cs.getD o .junk))
  | _ => none

theorem loadA_ptr {H : AHeap} {agg : Option Nat} {n o : Nat} {b : ABlk} {x : Prop × AVal} (hb : H[n]? = some b) (h : loadB agg o (some b) = some x) : loadA H agg (.ptr n o) = some x := by
  cases b <;> simp only [loadB] at h <;> first | (cases h; done) | skip
  simp only [loadA, cellsAt, hb, content, Option.map_some]
  cases agg with
  | some k => exact h
  | none =>
    simp only [Option.some.injEq] at h ⊢
    rw [← h]
    rename_i cs el
    congr 1
    · simp; omega
    · rw [List.headD_eq_head?_getD, List.head?_drop]; simp [List.getD_eq_getElem?_getD]

theorem load_var {H : AHeap} {n : Nat} {v : AVal} {el : TypeId} (h : H[n]? = some (.cells [v] el)) : loadA H none (.ptr n 0) = some (True, v) := by
  refine loadA_ptr h ?_
  simp [loadB]
theorem load_cell {H : AHeap} {n o : Nat} {cs : List AVal} {el : TypeId} (h : H[n]? = some (.cells cs el)) (ho : o < cs.length) : loadA H none (.ptr n o) = some (True, cs.getD o .junk) := by
  refine loadA_ptr h ?_
  simp [loadB, ho]
theorem load_agg {H : AHeap} {n k : Nat} {cs : List AVal} {el : TypeId} (h : H[n]? = some (.cells cs el)) (hk : k = cs.length) : loadA H (some k) (.ptr n 0) = some (True, .agg cs) := by
  refine loadA_ptr h ?_
  simp [loadB, hk]
theorem store_var {H : AHeap} {n : Nat} {v u : AVal} {el : TypeId} (h : H[n]? = some (.cells [v] el)) (hc : u.cells = [u]) (hu : u.cellish = true) : storeA H 1 (.ptr n 0) u = some (True, H.set n (.cells [u] el)) := by
  simp only [storeA, h, hc]
  congr 2
  simp [hu]

theorem loadA_ptr' {H : AHeap} {agg : Option Nat} {n o : Nat} : loadA H agg (.ptr n o) = (match H[n]? with
    | some (.vec cs _ _) => loadB agg o (some (.cells cs 0))
    | x => loadB agg o x) := by
  simp only [loadA, cellsAt]
  cases hb : H[n]? with
  | none => rfl
  | some b =>
    cases b <;> simp only [content, Option.map_some, Option.map_none, loadB]
    all_goals
      cases agg with
      | some k => rfl
      | none =>
        rename_i cs _
        first
          | (simp only [Option.some.injEq]
             congr 1
             · simp; omega
             · rw [List.headD_eq_head?_getD, List.head?_drop]; simp [List.getD_eq_getElem?_getD])
          | rfl

def loadV (agg : Option Nat) (o : Nat) : Option ABlk → Option (Prop × AVal)
  | some (.vec cs _ _) => loadB agg o (some (.cells cs 0))
  | x => loadB agg o x

theorem loadA_at {H : AHeap} {agg : Option Nat} {n o : Nat} : loadA H agg (.ptr n o) = loadV agg o H[n]? := loadA_ptr'

def storeB (sz off : Nat) (v : AVal) (n : Nat) (H : AHeap) : Option ABlk → Option (Prop × AHeap)
  | some (.cells cs el) => some (off + sz ≤ cs.length ∧ v.cells.length = sz ∧ v.cells.all AVal.cellish = true, H.set n (.cells (fillAt cs off v.cells) el))
  | some (.vec cs el z) => some (off + sz ≤ cs.length ∧ 0 < sz ∧ v.cells.length = sz ∧ v.cells.all AVal.cellish = true, H.set n (.vec (fillAt cs off v.cells) el z))
  | _ => none

theorem storeA_at {H : AHeap} {sz n off : Nat} {v : AVal} : storeA H sz (.ptr n off) v = storeB sz off v n H H[n]? := by
  unfold storeB
  rfl

theorem cells_int (k : IntKind) (n : Int) : (AVal.int k n).cells = [.int k n] := rfl
theorem cells_bool (b : Bool) : (AVal.bool b).cells = [.bool b] := rfl
theorem cells_str (s : ByteArray) : (AVal.str s).cells = [.str s] := rfl
theorem cells_agg (l : List AVal) : (AVal.agg l).cells = l := rfl
theorem cells_slc (n o l z : Nat) : (AVal.slc n o l z).cells = [.slc n o l z] := rfl
theorem cells_nils : AVal.nils.cells = [.nils] := rfl
theorem cells_nilp : AVal.nilp.cells = [.nilp] := rfl
theorem cells_nilf : AVal.nilf.cells = [.nilf] := rfl
theorem cells_nilm : AVal.nilm.cells = [.nilm] := rfl
theorem cells_ptr (n o : Nat) : (AVal.ptr n o).cells = [.ptr n o] := rfl
theorem cells_mapv (n : Nat) : (AVal.mapv n).cells = [.mapv n] := rfl
theorem cells_fn (f : FuncId) (a b : List AVal) : (AVal.fn f a b).cells = [.fn f a b] := rfl
theorem cells_imm (cs : List AVal) (l : Nat) (t : Bool) : (AVal.imm cs l t).cells = [.imm cs l t] := rfl
theorem cellish_int (k : IntKind) (n : Int) : (AVal.int k n).cellish = true := rfl
theorem cellish_bool (b : Bool) : (AVal.bool b).cellish = true := rfl
theorem cellish_str (s : ByteArray) : (AVal.str s).cellish = true := rfl
theorem cellish_slc (n o l z : Nat) : (AVal.slc n o l z).cellish = true := rfl
theorem cellish_nils : AVal.nils.cellish = true := rfl
theorem cellish_nilp : AVal.nilp.cellish = true := rfl
theorem cellish_nilf : AVal.nilf.cellish = true := rfl
theorem cellish_nilm : AVal.nilm.cellish = true := rfl
theorem cellish_ptr (n o : Nat) : (AVal.ptr n o).cellish = true := rfl
theorem cellish_mapv (n : Nat) : (AVal.mapv n).cellish = true := rfl
theorem cellish_fn (f : FuncId) (a b : List AVal) : (AVal.fn f a b).cellish = true := rfl
theorem cellish_imm (cs : List AVal) (l : Nat) (t : Bool) : (AVal.imm cs l t).cellish = true := rfl

/-! ### What stays -/

/-- All that was, is as it was. -/
structure Keeps (H H' : AHeap) : Prop where
  le : H.length ≤ H'.length
  at_ : ∀ n, n < H.length → H'[n]? = H[n]?

theorem Keeps.refl (H : AHeap) : Keeps H H := ⟨Nat.le_refl _, fun _ _ => rfl⟩
theorem Keeps.trans {H H' H'' : AHeap} (h : Keeps H H') (h' : Keeps H' H'') : Keeps H H'' :=
  ⟨Nat.le_trans h.le h'.le, fun n hn => (h'.at_ n (Nat.lt_of_lt_of_le hn h.le)).trans (h.at_ n hn)⟩
theorem Keeps.push {H H' : AHeap} (h : Keeps H H') (b : ABlk) : Keeps H (H' ++ [b]) :=
  ⟨by simp; have := h.le; omega, fun n hn => by rw [List.getElem?_append_left (Nat.lt_of_lt_of_le hn h.le)]; exact h.at_ n hn⟩
theorem Keeps.set {H H' : AHeap} (h : Keeps H H') {n : Nat} (hn : H.length ≤ n) (b : ABlk) : Keeps H (H'.set n b) :=
  ⟨by simp; exact h.le, fun m hm => by rw [List.getElem?_set_ne (by omega)]; exact h.at_ m hm⟩
theorem Keeps.get {H H' : AHeap} (h : Keeps H H') {n : Nat} {b : ABlk} (hb : H[n]? = some b) : H'[n]? = some b := by
  rw [h.at_ n (List.getElem?_eq_some_iff.1 hb).1]; exact hb

theorem Keeps.view {H H' : AHeap} (h : Keeps H H') {a : AVal} {xs : List AVal} (ha : view H a = some xs) : Am.view H' a = some xs := by
  cases a <;> simp only [Am.view] at ha ⊢ <;> first | exact ha | skip
  rename_i n off len sz
  cases hn : H[n]? with
  | none => simp [hn, content] at ha
  | some b => rw [h.get hn]; rw [hn] at ha; exact ha

/-- The numbers of a slice. -/
structure Nats (k : IntKind) (H : AHeap) (a : AVal) (xs : List Nat) : Prop where
  len : slen a = some xs.length
  view : Am.view H a = some (xs.map fun n : Nat => AVal.int k (n : Int))
  one : ∀ n o l z, a = .slc n o l z → z = 1

theorem Nats.keep {k : IntKind} {H H' : AHeap} {a : AVal} {xs : List Nat} (h : Nats k H a xs) (hk : Keeps H H') : Nats k H' a xs := ⟨h.len, hk.view h.view, h.one⟩

theorem Nats.load {k : IntKind} {H : AHeap} {a : AVal} {xs : List Nat} (h : Nats k H a xs) {j : Nat} (hj : j < xs.length) : loadA H none (.sptr a j) = some (True, .int k ((xs.getD j 0 : Nat) : Int)) := by
  simp only [loadA, cellsAt, h.view, Option.map_some]
  congr 2
  · simp; omega
  · rw [List.headD_eq_head?_getD, List.head?_drop]
    simp [hj]

theorem Nats.isSome {k : IntKind} {H : AHeap} {a : AVal} {xs : List Nat} (h : Nats k H a xs) : (Am.view H a).isSome = true := by rw [h.view]; rfl

theorem nats_nil (k : IntKind) (H : AHeap) : Nats k H .nils [] := ⟨rfl, rfl, fun _ _ _ _ h => by cases h⟩

theorem Nats.slice {k : IntKind} {H : AHeap} {a : AVal} {xs : List Nat} (h : Nats k H a xs) (lo hi : Option Int) {l r : Nat} (hl : lo.getD 0 = l) (hr : hi.getD xs.length = r) (hle : l ≤ r) (hrx : r ≤ xs.length) :
    ∃ p v, sliceA 1 a lo hi none = some (p, v) ∧ p ∧ Nats k H v ((xs.drop l).take (r - l)) := by
  have hlen := h.len
  have hview := h.view
  cases a <;> simp only [slen] at hlen <;> first | (cases hlen; done) | skip
  · have h0 : 0 = xs.length := by simpa using hlen
    have : xs = [] := List.length_eq_zero_iff.1 h0.symm
    subst this
    refine ⟨_, _, rfl, ?_, ?_⟩
    · simp only [List.length_nil] at hr
      have h1 : (hi.getD ((0 : Nat) : Int)) = (r : Int) := hr
      simp only [List.length_nil] at hrx
      show 0 ≤ lo.getD 0 ∧ lo.getD 0 ≤ hi.getD ((0 : Nat) : Int) ∧ hi.getD ((0 : Nat) : Int) ≤ ((0 : Nat) : Int) ∧ ((0 : Nat) : Int) ≤ ((0 : Nat) : Int)
      rw [hl, h1]; omega
    · simpa using nats_nil k H
  · rename_i n o len z
    have hz := h.one n o len z rfl
    subst hz
    have hlx : len = xs.length := by simpa using hlen
    subst hlx
    refine ⟨_, _, rfl, ?_, ⟨?_, ?_, fun _ _ _ _ hh => by cases hh; rfl⟩⟩ <;> simp only [Option.getD_none, hl, hr, Int.toNat_natCast, Nat.mul_one]
    · exact ⟨⟨by omega, by omega, by omega, by omega⟩, by trivial⟩
    · simp [slen]; omega
    · simp only [Am.view, Nat.mul_one] at hview ⊢
      cases hc : content H[n]? with
      | none => rw [hc] at hview; cases hview
      | some cs =>
        rw [hc] at hview
        simp only at hview ⊢
        split at hview
        · rename_i hlt
          rw [if_pos (by omega)]
          have hv := Option.some.inj hview
          congr 1
          refine List.ext_getElem? fun i => ?_
          have h2 := congrArg (fun z : List AVal => z[l + i]?) hv
          simp only [List.getElem?_take, List.getElem?_drop, List.getElem?_map] at h2 ⊢
          by_cases hi : i < r - l
          · rw [if_pos hi, if_pos hi, ← h2, if_pos (by omega)]; congr 1; omega
          · rw [if_neg hi, if_neg hi]; rfl
        · cases hview
  · rename_i cs len tight
    have hlx : len = xs.length := by simpa using hlen
    subst hlx
    simp only [Am.view, Option.some.injEq] at hview
    subst hview
    refine ⟨_, _, rfl, ?_, ⟨?_, ?_, fun _ _ _ _ hh => by cases hh⟩⟩ <;> simp only [Option.getD_none, hl, hr, Int.toNat_natCast, Nat.mul_one]
    · simp; omega
    · simp [slen]; omega
    · simp [Am.view, List.map_drop, List.map_take]

/-- A list of its own: one that may be appended to. -/
structure Mine (k : IntKind) (el : TypeId) (B : Nat) (H : AHeap) (a : AVal) (xs : List Nat) : Prop where
  is : (a = .nils ∧ xs = []) ∨ ∃ n, B ≤ n ∧ a = .slc n 0 xs.length 1 ∧ H[n]? = some (.vec (xs.map fun n : Nat => AVal.int k (n : Int)) el 1)

theorem Mine.nats {k : IntKind} {el : TypeId} {B : Nat} {H : AHeap} {a : AVal} {xs : List Nat} (h : Mine k el B H a xs) : Nats k H a xs := by
  rcases h.is with ⟨rfl, rfl⟩ | ⟨n, _, rfl, hn⟩
  · exact nats_nil k H
  · refine ⟨rfl, ?_, fun _ _ _ _ h => by cases h; rfl⟩
    simp [Am.view, hn, content, List.take_of_length_le]

theorem Mine.keep {k : IntKind} {el : TypeId} {B : Nat} {H H' : AHeap} {a : AVal} {xs : List Nat} (h : Mine k el B H a xs) (hk : Keeps H H') : Mine k el B H' a xs := by
  rcases h.is with h | ⟨n, hb, h1, hn⟩
  · exact ⟨.inl h⟩
  · exact ⟨.inr ⟨n, hb, h1, hk.get hn⟩⟩

/-- What appending to it comes to. -/
theorem Mine.append {k : IntKind} {el : TypeId} {B : Nat} {H0 H : AHeap} {a x : AVal} {xs ys : List Nat} (h : Mine k el B H a xs) (hx : Nats k H x ys) {bytes : Nat} (hk : Keeps H0 H) (hB : B = H0.length) (hl : (xs.length + ys.length) * bytes ≤ 140737488355328) (hl2 : xs.length + ys.length ≤ 140737488355328)
    (hs : ∀ s, x ≠ .str s) : ∃ v H' p, appendA H el 1 bytes a x = some (p, v, H') ∧ p ∧ Mine k el B H' v (xs ++ ys) ∧ Keeps H0 H' := by
  subst hB
  have h1 : srcLen x = some ys.length := by
    have := hx.len
    cases x <;> first | (simp [slen] at this; done) | exact this
  have h2 : srcCells H x = some (ys.map fun n : Nat => AVal.int k (n : Int)) := by
    have := hx.view
    cases x <;> first | (simp [Am.view] at this; done) | exact this
  rcases h.is with ⟨rfl, rfl⟩ | ⟨n, hn, rfl, hb⟩
  · refine ⟨_, _, _, by simp only [appendA, h1, h2]; rfl, ?_, ⟨.inr ⟨H.length, hk.le, by simp, by simp⟩⟩, hk.push _⟩
    simp at hl hl2
    refine ⟨by simp, by omega, hl, by omega⟩
  · refine ⟨_, _, _, by simp only [appendA, h1, h2, hb]; rfl, ?_, ⟨.inr ⟨(H.set n .dead).length, by simp; exact hk.le, by simp, by simp⟩⟩, (hk.set hn _).push _⟩
    refine ⟨by simp, by omega, hl, by omega, by trivial, by trivial, by trivial, by trivial, by simp, ?_⟩
    simp [AVal.cellish]

set_option linter.unusedVariables false

/-! ### Bits -/

theorem toNat_ofInt {n : Nat} {a : Nat} (h : a < 2 ^ n) : (BitVec.ofInt n (a : Int)).toNat = a := by
  rw [BitVec.toNat_ofInt]
  have : ((2 ^ n : Nat) : Int) = (2 : Int) ^ n := by simp
  rw [← Int.natCast_emod, Int.toNat_natCast]
  exact Nat.mod_eq_of_lt h

theorem wrap_nat {k : IntKind} (hs : k.signed = false) {a : Nat} (h : a < 2 ^ k.bits) : k.wrap (a : Int) = a := by
  unfold IntKind.wrap
  simp only [hs, Bool.false_and, Bool.false_eq_true, if_false]
  have : ((2 ^ k.bits : Nat) : Int) = (2 : Int) ^ k.bits := by simp
  rw [← this, ← Int.natCast_emod, Nat.mod_eq_of_lt h]

theorem bits_or {k : IntKind} (hs : k.signed = false) {a b : Nat} (ha : a < 2 ^ k.bits) (hb : b < 2 ^ k.bits) : bits .or k a b = ((a ||| b : Nat) : Int) := by
  simp only [bits, BitVec.toNat_or, toNat_ofInt ha, toNat_ofInt hb]
  exact wrap_nat hs (Nat.or_lt_two_pow ha hb)
theorem bits_and {k : IntKind} (hs : k.signed = false) {a b : Nat} (ha : a < 2 ^ k.bits) (hb : b < 2 ^ k.bits) : bits .and k a b = ((a &&& b : Nat) : Int) := by
  simp only [bits, BitVec.toNat_and, toNat_ofInt ha, toNat_ofInt hb]
  exact wrap_nat hs (Nat.and_lt_two_pow _ hb)
theorem bits_xor {k : IntKind} (hs : k.signed = false) {a b : Nat} (ha : a < 2 ^ k.bits) (hb : b < 2 ^ k.bits) : bits .xor k a b = ((a ^^^ b : Nat) : Int) := by
  simp only [bits, BitVec.toNat_xor, toNat_ofInt ha, toNat_ofInt hb]
  exact wrap_nat hs (Nat.xor_lt_two_pow ha hb)

theorem or128 (x : Nat) (h : x < 256) : x ||| 128 = x % 128 + 128 := by
  have : ∀ x : Fin 256, (x.val ||| 128) = x.val % 128 + 128 := by decide +kernel
  exact this ⟨x, h⟩

theorem or_shift {a b n : Nat} (h : a < 2 ^ n) : a ||| b * 2 ^ n = a + b * 2 ^ n := by
  have := Nat.two_pow_add_eq_or_of_lt h b
  rw [Nat.mul_comm, Nat.or_comm, ← this]; omega

theorem toNat_ofInt' (n : Nat) (a : Int) : ((BitVec.ofInt n a).toNat : Int) = a % 2 ^ n := by
  rw [BitVec.toNat_ofInt]
  have : ((2 ^ n : Nat) : Int) = (2 : Int) ^ n := by simp
  rw [this, Int.toNat_of_nonneg]
  exact Int.emod_nonneg _ (by rw [← this]; have := Nat.two_pow_pos n; omega)

theorem xor_zero_i64 {x : Int} (h : -9223372036854775808 ≤ x ∧ x < 9223372036854775808) : bits .xor .i64 x 0 = x := by
  show IntKind.i64.wrap ((BitVec.ofInt 64 x ^^^ 0#64).toNat : Int) = x
  rw [BitVec.xor_zero, toNat_ofInt']
  simp only [IntKind.wrap, IntKind.bits, IntKind.signed]; simp; omega

theorem xor_ones_i64 {x : Int} (h : -9223372036854775808 ≤ x ∧ x < 9223372036854775808) : bits .xor .i64 x (-1) = -x - 1 := by
  show IntKind.i64.wrap ((BitVec.ofInt 64 x ^^^ BitVec.allOnes 64).toNat : Int) = -x - 1
  rw [BitVec.xor_allOnes, BitVec.toNat_not]
  have h1 := toNat_ofInt' 64 x
  have h2 : (BitVec.ofInt 64 x).toNat < 2 ^ 64 := (BitVec.ofInt 64 x).isLt
  rw [Int.natCast_sub (by omega), Int.natCast_sub (by omega), h1]
  simp only [IntKind.wrap, IntKind.bits, IntKind.signed]; simp; omega

theorem xor_zero_u64 {x : Int} (h : 0 ≤ x ∧ x < 18446744073709551616) : bits .xor .u64 x 0 = x := by
  show IntKind.u64.wrap ((BitVec.ofInt 64 x ^^^ 0#64).toNat : Int) = x
  rw [BitVec.xor_zero, toNat_ofInt']
  simp only [IntKind.wrap, IntKind.bits, IntKind.signed]; simp; omega

theorem xor_ones_u64 {x : Int} (h : 0 ≤ x ∧ x < 18446744073709551616) : bits .xor .u64 x 18446744073709551615 = 18446744073709551615 - x := by
  show IntKind.u64.wrap ((BitVec.ofInt 64 x ^^^ BitVec.allOnes 64).toNat : Int) = 18446744073709551615 - x
  rw [BitVec.xor_allOnes, BitVec.toNat_not]
  have h1 := toNat_ofInt' 64 x
  have h2 : (BitVec.ofInt 64 x).toNat < 2 ^ 64 := (BitVec.ofInt 64 x).isLt
  rw [Int.natCast_sub (by omega), Int.natCast_sub (by omega), h1]
  simp only [IntKind.wrap, IntKind.bits, IntKind.signed]; simp; omega

/-- A literal of numbers. -/
theorem nats_one {k : IntKind} {H : AHeap} {el : TypeId} {n : Nat} : Nats k (H ++ [ABlk.vec [AVal.int k (n : Int)] el 1]) (.slc H.length 0 1 1) [n] := ⟨rfl, by simp [view, content], fun _ _ _ _ h => by cases h; rfl⟩

theorem nats_lit {k : IntKind} {H : AHeap} {el : TypeId} (xs : List Nat) : Nats k (H ++ [ABlk.vec (xs.map fun n : Nat => AVal.int k (n : Int)) el 1]) (.slc H.length 0 xs.length 1) xs := ⟨rfl, by simp [view, content, List.take_of_length_le], fun _ _ _ _ h => by cases h; rfl⟩

set_option linter.unusedVariables false

/-! ### Arguments -/

inductive Sh where
  | bool
  | int (k : IntKind)
  | str
  | slice (e : Sh)
  | struct (fs : List Sh)
  | arr (n : Nat) (k : IntKind)

mutual
def width : Sh → Nat
  | .struct fs => widths fs
  | .arr n _ => n
  | _ => 1
def widths : List Sh → Nat
  | [] => 0
  | s :: ss => width s + widths ss
end

mutual
def okSh (P : Program) : Sh → TypeId → Bool
  | .bool, t => (match P.underlying t with | some .bool => true | _ => false)
  | .int k, t => (match P.underlying t with | some (.int k') => decide (k = k') | _ => false)
  | .str, t => (match P.underlying t with | some .string => true | _ => false)
  | .slice e, t => (match P.underlying t with | some (.slice el) => okSh P e el && decide (P.cellsOf el = width e) && decide (0 < width e) | _ => false)
  | .struct ss, t => (match P.underlying t with | some (.struct fs) => okShs P ss fs.toList 0 && decide (P.cellsOf t = widths ss) | _ => false)
  | .arr n k, t => (match P.underlying t with | some (.array n' e) => decide (n = n') && (match P.underlying e with | some (.int k') => decide (k = k') | _ => false) && decide (P.cellsOf e = 1) && decide (P.cellsOf t = n) | _ => false)
def okShs (P : Program) : List Sh → List Field → Nat → Bool
  | [], [], _ => true
  | s :: ss, f :: fs, off => decide (f.offset = off) && okSh P s f.type && decide (P.cellsOf f.type = width s) && okShs P ss fs (off + width s)
  | _, _, _ => false
end

mutual
def Fits : Sh → List AVal → Prop
  | .bool, l => ∃ b, l = [.bool b]
  | .int k, l => ∃ n, l = [.int k n] ∧ (Lit.int k n).wf = true
  | .str, l => ∃ s : ByteArray, l = [.str s] ∧ s.size ≤ 9223372036854775807
  | .slice e, l => l = [.nils] ∨ ∃ (gs : List (List AVal)) (tight : Bool), (∀ g ∈ gs, Fits e g) ∧ l = [.imm gs.flatten gs.length tight] ∧ gs.length ≤ 9223372036854775807
  | .struct ss, l => FitsL ss l
  | .arr n k, l => l.length = n ∧ ∀ i, i < n → ∃ v, l[i]? = some (.int k v) ∧ (Lit.int k v).wf = true
def FitsL : List Sh → List AVal → Prop
  | [], l => l = []
  | s :: ss, l => ∃ a b, l = a ++ b ∧ Fits s a ∧ FitsL ss b
end

section
variable {H : Type} {enc : TypeId × Value → H} {P : Program} {w : World} {spare : Nat → Bool} {held : Bool} {ρ : Nat → Option Nat}

theorem list_choose {α : Type} (R : Nat → α → Prop) : ∀ (n : Nat), (∀ i, i < n → ∃ x, R i x) → ∃ l : List α, l.length = n ∧ ∀ i (h : i < l.length), R i l[i]
  | 0, _ => ⟨[], rfl, fun i h => by simp at h⟩
  | n + 1, h => by
    obtain ⟨l, h1, h2⟩ := list_choose R n fun i hi => h i (by omega)
    obtain ⟨x, hx⟩ := h n (by omega)
    refine ⟨l ++ [x], by simp [h1], fun i hi => ?_⟩
    by_cases hin : i < l.length
    · rw [List.getElem_append_left hin]; exact h2 i hin
    · have : i = n := by simp [h1] at hi; omega
      subst this
      rw [List.getElem_append_right (by omega)]
      simpa [h1] using hx

theorem flatten_get {α : Type} {c : Nat} (hc : 0 < c) : ∀ (gs : List (List α)), (∀ g ∈ gs, g.length = c) → ∀ k, k < gs.length * c → ∃ g, gs[k / c]? = some g ∧ gs.flatten[k]? = g[k % c]?
  | [], _, k, h => by simp at h
  | g :: gs, hg, k, h => by
    have hgl : g.length = c := hg g (by simp)
    by_cases hk : k < c
    · refine ⟨g, by simp [Nat.div_eq_of_lt hk], ?_⟩
      rw [List.flatten_cons, List.getElem?_append_left (by omega), Nat.mod_eq_of_lt hk]
    · obtain ⟨g', h1, h2⟩ := flatten_get hc gs (fun x hx => hg x (by simp [hx])) (k - c) (by simp [Nat.add_mul] at h; omega)
      have e1 : k / c = (k - c) / c + 1 := by
        rw [← Nat.add_div_right _ hc]; congr 1; omega
      have e2 : k % c = (k - c) % c := by rw [Nat.mod_eq_sub_mod (by omega)]
      refine ⟨g', by rw [e1]; simpa using h1, ?_⟩
      rw [List.flatten_cons, List.getElem?_append_right (by omega), hgl, e2]
      exact h2

theorem flatten_length {α : Type} {c : Nat} : ∀ (gs : List (List α)), (∀ g ∈ gs, g.length = c) → gs.flatten.length = gs.length * c
  | [], _ => by simp
  | g :: gs, h => by
    rw [List.flatten_cons, List.length_append, flatten_length gs (fun x hx => h x (by simp [hx])), h g (by simp), List.length_cons, Nat.add_mul]; omega

theorem owned_nil {b : Nat} : ¬ (nm ρ [] w).Owned b := by
  rintro ⟨n, ha, _⟩; simp [nm, alive] at ha

def Opens (P : Program) (w : World) (ρ : Nat → Option Nat) (s : Sh) (cs : List Value) : Prop := ∃ l, Fits s l ∧ l.length = width s ∧ cs.length = width s ∧ VsRel (nm ρ [] w) l (fun i => cs[i]?)

theorem cells_get {w : World} {base : Nat} {a : Addr} {n : Nat} {cs : List Value} (h : w.cells? base a n = some cs) : cs.length = n ∧ ∀ j, j < n → w.cell? (a.add j) = cs[j]? := by
  unfold World.cells? at h
  split at h
  · have hl := mapM_some_length h
    refine ⟨by simpa using hl, fun j hj => ?_⟩
    exact mapM_some_get h j j (by simp [hj])
  · cases h

mutual
theorem opens : ∀ (s : Sh) {t : TypeId} {fuel : Nat} {cs : List Value} {x : DataW H × List MemPlace}, okSh P s t = true → DataW.trod enc P w 0 spare held fuel t cs = some x → Opens P w ρ s cs
  | .bool, t, fuel, cs, x, hs, h => by
    have ht : P.underlying t = some .bool := by
      unfold okSh at hs; split at hs
      · assumption
      · cases hs
    obtain ⟨b, rfl, _⟩ := DataW.trod_bool ht h
    exact ⟨[.bool b], ⟨b, rfl⟩, rfl, rfl, by simp [VsRel, VRel]⟩
  | .int k, t, fuel, cs, x, hs, h => by
    have ht : P.underlying t = some (.int k) := by
      unfold okSh at hs; split at hs
      · rename_i k' hk; simp at hs; subst hs; exact hk
      · cases hs
    obtain ⟨n, rfl, _, hw⟩ := DataW.trod_int ht h
    exact ⟨[.int k n], ⟨n, rfl, hw⟩, rfl, rfl, by simp [VsRel, VRel]⟩
  | .str, t, fuel, cs, x, hs, h => by
    have ht : P.underlying t = some .string := by
      unfold okSh at hs; split at hs
      · assumption
      · cases hs
    obtain ⟨s, rfl, _, hw⟩ := DataW.trod_string ht h
    exact ⟨[.str s], ⟨s, rfl, hw⟩, rfl, rfl, by simp [VsRel, VRel]⟩
  | .slice e, t, fuel, cs, x, hs, h => by
    unfold okSh at hs
    split at hs
    rotate_left
    · cases hs
    rename_i el ht
    simp only [Bool.and_eq_true, decide_eq_true_eq] at hs
    obtain ⟨⟨h1, h2⟩, h3⟩ := hs
    rcases DataW.trod_slice ht h with ⟨rfl, _⟩ | ⟨a, len, cap, elems, rest, n, _, rfl, _, _, hlc, hcm, hel, hget, _, _⟩
    · exact ⟨[.nils], .inl rfl, rfl, rfl, by simp [VsRel, VRel]⟩
    · rw [h2] at hget
      have hsub : ∀ i, i < len → ∃ g : List AVal, Fits e g ∧ g.length = width e ∧ ∃ ci : List Value, ci.length = width e ∧ VsRel (nm ρ [] w) g (fun j => ci[j]?) ∧ ∀ j, j < width e → w.cell? ((a.add (i * width e)).add j) = ci[j]? := by
        intro i hi
        have hg := hget i hi
        have : i < elems.length := by omega
        rw [List.getElem?_eq_getElem this] at hg
        cases hc : w.cells? 0 (a.add (i * width e)) (width e) with
        | none => rw [hc] at hg; cases hg
        | some ci =>
          rw [hc] at hg
          obtain ⟨g, g1, g2, g3, g4⟩ := opens e h1 hg
          obtain ⟨c1, c2⟩ := cells_get hc
          exact ⟨g, g1, g2, ci, g3, g4, c2⟩
      obtain ⟨gs, hgl, hgs⟩ := list_choose _ len hsub
      have hglen : ∀ g ∈ gs, g.length = width e := by
        intro g hg
        obtain ⟨i, hi, rfl⟩ := List.getElem_of_mem hg
        exact (hgs i hi).2.1
      refine ⟨[.imm gs.flatten gs.length false], .inr ⟨gs, false, fun g hg => ?_, rfl, by rw [hgl]; simp only [maxLen] at hcm; omega⟩, rfl, rfl, ?_⟩
      · obtain ⟨i, hi, rfl⟩ := List.getElem_of_mem hg
        exact (hgs i hi).1
      · simp only [VsRel, and_true]
        refine ⟨_, rfl, ?_⟩
        simp only [VRel]
        refine ⟨some a, cap, by rw [hgl], by omega, by simp, ?_⟩
        by_cases hz : len = 0
        · left
          have : gs = [] := List.length_eq_zero_iff.1 (by omega)
          subst this; simp
        · right
          obtain ⟨_, _, ci, c1, _, c3⟩ := hgs 0 (by omega)
          have h00 := c3 0 h3
          rw [List.getElem?_eq_getElem (by omega)] at h00
          have hsp : a.spot = none := by
            have := World.cell?_spot h00
            simpa [Addr.add] using this
          obtain ⟨b, o, sp⟩ := a
          simp only at hsp; subst hsp
          simp only [WideShapes.add_plain] at h00 hgs
          have hb : ∃ arr el' fz, w.heap[b]? = some (.cells arr el' fz) := by
            unfold World.cell? at h00
            split at h00
            · rename_i c' el' fz hh; exact ⟨_, _, _, hh⟩
            · cases h00
          obtain ⟨arr, el', fz, hb⟩ := hb
          refine ⟨b, o, rfl, owned_nil, arr, el', fz, hb, ?_⟩
          rw [vsRel_iff]
          intro k hk
          rw [flatten_length gs hglen] at hk
          obtain ⟨g, g1, g2⟩ := flatten_get h3 gs hglen k hk
          obtain ⟨hkl, hge⟩ := List.getElem?_eq_some_iff.1 g1
          obtain ⟨_, gl, ci, c1, c2, c3⟩ := hgs (k / width e) hkl
          rw [hge] at c2 gl
          have hmod : k % width e < width e := Nat.mod_lt _ h3
          obtain ⟨v, v1, v2⟩ := (vsRel_iff _ _ _).1 c2 (k % width e) (by omega)
          refine ⟨v, ?_, ?_⟩
          · have := c3 (k % width e) hmod
            rw [v1] at this
            simp only [World.cell?, hb] at this
            rw [← this]
            simp only [Option.isSome_none, Bool.false_eq_true, if_false]
            congr 1
            have := Nat.div_add_mod k (width e)
            rw [Nat.mul_comm] at this
            omega
          · have hfk : gs.flatten[k]? = some g[k % width e] := by rw [g2, List.getElem?_eq_getElem (by omega)]
            obtain ⟨hlt, he⟩ := List.getElem?_eq_some_iff.1 hfk
            rw [he]; exact v2
  | .struct ss, t, fuel, cs, x, hs, h => by
    unfold okSh at hs
    split at hs
    rotate_left
    · cases hs
    rename_i fs ht
    simp only [Bool.and_eq_true, decide_eq_true_eq] at hs
    obtain ⟨xs, n, _, _, hcl, hxl, hget⟩ := DataW.trod_struct ht h
    have := openss ss (fs := fs.toList) (off := 0) (n := n) (cs := cs) (xs := xs) hs.1 (by omega) (by simpa using hxl) (fun i f hf => by
      exact hget i f (by simpa using hf))
    obtain ⟨l, l1, l2, l3⟩ := this
    exact ⟨l, l1, by simpa [width] using l2, by simp [width]; omega, by simpa using l3⟩
  | .arr n k, t, fuel, cs, x, hs, h => by
    unfold okSh at hs
    split at hs
    rotate_left
    · cases hs
    rename_i n' e ht
    simp only [Bool.and_eq_true, decide_eq_true_eq] at hs
    obtain ⟨⟨⟨rfl, h2⟩, h3⟩, h4⟩ := hs
    have he : P.underlying e = some (.int k) := by
      split at h2
      · rename_i k' hk; simp at h2; subst h2; exact hk
      · cases h2
    obtain ⟨xs, m, _, _, hcl, hxl, hget⟩ := DataW.trod_array ht h
    rw [h3] at hget
    obtain ⟨l, l1, l2⟩ := list_choose (fun i (a : AVal) => ∃ v, a = .int k v ∧ cs[i]? = some (.int k v) ∧ (Lit.int k v).wf = true) n (fun i hi => by
      have hg := hget i hi
      rw [List.getElem?_eq_getElem (by omega), Nat.mul_one, List.drop_eq_getElem_cons (by omega : i < cs.length)] at hg
      obtain ⟨v, hv, _, hw⟩ := DataW.trod_int he hg
      simp only [List.take_succ_cons, List.take_zero, List.cons.injEq, and_true] at hv
      exact ⟨.int k v, v, rfl, by rw [List.getElem?_eq_getElem (by omega), hv], hw⟩)
    refine ⟨l, ⟨l1, fun i hi => ?_⟩, by simpa [width] using l1, by simp [width]; omega, ?_⟩
    · obtain ⟨v, q1, q2, q3⟩ := l2 i (by omega)
      exact ⟨v, by rw [List.getElem?_eq_getElem (by omega), q1], q3⟩
    · rw [vsRel_iff]
      intro i hi
      obtain ⟨v, q1, q2, q3⟩ := l2 i hi
      exact ⟨_, q2, by rw [q1]; simp [VRel]⟩
theorem openss : ∀ (ss : List Sh) {fs : List Field} {off n : Nat} {cs : List Value} {xs : List (DataW H × List MemPlace)}, okShs P ss fs off = true → cs.length = off + widths ss → xs.length = fs.length →
    (∀ (i : Nat) (f : Field), fs[i]? = some f → DataW.trod enc P w 0 spare held n f.type ((cs.drop f.offset).take (P.cellsOf f.type)) = xs[i]?) →
    ∃ l, FitsL ss l ∧ l.length = widths ss ∧ VsRel (nm ρ [] w) l (fun i => cs[off + i]?)
  | [], fs, off, n, cs, xs, hs, hc, hx, h => ⟨[], rfl, rfl, by simp [VsRel]⟩
  | s :: ss, [], off, n, cs, xs, hs, hc, hx, h => by simp [okShs] at hs
  | s :: ss, f :: fs, off, n, cs, xs, hs, hc, hx, h => by
    simp only [okShs, Bool.and_eq_true, decide_eq_true_eq] at hs
    obtain ⟨⟨⟨h1, h2⟩, h3⟩, h4⟩ := hs
    cases xs with
    | nil => simp at hx
    | cons x xs =>
      have h0 := h 0 f (by simp)
      simp only [List.getElem?_cons_zero] at h0
      obtain ⟨l, l1, l2, l3, l4⟩ := opens s h2 h0
      simp only [widths] at hc
      obtain ⟨l', m1, m2, m3⟩ := openss ss (off := off + width s) (n := n) (cs := cs) (xs := xs) h4 (by omega) (by simpa using hx) (fun i f' hf => by
        have := h (i + 1) f' (by simpa using hf)
        simpa using this)
      refine ⟨l ++ l', ⟨l, l', rfl, l1, m1⟩, by simp [widths, l2, m2], ?_⟩
      rw [vsRel_iff]
      intro i hi
      by_cases hil : i < l.length
      · obtain ⟨v, v1, v2⟩ := (vsRel_iff _ _ _).1 l4 i hil
        refine ⟨v, ?_, by rw [List.getElem_append_left hil]; exact v2⟩
        rw [h1, h3, List.getElem?_take, if_pos (by omega), List.getElem?_drop] at v1
        exact v1
      · obtain ⟨v, v1, v2⟩ := (vsRel_iff _ _ _).1 m3 (i - l.length) (by simp at hi; omega)
        refine ⟨v, ?_, by rw [List.getElem_append_right (by omega)]; exact v2⟩
        rw [← v1]; congr 1; omega
end

end
end Go.Am

namespace Go.Am
open Go Go.ChangeShapes Go.WideShapes Go.RowKit
set_option linter.unusedVariables false

def FitsA : Sh → AVal → Prop
  | .struct ss, a => ∃ l, a = .agg l ∧ FitsL ss l
  | .arr n k, a => ∃ l, a = .agg l ∧ Fits (.arr n k) l
  | s, a => Fits s [a]

def FitsAs : List Sh → List AVal → Prop
  | [], as => as = []
  | s :: ss, as => ∃ a r, as = a :: r ∧ FitsA s a ∧ FitsAs ss r

def okAll (P : Program) : List Sh → List TypeId → Bool
  | [], [] => true
  | s :: ss, t :: ts => okSh P s t && okAll P ss ts
  | _, _ => false

theorem wf_nat {k : IntKind} (hs : k.signed = false) {n : Int} (h : (Lit.int k n).wf = true) : 0 ≤ n := by
  simp only [Lit.wf, Bool.and_eq_true, decide_eq_true_eq] at h
  have : k.min = 0 := by cases k <;> simp_all [IntKind.min, IntKind.signed]
  omega

theorem nats_of_fits {k : IntKind} (hs : k.signed = false) {H : AHeap} {a : AVal} (h : FitsA (.slice (.int k)) a) : ∃ bs : List Nat, Nats k H a bs ∧ (∀ b ∈ bs, (Lit.int k (b : Int)).wf = true) ∧ bs.length ≤ 9223372036854775807 := by
  rcases h with h | ⟨gs, tight, hg, h, hl⟩
  · cases h
    exact ⟨[], nats_nil k H, by simp, by simp⟩
  · cases h
    have key : ∀ gs : List (List AVal), (∀ g ∈ gs, Fits (.int k) g) → ∃ bs : List Nat, gs.flatten = bs.map (fun n : Nat => AVal.int k (n : Int)) ∧ bs.length = gs.length ∧ ∀ b ∈ bs, (Lit.int k (b : Int)).wf = true := by
      intro gs
      induction gs with
      | nil => intro _; exact ⟨[], rfl, rfl, by simp⟩
      | cons g gs ih =>
        intro hg
        obtain ⟨n, rfl, hn⟩ := hg g (by simp)
        obtain ⟨bs, h1, h2, h3⟩ := ih fun x hx => hg x (by simp [hx])
        obtain ⟨m, rfl⟩ : ∃ m : Nat, n = m := ⟨n.toNat, by have := wf_nat hs hn; omega⟩
        refine ⟨m :: bs, by simp [h1], by simp [h2], ?_⟩
        intro b hb
        rcases List.mem_cons.1 hb with rfl | hb
        · exact hn
        · exact h3 b hb
    obtain ⟨bs, h1, h2, h3⟩ := key gs hg
    exact ⟨bs, ⟨by simp [slen, h2], by simp [view, h1], fun _ _ _ _ hh => by cases hh⟩, h3, by omega⟩

section
variable {H : Type} {enc : TypeId × Value → H} {P : Program} {w : World} {ρ : Nat → Option Nat} {base : Nat} {sp : Nat → Bool} {held : Bool}

theorem single_cells {l : List AVal} {cs : List Value} {a : AVal} (h : VsRel (nm ρ [] w) l (fun i => cs[i]?)) (hl : l = [a]) {v : Value} (hc : cs = [v]) : VRel (nm ρ [] w) a v := by
  subst hl; subst hc
  simp only [VsRel, and_true] at h
  obtain ⟨v', h1, h2⟩ := h
  simp at h1; subst h1; exact h2

theorem open_arg {s : Sh} {t : TypeId} {v : Value} {d : DataW H} {ps : List MemPlace} (hs : okSh P s t = true) (hval : Value.okWide P w .any base t v) (h : DataW.Trod enc P w 0 sp held t v d ps) :
    ∃ a, FitsA s a ∧ VRel (nm ρ [] w) a v := by
  obtain ⟨fuel, hf⟩ := h
  obtain ⟨l, l1, l2, l3, l4⟩ := opens (ρ := ρ) s hs hf
  have hagg : (∃ ss, s = .struct ss) ∨ (∃ n k, s = .arr n k) ∨ (∀ cs, v ≠ .agg cs) := by
    cases s with
    | arr n k => exact .inr (.inl ⟨n, k, rfl⟩)
    | struct ss => exact .inl ⟨ss, rfl⟩
    | bool =>
      right; right; intro cs hv; subst hv
      unfold okSh at hs; split at hs
      · rename_i ht; simp [Value.okWide, ht, Cell.okWide, Cell.ok] at hval
      · cases hs
    | int k =>
      right; right; intro cs hv; subst hv
      unfold okSh at hs; split at hs
      · rename_i ht; simp [Value.okWide, ht, Cell.okWide, Cell.ok] at hval
      · cases hs
    | str =>
      right; right; intro cs hv; subst hv
      unfold okSh at hs; split at hs
      · rename_i ht; simp [Value.okWide, ht, Cell.okWide, Cell.ok] at hval
      · cases hs
    | slice e =>
      right; right; intro cs hv; subst hv
      unfold okSh at hs; split at hs
      · rename_i ht; simp [Value.okWide, ht, Cell.okWide, Cell.ok] at hval
      · cases hs
  rcases hagg with ⟨ss, rfl⟩ | ⟨n, k, rfl⟩ | hna
  · unfold okSh at hs
    split at hs
    rotate_left
    · cases hs
    rename_i fs ht
    simp only [Value.okWide, ht] at hval
    obtain ⟨cs, rfl, _, _⟩ := hval
    refine ⟨.agg l, ⟨l, rfl, l1⟩, ?_⟩
    simp only [VRel]
    refine ⟨cs, rfl, ?_, l4.congr fun i _ => by simp [Value.cells]⟩
    simp only [Value.cells, Array.length_toList] at l3
    omega
  · unfold okSh at hs
    split at hs
    rotate_left
    · cases hs
    rename_i n' e ht
    simp only [Value.okWide, ht] at hval
    obtain ⟨cs, rfl, _, _⟩ := hval
    refine ⟨.agg l, ⟨l, rfl, l1⟩, ?_⟩
    simp only [VRel]
    refine ⟨cs, rfl, ?_, l4.congr fun i _ => by simp [Value.cells]⟩
    simp only [Value.cells, Array.length_toList] at l3
    omega
  · have hc : v.cells.toList = [v] := by cases v <;> first | rfl | exact absurd rfl (hna _)
    rw [hc] at l3 l4
    have hw : width s = 1 := by simpa using l3.symm
    rw [hw] at l2
    obtain ⟨a, rfl⟩ := List.length_eq_one_iff.1 l2
    refine ⟨a, ?_, single_cells l4 rfl rfl⟩
    cases s with
    | struct ss =>
      exfalso
      unfold okSh at hs
      split at hs
      · rename_i fs ht
        simp only [Value.okWide, ht] at hval
        obtain ⟨cs, hv, _⟩ := hval
        exact hna cs hv
      · cases hs
    | arr n k =>
      exfalso
      unfold okSh at hs
      split at hs
      · rename_i n' e ht
        simp only [Value.okWide, ht] at hval
        obtain ⟨cs, hv, _⟩ := hval
        exact hna cs hv
      · cases hs
    | _ => exact l1

theorem open_args : ∀ {ss : List Sh} {ts : List TypeId} {vs : List Value} {ds : List (DataW H)} {ps : List MemPlace}, okAll P ss ts = true → (∀ (j : Nat) t v, ts[j]? = some t → vs[j]? = some v → Value.okWide P w .any base t v) →
    DataW.TrodAll enc P w 0 sp held ts vs ds ps → ∃ as, FitsAs ss as ∧ as.length = vs.length ∧ VsRel (nm ρ [] w) as (fun i => vs[i]?)
  | [], [], vs, ds, ps, _, _, h => by
    cases vs with
    | nil => exact ⟨[], rfl, rfl, by simp [VsRel]⟩
    | cons v vs => cases ds <;> exact h.elim
  | s :: ss, [], vs, ds, ps, hs, _, h => by simp [okAll] at hs
  | [], t :: ts, vs, ds, ps, hs, _, h => by simp [okAll] at hs
  | s :: ss, t :: ts, vs, ds, ps, hs, hval, h => by
    cases vs with
    | nil => cases ds <;> exact h.elim
    | cons v vs =>
      cases ds with
      | nil => exact h.elim
      | cons d ds =>
        obtain ⟨p, q, h1, h2, _⟩ := h
        simp only [okAll, Bool.and_eq_true] at hs
        obtain ⟨a, a1, a2⟩ := open_arg (ρ := ρ) hs.1 (hval 0 t v rfl rfl) h1
        obtain ⟨as, b1, b2, b3⟩ := open_args hs.2 (fun j t' v' ht hv => hval (j + 1) t' v' (by simpa using ht) (by simpa using hv)) h2
        exact ⟨a :: as, ⟨a, as, rfl, a1, b1⟩, by simp [b2], by
          simp only [VsRel]
          exact ⟨⟨v, rfl, a2⟩, b3.congr fun i _ => by simp⟩⟩

/-- The arguments read as they did. -/
theorem trodAll_stays {W W' : World} (hl : laidOutB P = true) : ∀ {ts : List TypeId} {vs : List Value} {ds : List (DataW H)} {ps : List MemPlace}, (∀ t ∈ ts, P.readableRec t = true ∧ t < P.types.size) → DataW.TrodAll enc P W 0 (fun _ => true) true ts vs ds ps →
    Below W.heap.size W W' → (∀ x ∈ ps, x.block < W.heap.size) → (∀ p ∈ ps, sp p.block = true) → DataW.TrodAll enc P W' 0 sp true ts vs ds ps
  | [], vs, ds, ps, _, h, _, _, _ => by
    cases vs <;> cases ds <;> first | exact h | exact h.elim
  | t :: ts, [], ds, ps, _, h, _, _, _ => by cases ds <;> exact h.elim
  | t :: ts, v :: vs, [], ps, _, h, _, _, _ => h.elim
  | t :: ts, v :: vs, d :: ds, ps, ht, h, hb, hlt, hs => by
    obtain ⟨p, q, h1, h2, rfl⟩ := h
    obtain ⟨r1, r2⟩ := ht t (by simp)
    exact ⟨p, q, WideElems.Trod_stays hl r1 r2 h1 (fun x hx => hb.same (hlt x (by simp [hx]))) (fun x hx => hs x (by simp [hx])),
      trodAll_stays hl (fun t' h' => ht t' (by simp [h'])) h2 hb (fun x hx => hlt x (by simp [hx])) (fun x hx => hs x (by simp [hx])), rfl⟩

/-- A row's post, of a call that turns nothing that was there. -/
theorem post_kept {f : Func} {s : ChangeSpec} {apart fresh handsOn again : Bool} {W W' : World} {args : Array Value} {v : Value} {ds gs : List (DataW H)} {before pa pv : List MemPlace}
    (hW : DataW.Whole enc P f.params.toList s.vars apart W args.toList ds gs before)
    (hres : ∀ (b : Nat) (sp : Nat → Bool) (hd : Bool), DataW.TrodAll enc P W' b sp hd f.resultTypes.toList (v.resultList f.resultTypes.size) (s.fn H (ds ++ gs)).results [])
    (hargs : ∀ sp : Nat → Bool, (∀ p ∈ before, sp p.block = true) → DataW.TrodAll enc P W' 0 sp true f.params.toList args.toList (s.fn H (ds ++ gs)).args pa)
    (hvars : ∀ sp : Nat → Bool, (∀ p ∈ before, sp p.block = true) → DataW.TrodVars enc P W' sp s.vars (s.fn H (ds ++ gs)).vars pv)
    (hps : before = pa ++ pv) (hb : Below W.heap.size W W')
    (hok : ∀ (j : Nat) (t : TypeId) (r : Value), f.resultTypes[j]? = some t → (v.resultList f.resultTypes.size)[j]? = some r → Value.okWide P W' .any 0 t r) :
    s.post enc P f apart fresh handsOn again W args v W' := by
  have hold : ∀ p ∈ before, (fun b => decide (b < W.heap.size)) p.block = true := fun p hp => by simpa using hW.lt p hp
  have hlt := hW.lt
  refine ⟨ds, gs, before, [], pa, pv, hW, hres _ _ _, hargs _ hold, hvars _ hold, World.keptBut_mono (fun p hp => ⟨hp, ?_⟩) (hb.frame (· ∈ before)), fun _ => ?_⟩
  · rw [hps, List.mem_append] at hp
    exact Or.inr hp
  · obtain ⟨_, _, _, _, _, hz, hn⟩ := hW
    refine ⟨hok, _, _, ([] ++ pa) ++ pv, ⟨[] ++ pa, pv, trodAll_append (hargs _ (fun _ _ => rfl)) (hres _ _ _), hvars _ (fun _ _ => rfl), rfl, ?_, ?_⟩, ?_⟩
    · intro b off hp
      have hp' : MemPlace.cell b off ∈ before := by rw [hps]; simpa using hp
      have := hlt _ hp'
      rw [hb.frozen (p := ⟨b, off, none⟩) this]
      exact hz b off hp'
    · intro ha
      have := hn ha
      rw [hps] at this
      simpa using this
    · intro p hp _
      rw [hps]
      simpa using hp

/-- A statement's call: it returns true, and turns nothing. -/
theorem law_calls {f : FuncId} {fn : Func} {s : ChangeSpec} {shs : List Sh} {tb : TypeId} {apart fresh handsOn again : Bool} (hl : laidOutB P = true) (hsh : okAll P shs fn.params.toList = true) (hts : ∀ t ∈ fn.params.toList, P.readableRec t = true ∧ t < P.types.size)
    (hres : fn.resultTypes = #[tb]) (htb : P.underlying tb = some .bool) (hv : s.vars = [])
    (hsp : ∀ (H : Type) (ds : List (DataW H)), ds.length = fn.params.toList.length → (s.fn H ds).results = [.lit (.bool true)] ∧ (s.fn H ds).args = ds ∧ (s.fn H ds).vars = [])
    (h : ∀ as, FitsAs shs as → FunOK P f as [] fun av _ => av = .bool true)
    {W : World} {args : Array Value} {ds gs : List (DataW H)} {before : List MemPlace}
    (hval : ∀ (j : Nat) t v, fn.params[j]? = some t → args[j]? = some v → Value.okWide P W .any base t v) (hW : DataW.Whole enc P fn.params.toList s.vars apart W args.toList ds gs before) :
    Calls P f args W fun e W' => ∃ v, e = .returned v ∧ s.post enc P fn apart fresh handsOn again W args v W' := by
  have hW0 := hW
  have hlt := hW.lt
  obtain ⟨p, q, hA, hV, hpq, hfz, hnd⟩ := hW
  rw [hv] at hV
  obtain ⟨rfl, rfl⟩ : gs = [] ∧ q = [] := by
    cases gs with
    | nil => exact ⟨rfl, hV⟩
    | cons g gs => exact hV.elim
  simp only [List.append_nil] at hpq
  subst hpq
  obtain ⟨as, a1, a2, a3⟩ := open_args (ρ := fun _ => none) hsh (fun j t v ht hv => hval j t v (by simpa using ht) (by simpa using hv)) hA
  have hlen : ds.length = fn.params.toList.length := by
    have : ∀ {ts : List TypeId} {vs : List Value} {ds : List (DataW H)} {ps : List MemPlace}, DataW.TrodAll enc P W 0 (fun _ => true) true ts vs ds ps → ds.length = ts.length := by
      intro ts
      induction ts with
      | nil => intro vs ds ps h; cases vs <;> cases ds <;> first | rfl | exact h.elim
      | cons t ts ih =>
        intro vs ds ps h
        cases vs <;> cases ds <;> first | exact h.elim | skip
        obtain ⟨_, _, _, h2, _⟩ := h
        simp [ih h2]
    exact this hA
  obtain ⟨s1, s2, s3⟩ := hsp H ds hlen
  refine (calls_of (h as a1) (ρ := fun _ => none) (vs := args) (w := W) (by simpa using a2.symm) (a3.congr fun i _ => by simp)).mono ?_
  rintro e W' ⟨av, H', ρ', v, rfl, rfl, hv', _, hb⟩
  have hv'' : v = .bool true := by simpa [VRel] using hv'
  subst hv''
  refine ⟨_, rfl, post_kept (pa := before) (pv := []) hW0 ?_ ?_ ?_ (by simp) hb ?_⟩
  · intro b sp' hd
    rw [hres, List.append_nil, s1]
    exact ⟨[], [], ⟨1, by simp [DataW.trod, Value.cells, htb]⟩, rfl, rfl⟩
  · intro sp' hs'
    rw [List.append_nil, s2]
    exact trodAll_stays hl hts hA hb hlt hs'
  · intro sp' hs'
    rw [List.append_nil, hv, s3]; rfl
  · exact ok_one hres rfl (by simp [Value.okWide, htb, Cell.okWide, Cell.ok])

end
end Go.Am

namespace Go.Am
open Go
set_option linter.unusedVariables false

/-- The block that a slice lies in. -/
def AVal.names : AVal → List Nat
  | .slc n _ _ _ => [n]
  | _ => []

theorem Nats.moved {k : IntKind} {H H' : AHeap} {a : AVal} {xs : List Nat} (h : Nats k H a xs) (hn : ∀ m ∈ a.names, H'[m]? = H[m]?) : Nats k H' a xs := by
  refine ⟨h.len, ?_, h.one⟩
  have hv := h.view
  cases a <;> simp only [Am.view] at hv ⊢ <;> first | exact hv | skip
  rename_i n o l z
  rw [hn n (by simp [AVal.names])]; exact hv

theorem Nats.names_lt {k : IntKind} {H : AHeap} {a : AVal} {xs : List Nat} (h : Nats k H a xs) : ∀ m ∈ a.names, m < H.length := by
  have hv := h.view
  cases a <;> intro m hm <;> simp only [AVal.names, List.mem_singleton, List.not_mem_nil] at hm
  subst hm
  simp only [Am.view] at hv
  refine Nat.lt_of_not_le fun hle => ?_
  rw [List.getElem?_eq_none hle] at hv
  simp [content] at hv

theorem Nats.cell {k : IntKind} {H : AHeap} {a : AVal} {xs : List Nat} (h : Nats k H a xs) : a.cells = [a] ∧ a.cellish = true := by
  have := h.len
  cases a <;> simp only [slen] at this <;> first | (cases this; done) | exact ⟨rfl, rfl⟩

/-! ### Ranges over functions -/

/-- What lies at the names of fp is all that I speaks of. -/
structure Foot (I : List Nat → AHeap → Prop) : Prop where
  lt : ∀ fp H, I fp H → ∀ m ∈ fp, m < H.length
  stable : ∀ fp H H', I fp H → H.length ≤ H'.length → (∀ m ∈ fp, H'[m]? = H[m]?) → I fp H'

/-- What a step may touch: the names of fp; and new ones. -/
structure Touches (fp : List Nat) (H : AHeap) (fp' : List Nat) (H' : AHeap) : Prop where
  le : H.length ≤ H'.length
  feet : ∀ m ∈ fp', m ∈ fp ∨ H.length ≤ m
  kept : ∀ m, m < H.length → m ∉ fp → H'[m]? = H[m]?

theorem Touches.refl (fp : List Nat) (H : AHeap) : Touches fp H fp H := ⟨Nat.le_refl _, fun _ h => .inl h, fun _ _ _ => rfl⟩

theorem Touches.trans {fp fp1 fp2 : List Nat} {H H1 H2 : AHeap} (h : Touches fp H fp1 H1) (h' : Touches fp1 H1 fp2 H2) : Touches fp H fp2 H2 where
  le := Nat.le_trans h.le h'.le
  feet m hm := by
    rcases h'.feet m hm with h1 | h1
    · exact h.feet m h1
    · exact .inr (Nat.le_trans h.le h1)
  kept m hm hf := by
    rw [h'.kept m (Nat.lt_of_lt_of_le hm h.le), h.kept m hm hf]
    intro h1
    rcases h.feet m h1 with h2 | h2
    · exact hf h2
    · omega

theorem Touches.push (H : AHeap) (b : ABlk) : Touches [] H [] (H ++ [b]) := ⟨by simp, by simp, fun m hm _ => List.getElem?_append_left hm⟩

theorem Mine.lt {k : IntKind} {el : TypeId} {B : Nat} {H : AHeap} {a : AVal} {xs : List Nat} (h : Mine k el B H a xs) : ∀ m ∈ a.names, B ≤ m ∧ m < H.length := by
  rcases h.is with ⟨rfl, _⟩ | ⟨n, hb, rfl, hn⟩
  · intro m hm; cases hm
  · intro m hm
    simp [AVal.names] at hm
    subst hm
    exact ⟨hb, (List.getElem?_eq_some_iff.1 hn).1⟩

theorem Mine.moved {k : IntKind} {el : TypeId} {B : Nat} {H H' : AHeap} {a : AVal} {xs : List Nat} (h : Mine k el B H a xs) (hn : ∀ m ∈ a.names, H'[m]? = H[m]?) : Mine k el B H' a xs := by
  rcases h.is with h | ⟨n, hb, rfl, hh⟩
  · exact ⟨.inl h⟩
  · exact ⟨.inr ⟨n, hb, rfl, (hn n (by simp [AVal.names])).trans hh⟩⟩

theorem Keeps.touch {H H' H'' : AHeap} {fp fp' : List Nat} (h : Keeps H H') (ht : Touches fp H' fp' H'') (hf : ∀ m ∈ fp, H.length ≤ m) : Keeps H H'' :=
  ⟨Nat.le_trans h.le ht.le, fun n hn => (ht.kept n (Nat.lt_of_lt_of_le hn h.le) fun hm => by have := hf n hm; omega).trans (h.at_ n hn)⟩

/-- What appending comes to; all other blocks stay. -/
theorem Mine.append2 {k : IntKind} {el : TypeId} {B : Nat} {H : AHeap} {a x : AVal} {xs ys : List Nat} (h : Mine k el B H a xs) (hx : Nats k H x ys) (bytes : Nat) (hB : B ≤ H.length) (hl : (xs.length + ys.length) * bytes ≤ 140737488355328) (hl2 : xs.length + ys.length ≤ 140737488355328)
    (hs : ∀ s, x ≠ .str s) : ∃ v H' p, appendA H el 1 bytes a x = some (p, v, H') ∧ p ∧ Mine k el B H' v (xs ++ ys) ∧ Touches a.names H v.names H' ∧ (∀ m ∈ v.names, H.length ≤ m) := by
  have h1 : srcLen x = some ys.length := by
    have := hx.len
    cases x <;> first | (simp [slen] at this; done) | exact this
  have h2 : srcCells H x = some (ys.map fun n : Nat => AVal.int k (n : Int)) := by
    have := hx.view
    cases x <;> first | (simp [Am.view] at this; done) | exact this
  rcases h.is with ⟨rfl, rfl⟩ | ⟨n, hn, rfl, hb⟩
  · refine ⟨_, _, _, by simp only [appendA, h1, h2]; rfl, ?_, ⟨.inr ⟨H.length, hB, by simp, by simp⟩⟩, ?_, ?_⟩
    · simp at hl hl2
      refine ⟨by simp, by omega, hl, by omega⟩
    · exact ⟨by simp, fun m hm => by simp [AVal.names] at hm; exact .inr (by omega), fun m hm _ => List.getElem?_append_left hm⟩
    · intro m hm; simp [AVal.names] at hm; omega
  · have hnl : n < H.length := (List.getElem?_eq_some_iff.1 hb).1
    refine ⟨_, _, _, by simp only [appendA, h1, h2, hb]; rfl, ?_, ⟨.inr ⟨(H.set n .dead).length, by simp; exact hB, by simp, by simp⟩⟩, ?_, ?_⟩
    · refine ⟨by simp, by omega, hl, by omega, by trivial, by trivial, by trivial, by trivial, by simp, ?_⟩
      simp [AVal.cellish]
    · refine ⟨by simp, fun m hm => by simp [AVal.names] at hm; exact .inr (by omega), fun m hm hf => ?_⟩
      rw [List.getElem?_append_left (by simpa using hm), List.getElem?_set_ne]
      simp [AVal.names] at hf; omega
    · intro m hm; simp [AVal.names] at hm; omega

/-- What a loop's body does with the j-th of the items. -/
structure Fed (P : Program) (n : Nat) (item : Nat → List AVal) (len : Nat) (I : Bool → Nat → List Nat → AHeap → Prop) : Prop where
  foot : ∀ b j, Foot (I b j)
  step : ∀ j fp H, j < len → I true j fp H → CallV P (.yld n) (item j) H fun av H' => ∃ fp', Touches fp H fp' H' ∧ ((av = .bool true ∧ I true (j + 1) fp' H') ∨ (av = .bool false ∧ I false (j + 1) fp' H'))

/-- What a function that yields items comes to. -/
def Iter (P : Program) (g : FuncId) (args : List AVal) (n : Nat) (item : Nat → List AVal) (len : Nat) (own : List Nat) (H : AHeap) : Prop :=
  ∀ I, Fed P n item len I → ∀ fp, I true 0 fp H → (∀ m ∈ own, m ∉ fp) → FunOK P g args H fun av H' => ∃ b j fp', H.length ≤ H'.length ∧ (∀ m, m < H.length → m ∉ fp → H'[m]? = H[m]?) ∧ (b = true → j = len) ∧ I b j fp' H'

def lrec (c : Ctx) (r : Regs) (ps : List Nat) (as' bd' : Code) (st : LoopState) (ap : Option AJump) : ALoop := ⟨st, ap, c.fn, c.nt, r, ps, as', bd'⟩

section
variable {P : Program} {c : Ctx} {k : List AItem} {r : Regs} {H : AHeap} {Q : AVal → AHeap → Prop}

/-- How a round ends. -/
def RoundQ (c : Ctx) (r : Regs) (ps : List Nat) (as' bd' : Code) (n : Nat) (J : Nat → List Nat → AHeap → Prop) (S : AJump → Nat → List Nat → AHeap → Prop) (j : Nat) (fp : List Nat) (H1 : AHeap) (av : AVal) (H' : AHeap) : Prop :=
  ∃ fp', Touches (n :: fp) H1 (n :: fp') H' ∧ n ∉ fp' ∧
    ((av = .bool true ∧ H'[n]? = some (.loop (lrec c r ps as' bd' .ready none)) ∧ J (j + 1) fp' H') ∨
      (∃ ap, av = .bool false ∧ H'[n]? = some (.loop (lrec c r ps as' bd' .done (some ap))) ∧ S ap (j + 1) fp' H'))

theorem range_of {f : AOpd} {ps : List Nat} {as bd : ACode} {g : FuncId} {first captured : List AVal} (hf : geto r f = .fn g first captured) (hrd : ∀ n, c.rd = some n → ∃ L, H[n]? = some (.loop L))
    {item : Nat → List AVal} {len : Nat} (hitem : ∀ j, (item j).length = ps.length) (J : Nat → List Nat → AHeap → Prop) (S : AJump → Nat → List Nat → AHeap → Prop) (hJ : ∀ j, Foot (J j)) (hS : ∀ ap j, Foot (S ap j)) {fp0 : List Nat} (h0 : J 0 fp0 H)
    (hbody : ∀ as' bd' j fp H1, j < len → H.length ∉ fp → H.length < H1.length → H1[H.length]? = some (.loop (lrec c r ps as' bd' .ready none)) → J j fp H1 →
      Run P ⟨c.fn, c.nt, [], some H.length⟩ [.code as, .begin, .code bd] ((ps.zip (item j)).reverse ++ r) H1 (RoundQ c r ps as' bd' H.length J S j fp H1))
    (own : List Nat) (hown : ∀ m ∈ own, m < H.length ∧ m ∉ fp0)
    (hiter : ∀ H1, H1.length = H.length + 1 → (∀ m, m < H.length → H1[m]? = H[m]?) → Iter P g (first ++ [.yld H.length] ++ captured) H.length item len own H1)
    (hend : ∀ fp H', H.length < H'.length → (∀ m, m < H.length → m ∉ fp0 → H'[m]? = H[m]?) → J len fp H' → Run P c k r H' Q)
    (hstop : ∀ ap j fp H', H.length < H'.length → (∀ m, m < H.length → m ∉ fp0 → H'[m]? = H[m]?) → S ap j fp H' → Run P c (jumpItems (some ap) ++ k) r H' Q) :
    Run P c (.code (.range f ps as bd) :: k) r H Q := by
  refine run_range hf hrd fun as' bd' hc1 hc2 hps => ?_
  have hn0 : H.length ∉ fp0 := fun h => Nat.lt_irrefl _ ((hJ 0).lt _ _ h0 _ h)
  -- what the iterating function knows
  let I : Bool → Nat → List Nat → AHeap → Prop := fun b j fp H' => ∃ fp1, fp = H.length :: fp1 ∧ H.length ∉ fp1 ∧ H.length < H'.length ∧
    ((b = true ∧ H'[H.length]? = some (.loop (lrec c r ps as' bd' .ready none)) ∧ J j fp1 H') ∨ (b = false ∧ ∃ ap, H'[H.length]? = some (.loop (lrec c r ps as' bd' .done (some ap))) ∧ S ap j fp1 H'))
  have hI : Fed P H.length item len I := {
    foot := fun b j => {
      lt := by
        rintro fp H' ⟨fp1, rfl, h1, h2, h3⟩ m hm
        rcases List.mem_cons.1 hm with rfl | hm
        · exact h2
        · rcases h3 with ⟨_, _, h3⟩ | ⟨_, ap, _, h3⟩
          · exact (hJ _).lt _ _ h3 m hm
          · exact (hS _ _).lt _ _ h3 m hm
      stable := by
        rintro fp H' H2 ⟨fp1, rfl, h1, h2, h3⟩ hle hk
        refine ⟨fp1, rfl, h1, Nat.lt_of_lt_of_le h2 hle, ?_⟩
        have hk0 := hk H.length (by simp)
        have hk1 : ∀ m ∈ fp1, H2[m]? = H'[m]? := fun m hm => hk m (by simp [hm])
        rcases h3 with ⟨hb, h4, h3⟩ | ⟨hb, ap, h4, h3⟩
        · exact .inl ⟨hb, hk0.trans h4, (hJ _).stable _ _ _ h3 hle hk1⟩
        · exact .inr ⟨hb, ap, hk0.trans h4, (hS _ _).stable _ _ _ h3 hle hk1⟩ }
    step := by
      rintro j fp H1 hj ⟨fp1, rfl, h1, h2, h3⟩
      rcases h3 with ⟨_, h4, h3⟩ | ⟨hb, _⟩
      rotate_left
      · cases hb
      refine ⟨_, h4, rfl, hitem j, as, bd, hc1, hc2, hps, ?_⟩
      refine (hbody as' bd' j fp1 H1 hj h1 h2 h4 h3).mono ?_
      rintro av H' ⟨fp', ht, hn', h⟩
      refine ⟨H.length :: fp', ht, ?_⟩
      have hlt : H.length < H'.length := Nat.lt_of_lt_of_le h2 ht.le
      rcases h with ⟨rfl, q1, q2⟩ | ⟨ap, rfl, q1, q2⟩
      · exact .inl ⟨rfl, fp', rfl, hn', hlt, .inl ⟨rfl, q1, q2⟩⟩
      · exact .inr ⟨rfl, fp', rfl, hn', hlt, .inr ⟨rfl, ap, q1, q2⟩⟩ }
  have hpush : ∀ m, m < H.length → (H ++ [ABlk.loop ⟨.ready, none, c.fn, c.nt, r, ps, as', bd'⟩])[m]? = H[m]? := fun m hm => List.getElem?_append_left hm
  have hI0 : I true 0 (H.length :: fp0) (H ++ [ABlk.loop ⟨.ready, none, c.fn, c.nt, r, ps, as', bd'⟩]) :=
    ⟨fp0, rfl, hn0, by simp, .inl ⟨rfl, by simp [lrec], (hJ 0).stable _ _ _ h0 (by simp) fun m hm => hpush m ((hJ 0).lt _ _ h0 m hm)⟩⟩
  refine (hiter _ (by simp) hpush I hI _ hI0 fun m hm => by
    obtain ⟨h1, h2⟩ := hown m hm
    simp only [List.mem_cons, not_or]
    exact ⟨by omega, h2⟩).mono ?_
  rintro av H' ⟨b, j, fp', q1, q2, q3, fp1, rfl, q4, q5, q6⟩
  have hkept : ∀ m, m < H.length → m ∉ fp0 → (H'.set H.length ABlk.dead)[m]? = H[m]? := by
    intro m hm hmf
    rw [List.getElem?_set_ne (by omega), q2 m (by simp; omega) (by simp [hmf]; omega), hpush m hm]
  have hset : ∀ m ∈ fp1, (H'.set H.length ABlk.dead)[m]? = H'[m]? := by
    intro m hm
    rw [List.getElem?_set_ne]
    intro he; subst he; exact q4 hm
  rcases q6 with ⟨hb, q7, q8⟩ | ⟨hb, ap, q7, q8⟩
  · refine ⟨_, q7, by simp [lrec], ?_⟩
    have := q3 hb
    subst this
    simpa [lrec, jumpItems] using hend fp1 _ (by simpa using q5) hkept ((hJ _).stable _ _ _ q8 (by simp) hset)
  · refine ⟨_, q7, by simp [lrec], ?_⟩
    simpa [lrec] using hstop ap j fp1 _ (by simpa using q5) hkept ((hS _ _).stable _ _ _ q8 (by simp) hset)

theorem lrec_state {r : Regs} {ps : List Nat} {a b : Code} {st : LoopState} {ap : Option AJump} : (lrec c r ps a b st ap).state = st := rfl
theorem lrec_set {r : Regs} {ps : List Nat} {a b : Code} {st st' : LoopState} {ap ap' : Option AJump} : ({ lrec c r ps a b st ap with state := st', pending := ap' } : ALoop) = lrec c r ps a b st' ap' := rfl
theorem lrec_busy {r : Regs} {ps : List Nat} {a b : Code} {st st' : LoopState} {ap : Option AJump} : ({ lrec c r ps a b st ap with state := st' } : ALoop) = lrec c r ps a b st' ap := rfl

end
end Go.Am
