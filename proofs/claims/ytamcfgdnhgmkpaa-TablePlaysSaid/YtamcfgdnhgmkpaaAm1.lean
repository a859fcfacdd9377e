/-
  Values without places, and how they lie in the heap: the first part of an abstract machine for programs whose slices have one owner each. By an AI agent. No person has read it.
-/
import Derived.AtR
import Derived.Below
import Derived.Laws.Cells
import Derived.Laws.World
import Derived.Laws.Append
import Derived.Laws.Rows
import Derived.Laws.Entries
import Derived.Laws.Strings
import Derived.Laws.StructEq
import Derived.Laws.Small
set_option linter.unusedSimpArgs false
set_option linter.unusedVariables false

namespace Go.Am
open Go

/-! ### Values without places -/

inductive AVal where
  | junk
  | bool (b : Bool)
  | int (k : IntKind) (n : Int)
  | str (s : ByteArray)
  | nilp | nils | nilf | nilm
  | ptr (n off : Nat)
  | sptr (s : AVal) (off : Nat)
  | slc (n off len sz : Nat)
  | imm (cs : List AVal) (len : Nat) (tight : Bool)
  | mapv (n : Nat)
  | fn (f : FuncId) (first captured : List AVal)
  | yld (n : Nat)
  | agg (cs : List AVal)
  | tup (vs : List AVal)
  deriving Inhabited

inductive AJump where
  | ret
  | exit (id : Nat)

structure ALoop where
  state : LoopState
  pending : Option AJump
  fn : FuncId
  nt : Nat
  regs : List (Nat × AVal)
  params : List Tmp
  assign : Code
  body : Code

inductive ABlk where
  | dead
  | cells (cs : List AVal) (el : TypeId)
  | vec (cs : List AVal) (el : TypeId) (sz : Nat)
  | map (es : List (AVal × AVal))
  | loop (l : ALoop)

abbrev AHeap := List ABlk

def ABlk.isLive : ABlk → Bool
  | .dead => false
  | _ => true

def alive (H : AHeap) (n : Nat) : Bool := ((H[n]?).map ABlk.isLive).getD false

theorem alive_lt {H : AHeap} {n : Nat} (h : alive H n = true) : n < H.length := by
  unfold alive at h
  cases hn : H[n]? with
  | none => simp [hn] at h
  | some b => exact (List.getElem?_eq_some_iff.1 hn).1

/-- Names and places. -/
structure Nm where
  ρ : Nat → Option Nat
  H : AHeap
  heap : Array Obj

def Nm.Owned (e : Nm) (b : Nat) : Prop := ∃ n, alive e.H n = true ∧ e.ρ n = some b

def room (heap : Array Obj) (b : Nat) : Option Nat :=
  match heap[b]? with
  | some (.cells c _ _) => some c.size
  | _ => none

mutual
def VRel (e : Nm) : AVal → Value → Prop
  | .junk, _ => True
  | .bool b, v => v = .bool b
  | .int k n, v => v = .int k n
  | .str s, v => v = .string s
  | .nilp, v => v = .pointer none
  | .nils, v => v = .slice none 0 0
  | .nilf, v => v = .nilFunc
  | .nilm, v => v = .map none
  | .ptr n off, v => n < e.H.length ∧ ∃ a, v = .pointer (some a) ∧ (alive e.H n = true → e.ρ n = some a.block ∧ a = ⟨a.block, off, none⟩)
  | .sptr s off, v => ∃ b o len cap, v = .pointer (some ⟨b, o + off, none⟩) ∧ VRel e s (.slice (some ⟨b, o, none⟩) len cap)
  | .slc n off len sz, v => n < e.H.length ∧ ∃ a cap, v = .slice a len cap ∧ len ≤ cap ∧
      (alive e.H n = true → (e.ρ n = none ∧ cap = 0 ∧ off = 0) ∨ (len = 0 ∧ cap = 0) ∨
        ∃ b r, e.ρ n = some b ∧ a = some ⟨b, off, none⟩ ∧ room e.heap b = some r ∧ off + cap * sz ≤ r)
  | .imm cs len tight, v => ∃ a cap, v = .slice a len cap ∧ len ≤ cap ∧ (tight = true → cap = len) ∧
      ((cs = [] ∧ len = 0) ∨ ∃ b o, a = some ⟨b, o, none⟩ ∧ ¬ e.Owned b ∧ ∃ arr el fz, e.heap[b]? = some (.cells arr el fz) ∧ VsRel e cs (fun i => arr[o + i]?))
  | .mapv n, v => n < e.H.length ∧ ∃ b, v = .map (some b) ∧ (alive e.H n = true → e.ρ n = some b)
  | .fn f first captured, v => ∃ xs ys : Array Value, v = .func (.func f) xs ys ∧ xs.size = first.length ∧ ys.size = captured.length ∧
      VsRel e first (fun i => xs[i]?) ∧ VsRel e captured (fun i => ys[i]?)
  | .yld n, v => n < e.H.length ∧ ∃ l, v = .func (.yield l) #[] #[] ∧ (alive e.H n = true → e.ρ n = some l)
  | .agg cs, v => ∃ arr : Array Value, v = .agg arr ∧ arr.size = cs.length ∧ VsRel e cs (fun i => arr[i]?)
  | .tup cs, v => ∃ arr : Array Value, v = .tuple arr ∧ arr.size = cs.length ∧ VsRel e cs (fun i => arr[i]?)
def VsRel (e : Nm) : List AVal → (Nat → Option Value) → Prop
  | [], _ => True
  | c :: cs, g => (∃ v, g 0 = some v ∧ VRel e c v) ∧ VsRel e cs (fun i => g (i + 1))
end

theorem vsRel_iff (e : Nm) : ∀ (cs : List AVal) (g : Nat → Option Value), VsRel e cs g ↔ ∀ i (h : i < cs.length), ∃ v, g i = some v ∧ VRel e cs[i] v
  | [], g => by simp [VsRel]
  | c :: cs, g => by
    simp only [VsRel, vsRel_iff e cs]
    constructor
    · rintro ⟨h0, h⟩ i hi
      cases i with
      | zero => exact h0
      | succ i => exact h i (by simpa using hi)
    · intro h
      exact ⟨h 0 (by simp), fun i hi => h (i + 1) (by simpa using hi)⟩

/-- What is known of the first names and places is known of the second ones. -/
structure Ext (e e' : Nm) : Prop where
  len : e.H.length ≤ e'.H.length
  name : ∀ n, n < e.H.length → alive e'.H n = true → alive e.H n = true ∧ e'.ρ n = e.ρ n
  keep : ∀ b arr el fz, e.heap[b]? = some (.cells arr el fz) → ¬ e.Owned b → e'.heap[b]? = some (.cells arr el fz) ∧ ¬ e'.Owned b
  room : ∀ b r, room e.heap b = some r → Am.room e'.heap b = some r

theorem Ext.refl (e : Nm) : Ext e e := ⟨Nat.le_refl _, fun _ _ h => ⟨h, rfl⟩, fun _ _ _ _ h h' => ⟨h, h'⟩, fun _ _ h => h⟩

theorem Ext.trans {e e' e'' : Nm} (h : Ext e e') (h' : Ext e' e'') : Ext e e'' where
  len := Nat.le_trans h.len h'.len
  name n hn ha := by
    obtain ⟨h1, h2⟩ := h'.name n (Nat.lt_of_lt_of_le hn h.len) ha
    obtain ⟨h3, h4⟩ := h.name n hn h1
    exact ⟨h3, h2.trans h4⟩
  keep b arr el fz hb ho := by
    obtain ⟨h1, h2⟩ := h.keep b arr el fz hb ho
    exact h'.keep b arr el fz h1 h2
  room b r hr := h'.room b r (h.room b r hr)

mutual
theorem VRel.ext {e e' : Nm} (x : Ext e e') : ∀ (c : AVal) (v : Value), VRel e c v → VRel e' c v
  | .junk, _, _ => by simp [VRel]
  | .bool b, v, h => by simpa [VRel] using h
  | .int k n, v, h => by simpa [VRel] using h
  | .str s, v, h => by simpa [VRel] using h
  | .nilp, v, h => by simpa [VRel] using h
  | .nils, v, h => by simpa [VRel] using h
  | .nilf, v, h => by simpa [VRel] using h
  | .nilm, v, h => by simpa [VRel] using h
  | .ptr n off, v, h => by
    simp only [VRel] at h ⊢
    obtain ⟨hn, a, rfl, h⟩ := h
    refine ⟨Nat.lt_of_lt_of_le hn x.len, a, rfl, fun ha => ?_⟩
    obtain ⟨h1, h2⟩ := x.name n hn ha
    rw [h2]; exact h h1
  | .sptr s off, v, h => by
    simp only [VRel] at h ⊢
    obtain ⟨b, o, len, cap, rfl, h⟩ := h
    exact ⟨b, o, len, cap, rfl, VRel.ext x s _ h⟩
  | .slc n off len sz, v, h => by
    simp only [VRel] at h ⊢
    obtain ⟨hn, a, cap, rfl, hc, h⟩ := h
    refine ⟨Nat.lt_of_lt_of_le hn x.len, a, cap, rfl, hc, fun ha => ?_⟩
    obtain ⟨h1, h2⟩ := x.name n hn ha
    rw [h2]
    rcases h h1 with h | h | ⟨b, r, h3, h4, h5, h6⟩
    · exact .inl h
    · exact .inr (.inl h)
    · exact .inr (.inr ⟨b, r, h3, h4, x.room b r h5, h6⟩)
  | .imm cs len tight, v, h => by
    simp only [VRel] at h ⊢
    obtain ⟨a, cap, rfl, hc, ht, h⟩ := h
    refine ⟨a, cap, rfl, hc, ht, ?_⟩
    rcases h with h | ⟨b, o, ha, ho, arr, el, fz, hb, hcs⟩
    · exact .inl h
    · obtain ⟨k1, k2⟩ := x.keep b arr el fz hb ho
      exact .inr ⟨b, o, ha, k2, arr, el, fz, k1, VsRel.ext x cs _ hcs⟩
  | .mapv n, v, h => by
    simp only [VRel] at h ⊢
    obtain ⟨hn, b, rfl, h⟩ := h
    refine ⟨Nat.lt_of_lt_of_le hn x.len, b, rfl, fun ha => ?_⟩
    obtain ⟨h1, h2⟩ := x.name n hn ha
    rw [h2]; exact h h1
  | .fn f first captured, v, h => by
    simp only [VRel] at h ⊢
    obtain ⟨xs, ys, rfl, h1, h2, h3, h4⟩ := h
    exact ⟨xs, ys, rfl, h1, h2, VsRel.ext x first _ h3, VsRel.ext x captured _ h4⟩
  | .yld n, v, h => by
    simp only [VRel] at h ⊢
    obtain ⟨hn, b, rfl, h⟩ := h
    refine ⟨Nat.lt_of_lt_of_le hn x.len, b, rfl, fun ha => ?_⟩
    obtain ⟨h1, h2⟩ := x.name n hn ha
    rw [h2]; exact h h1
  | .agg cs, v, h => by
    simp only [VRel] at h ⊢
    obtain ⟨arr, rfl, h1, h2⟩ := h
    exact ⟨arr, rfl, h1, VsRel.ext x cs _ h2⟩
  | .tup cs, v, h => by
    simp only [VRel] at h ⊢
    obtain ⟨arr, rfl, h1, h2⟩ := h
    exact ⟨arr, rfl, h1, VsRel.ext x cs _ h2⟩
theorem VsRel.ext {e e' : Nm} (x : Ext e e') : ∀ (cs : List AVal) (g : Nat → Option Value), VsRel e cs g → VsRel e' cs g
  | [], _, _ => by simp [VsRel]
  | c :: cs, g, h => by
    simp only [VsRel] at h ⊢
    obtain ⟨⟨v, h1, h2⟩, h3⟩ := h
    exact ⟨⟨v, h1, VRel.ext x c v h2⟩, VsRel.ext x cs _ h3⟩
end

/-! ### Blocks -/

def jumpOf : Option AJump → Option Code → Prop
  | none, none => True
  | some .ret, some .ret => True
  | some (.exit i), some (.exit j) => i = j
  | _, _ => False

def rget : List (Nat × AVal) → Nat → AVal
  | [], _ => .junk
  | (j, v) :: r, i => if j = i then v else rget r i

def RRel (e : Nm) (regs : List (Nat × AVal)) (tmps : Array Value) : Prop := ∀ i, VRel e (rget regs i) (tmps.getD i undef)

theorem RRel.ext {e e' : Nm} (x : Ext e e') {regs : List (Nat × AVal)} {tmps : Array Value} (h : RRel e regs tmps) : RRel e' regs tmps :=
  fun i => (h i).ext x

def ERel (e : Nm) (es : List (AVal × AVal)) (ents : Array MapEntry) : Prop :=
  ents.size = es.length ∧ ∀ i (h : i < es.length), ∃ m, ents[i]? = some m ∧ VRel e es[i].1 m.key ∧ VRel e es[i].2 m.val

def BRel (e : Nm) (r : Option Nat) : ABlk → Prop
  | .dead => True
  | .cells cs el => ∃ b arr, r = some b ∧ e.heap[b]? = some (.cells arr el (0, 0)) ∧ arr.size = cs.length ∧ VsRel e cs (fun i => arr[i]?)
  | .vec cs el _ => (r = none ∧ cs = []) ∨ ∃ b arr, r = some b ∧ e.heap[b]? = some (.cells arr el (0, 0)) ∧ VsRel e cs (fun i => arr[i]?)
  | .map es => ∃ b ents clk, r = some b ∧ e.heap[b]? = some (.map ents clk) ∧ ERel e es ents
  | .loop l => ∃ b rl, r = some b ∧ e.heap[b]? = some (.loop rl) ∧ rl.state = l.state ∧ jumpOf l.pending rl.pending ∧ rl.fn = l.fn ∧
      rl.tmps.size = l.nt ∧ RRel e l.regs rl.tmps ∧ rl.params.toList = l.params ∧ rl.assign = l.assign ∧ rl.body = l.body

structure HRel (e : Nm) : Prop where
  blk : ∀ n b, e.H[n]? = some b → BRel e (e.ρ n) b
  inj : ∀ n m b, alive e.H n = true → alive e.H m = true → e.ρ n = some b → e.ρ m = some b → n = m

/-- A block's own relation, the block in the heap unchanged. -/
theorem BRel.ext {e e' : Nm} (x : Ext e e') {r : Option Nat} {c : ABlk} (hk : ∀ b, r = some b → c.isLive = true → e'.heap[b]? = e.heap[b]?) (h : BRel e r c) : BRel e' r c := by
  cases c with
  | dead => trivial
  | cells cs el =>
    obtain ⟨b, arr, h1, h2, h3, h4⟩ := h
    exact ⟨b, arr, h1, by rw [hk b h1 rfl]; exact h2, h3, h4.ext x⟩
  | vec cs el sz =>
    rcases h with h | ⟨b, arr, h1, h2, h3⟩
    · exact .inl h
    · exact .inr ⟨b, arr, h1, by rw [hk b h1 rfl]; exact h2, h3.ext x⟩
  | map es =>
    obtain ⟨b, ents, clk, h1, h2, h3, h4⟩ := h
    refine ⟨b, ents, clk, h1, by rw [hk b h1 rfl]; exact h2, h3, fun i hi => ?_⟩
    obtain ⟨m, g1, g2, g3⟩ := h4 i hi
    exact ⟨m, g1, g2.ext x, g3.ext x⟩
  | loop l =>
    obtain ⟨b, rl, h1, h2, h3, h4, h5, h6, h7, h8⟩ := h
    exact ⟨b, rl, h1, by rw [hk b h1 rfl]; exact h2, h3, h4, h5, h6, h7.ext x, h8⟩

/-! ### What a run keeps -/

def nm (ρ : Nat → Option Nat) (H : AHeap) (w : World) : Nm := ⟨ρ, H, w.heap⟩

/-- B: below it lies what was there before. -/
structure Pres (B : Nat) (ρ : Nat → Option Nat) (H : AHeap) (w : World) (ρ' : Nat → Option Nat) (H' : AHeap) (w' : World) : Prop where
  size : w.heap.size ≤ w'.heap.size
  os : w'.os = w.os
  tape : w'.tape = w.tape
  output : w'.output = w.output
  len : H.length ≤ H'.length
  name : ∀ n, n < H.length → alive H' n = true → alive H n = true ∧ ρ' n = ρ n
  keep : ∀ b, b < B → ¬ (nm ρ H w).Owned b → w'.heap[b]? = w.heap[b]?
  out : ∀ b, b < B → ¬ (nm ρ H w).Owned b → ¬ (nm ρ' H' w').Owned b
  room : ∀ b r, b < B → room w.heap b = some r → Am.room w'.heap b = some r

theorem Pres.refl (B : Nat) (ρ : Nat → Option Nat) (H : AHeap) (w : World) : Pres B ρ H w ρ H w :=
  ⟨Nat.le_refl _, rfl, rfl, rfl, Nat.le_refl _, fun _ _ h => ⟨h, rfl⟩, fun _ _ _ => rfl, fun _ _ h => h, fun _ _ _ h => h⟩

theorem lt_of_some {α : Type} {a : Array α} {i : Nat} {x : α} (h : a[i]? = some x) : i < a.size := by
  rw [Array.getElem?_eq_some_iff] at h; exact h.1

theorem room_lt {heap : Array Obj} {b r : Nat} (h : room heap b = some r) : b < heap.size := by
  unfold room at h; split at h
  · rename_i hh; exact lt_of_some hh
  · cases h

theorem Pres.ext {ρ : Nat → Option Nat} {H : AHeap} {w : World} {ρ' : Nat → Option Nat} {H' : AHeap} {w' : World} (h : Pres w.heap.size ρ H w ρ' H' w') :
    Ext (nm ρ H w) (nm ρ' H' w') where
  len := h.len
  name := h.name
  keep b arr el fz hb ho := by
    have hlt : b < w.heap.size := lt_of_some hb
    exact ⟨(h.keep b hlt ho).trans hb, h.out b hlt ho⟩
  room b r hr := h.room b r (room_lt hr) hr

theorem Pres.trans {B : Nat} {ρ ρ' ρ'' : Nat → Option Nat} {H H' H'' : AHeap} {w w' w'' : World} (h : Pres B ρ H w ρ' H' w') (h' : Pres B ρ' H' w' ρ'' H'' w'') :
    Pres B ρ H w ρ'' H'' w'' where
  size := Nat.le_trans h.size h'.size
  os := h'.os.trans h.os
  tape := h'.tape.trans h.tape
  output := h'.output.trans h.output
  len := Nat.le_trans h.len h'.len
  name n hn ha := by
    obtain ⟨h1, h2⟩ := h'.name n (Nat.lt_of_lt_of_le hn h.len) ha
    obtain ⟨h3, h4⟩ := h.name n hn h1
    exact ⟨h3, h2.trans h4⟩
  keep b hb ho := (h'.keep b hb (h.out b hb ho)).trans (h.keep b hb ho)
  out b hb ho := h'.out b hb (h.out b hb ho)
  room b r hb hr := h'.room b r hb (h.room b r hb hr)

theorem Pres.mono {B B' : Nat} {ρ ρ' : Nat → Option Nat} {H H' : AHeap} {w w' : World} (h : Pres B ρ H w ρ' H' w') (hb : B' ≤ B) : Pres B' ρ H w ρ' H' w' :=
  { h with keep := fun b h1 ho => h.keep b (Nat.lt_of_lt_of_le h1 hb) ho, out := fun b h1 ho => h.out b (Nat.lt_of_lt_of_le h1 hb) ho, room := fun b r h1 hr => h.room b r (Nat.lt_of_lt_of_le h1 hb) hr }

set_option linter.unusedVariables false

def put (w : World) (b : Nat) (o : Obj) : World := { w with heap := w.heap.setIfInBounds b o }

theorem put_same {w : World} {b : Nat} {o : Obj} (h : b < w.heap.size) : (put w b o).heap[b]? = some o := by
  simp [put, h]
theorem put_other {w : World} {b k : Nat} {o : Obj} (h : k ≠ b) : (put w b o).heap[k]? = w.heap[k]? := by
  simp only [put]; rw [Array.getElem?_setIfInBounds]; rw [if_neg (by omega)]
theorem put_size {w : World} {b : Nat} {o : Obj} : (put w b o).heap.size = w.heap.size := by simp [put]

theorem alloc_new {w : World} {o : Obj} : (w.alloc o).heap[w.heap.size]? = some o := by
  show (w.heap.push o)[w.heap.size]? = some o
  simp
theorem alloc_old {w : World} {o : Obj} {k : Nat} (h : k ≠ w.heap.size) : (w.alloc o).heap[k]? = w.heap[k]? := by
  simp only [World.alloc]; rw [Array.getElem?_push, if_neg h]

theorem BRel.block {e : Nm} {r : Option Nat} {c : ABlk} (h : BRel e r c) (hl : c.isLive = true) (b : Nat) (hb : r = some b) : b < e.heap.size := by
  subst hb
  cases c with
  | dead => simp [ABlk.isLive] at hl
  | cells cs el =>
    obtain ⟨b', arr, h1, h2, _⟩ := h
    cases h1; exact lt_of_some h2
  | vec cs el sz =>
    rcases h with ⟨h, _⟩ | ⟨b', arr, h1, h2, _⟩
    · cases h
    · cases h1; exact lt_of_some h2
  | map es =>
    obtain ⟨b', _, _, h1, h2, _⟩ := h
    cases h1; exact lt_of_some h2
  | loop l =>
    obtain ⟨b', _, h1, h2, _⟩ := h
    cases h1; exact lt_of_some h2

theorem alive_some {H : AHeap} {n : Nat} (h : alive H n = true) : ∃ c, H[n]? = some c ∧ c.isLive = true := by
  unfold alive at h
  cases hn : H[n]? with
  | none => simp [hn] at h
  | some c => exact ⟨c, rfl, by simpa [hn] using h⟩

theorem alive_of {H : AHeap} {n : Nat} {c : ABlk} (h : H[n]? = some c) (hc : c.isLive = true) : alive H n = true := by simp [alive, h, hc]

theorem HRel.lt {e : Nm} (h : HRel e) {b : Nat} (ho : e.Owned b) : b < e.heap.size := by
  obtain ⟨n, hn, hb⟩ := ho
  obtain ⟨c, hc, hl⟩ := alive_some hn
  exact (h.blk n c hc).block hl b hb

theorem hrel_of {e e' : Nm} (hr : HRel e) (x : Ext e e')
    (hb : ∀ n c, e'.H[n]? = some c → c.isLive = true → (n < e.H.length ∧ e.H[n]? = some c ∧ (∀ p, e.ρ n = some p → e'.heap[p]? = e.heap[p]?)) ∨ BRel e' (e'.ρ n) c)
    (hi : ∀ n m b, alive e'.H n = true → alive e'.H m = true → e'.ρ n = some b → e'.ρ m = some b → n = m) : HRel e' where
  blk n c hc := by
    by_cases hl : c.isLive = true
    · rcases hb n c hc hl with ⟨h1, h2, h3⟩ | h
      · have := (x.name n h1 (alive_of hc hl)).2
        rw [this]
        exact (hr.blk n c h2).ext x (fun p hp _ => h3 p hp)
      · exact h
    · cases c <;> simp_all [ABlk.isLive]
      trivial
  inj := hi

/-! The five moves. -/

def ρput (ρ : Nat → Option Nat) (n : Nat) (r : Option Nat) : Nat → Option Nat := fun i => if i = n then r else ρ i

section
variable {ρ : Nat → Option Nat} {H : AHeap} {w : World}

theorem alive_push_lt {c : ABlk} {n : Nat} (h : n < H.length) : alive (H ++ [c]) n = alive H n := by
  simp [alive, List.getElem?_append_left h]

theorem alive_push_eq {c : ABlk} : alive (H ++ [c]) H.length = c.isLive := by
  simp [alive]

theorem alive_push {c : ABlk} {n : Nat} (h : alive (H ++ [c]) n = true) : n = H.length ∨ (n < H.length ∧ alive H n = true) := by
  have hl := alive_lt h
  simp at hl
  by_cases hn : n = H.length
  · exact .inl hn
  · have : n < H.length := by omega
    exact .inr ⟨this, by rwa [alive_push_lt this] at h⟩

/-- A draw. -/
theorem pres_drew (B : Nat) : Pres B ρ H w ρ H w.drew := ⟨Nat.le_refl _, rfl, rfl, rfl, Nat.le_refl _, fun _ _ h => ⟨h, rfl⟩, fun _ _ _ => rfl, fun _ _ h => h, fun _ _ _ h => h⟩

theorem hrel_drew (h : HRel (nm ρ H w)) : HRel (nm ρ H w.drew) := h

/-- A new block that has no name. -/
theorem pres_garbage (B : Nat) (hB : B ≤ w.heap.size) (o : Obj) : Pres B ρ H w ρ H (w.alloc o) where
  size := by simp
  os := rfl
  tape := rfl
  output := rfl
  len := Nat.le_refl _
  name _ _ h := ⟨h, rfl⟩
  keep b hb _ := alloc_old (by omega)
  out b hb ho := ho
  room b r hb h := by unfold room at h ⊢; rw [alloc_old (by omega)]; exact h

/-- A new name for a new block. -/
theorem pres_new (B : Nat) (hB : B ≤ w.heap.size) (o : Obj) (c : ABlk) :
    Pres B ρ H w (ρput ρ H.length (some w.heap.size)) (H ++ [c]) (w.alloc o) where
  size := by simp
  os := rfl
  tape := rfl
  output := rfl
  len := by simp
  name n hn h := by
    rw [alive_push_lt hn] at h
    exact ⟨h, by simp [ρput]; omega⟩
  keep b hb _ := alloc_old (by omega)
  out b hb ho h := by
    obtain ⟨n, hn, hb'⟩ := h
    rcases alive_push hn with rfl | ⟨h1, h2⟩
    · simp [ρput, nm] at hb'; omega
    · refine ho ⟨n, h2, ?_⟩
      have : n ≠ H.length := by omega
      simpa [ρput, nm, this] using hb'
  room b r hb h := by unfold room at h ⊢; rw [alloc_old (by omega)]; exact h

theorem ext_new (o : Obj) (c : ABlk) : Ext (nm ρ H w) (nm (ρput ρ H.length (some w.heap.size)) (H ++ [c]) (w.alloc o)) :=
  (pres_new w.heap.size (Nat.le_refl _) o c).ext

theorem hrel_new (hr : HRel (nm ρ H w)) (o : Obj) (c : ABlk)
    (hc : BRel (nm (ρput ρ H.length (some w.heap.size)) (H ++ [c]) (w.alloc o)) (some w.heap.size) c) :
    HRel (nm (ρput ρ H.length (some w.heap.size)) (H ++ [c]) (w.alloc o)) := by
  refine hrel_of hr (ext_new o c) ?_ ?_
  · intro n d hd hl
    have hlt := alive_lt (alive_of hd hl)
    simp [nm] at hlt
    by_cases hn : n = H.length
    · subst hn
      right
      simp [nm] at hd
      subst hd
      simpa [nm, ρput] using hc
    · left
      have hn' : n < H.length := by omega
      refine ⟨hn', by simpa [nm, List.getElem?_append_left hn'] using hd, fun p hp => ?_⟩
      have : p < w.heap.size := hr.lt ⟨n, by have := alive_of hd hl; rwa [show (nm (ρput ρ H.length (some w.heap.size)) (H ++ [c]) (w.alloc o)).H = H ++ [c] from rfl, alive_push_lt hn'] at this, hp⟩
      exact alloc_old (by omega)
  · intro n m b hn hm h1 h2
    have own : ∀ n, alive H n = true → ρ n = some b → b < w.heap.size := fun n h h' => hr.lt ⟨n, h, h'⟩
    simp only [nm] at hn hm h1 h2
    rcases alive_push hn with rfl | ⟨a1, a2⟩ <;> rcases alive_push hm with rfl | ⟨b1, b2⟩
    · rfl
    · have : m ≠ H.length := by omega
      simp [ρput, this] at h1 h2
      have := own m b2 h2; omega
    · have : n ≠ H.length := by omega
      simp [ρput, this] at h1 h2
      have := own n a2 h1; omega
    · have c1 : n ≠ H.length := by omega
      have c2 : m ≠ H.length := by omega
      simp [ρput, c1, c2] at h1 h2
      exact hr.inj n m b a2 b2 h1 h2

/-- A new name without a block. -/
theorem pres_virt (B : Nat) (c : ABlk) : Pres B ρ H w (ρput ρ H.length none) (H ++ [c]) w where
  size := Nat.le_refl _
  os := rfl
  tape := rfl
  output := rfl
  len := by simp
  name n hn h := by
    rw [alive_push_lt hn] at h
    exact ⟨h, by simp [ρput]; omega⟩
  keep b hb _ := rfl
  out b hb ho h := by
    obtain ⟨n, hn, hb'⟩ := h
    rcases alive_push hn with rfl | ⟨h1, h2⟩
    · simp [ρput, nm] at hb'
    · refine ho ⟨n, h2, ?_⟩
      have : n ≠ H.length := by omega
      simpa [ρput, nm, this] using hb'
  room b r hb h := h

theorem hrel_virt (hr : HRel (nm ρ H w)) (el : TypeId) (sz : Nat) :
    HRel (nm (ρput ρ H.length none) (H ++ [.vec [] el sz]) w) := by
  refine hrel_of hr (pres_virt w.heap.size _).ext ?_ ?_
  · intro n d hd hl
    have hlt := alive_lt (alive_of hd hl)
    simp [nm] at hlt
    by_cases hn : n = H.length
    · subst hn
      right
      simp [nm] at hd
      subst hd
      exact .inl ⟨by simp [nm, ρput], rfl⟩
    · left
      have hn' : n < H.length := by omega
      exact ⟨hn', by simpa [nm, List.getElem?_append_left hn'] using hd, fun p hp => rfl⟩
  · intro n m b hn hm h1 h2
    simp only [nm] at hn hm h1 h2
    rcases alive_push hn with rfl | ⟨a1, a2⟩ <;> rcases alive_push hm with rfl | ⟨b1, b2⟩
    · rfl
    · simp [ρput] at h1
    · simp [ρput] at h2
    · have c1 : n ≠ H.length := by omega
      have c2 : m ≠ H.length := by omega
      simp [ρput, c1, c2] at h1 h2
      exact hr.inj n m b a2 b2 h1 h2

theorem alive_set {c d : ABlk} {n m : Nat} (hd : H[n]? = some d) (hdl : d.isLive = true) (h : alive (H.set n c) m = true) : alive H m = true := by
  by_cases hm : m = n
  · subst hm; exact alive_of hd hdl
  · unfold alive at h ⊢
    rwa [List.getElem?_set_ne (by omega)] at h

/-- A block of a name gets another content. -/
theorem pres_set (B : Nat) {n b : Nat} {d : ABlk} (hd : H[n]? = some d) (hdl : d.isLive = true) (hb : ρ n = some b) (o : Obj) (c : ABlk)
    (hroom : ∀ r, room w.heap b = some r → ∃ arr el fz, o = .cells arr el fz ∧ arr.size = r) :
    Pres B ρ H w ρ (H.set n c) (put w b o) where
  size := by simp [put_size]
  os := rfl
  tape := rfl
  output := rfl
  len := by simp
  name m hm h := ⟨alive_set hd hdl h, rfl⟩
  keep k hk ho := put_other (by rintro rfl; exact ho ⟨n, alive_of hd hdl, hb⟩)
  out k hk ho h := by
    obtain ⟨m, hm, hb'⟩ := h
    exact ho ⟨m, alive_set hd hdl hm, hb'⟩
  room k r hkb h := by
    by_cases hk : k = b
    · subst hk
      obtain ⟨arr, el, fz, rfl, hs⟩ := hroom r h
      have := room_lt h
      unfold room; rw [put_same this]; simp [hs]
    · unfold room at h ⊢; rw [put_other hk]; exact h

theorem hrel_set (hr : HRel (nm ρ H w)) {n b : Nat} {d : ABlk} (hd : H[n]? = some d) (hdl : d.isLive = true) (hb : ρ n = some b) (o : Obj) (c : ABlk)
    (hroom : ∀ r, room w.heap b = some r → ∃ arr el fz, o = .cells arr el fz ∧ arr.size = r)
    (hc : BRel (nm ρ (H.set n c) (put w b o)) (some b) c) : HRel (nm ρ (H.set n c) (put w b o)) := by
  refine hrel_of hr (pres_set w.heap.size hd hdl hb o c hroom).ext ?_ ?_
  · intro m e he hl
    by_cases hm : m = n
    · subst hm
      right
      have hlt : m < H.length := (List.getElem?_eq_some_iff.1 hd).1
      simp [nm, hlt] at he
      subst he
      simpa [nm, hb] using hc
    · left
      simp only [nm] at he
      rw [List.getElem?_set_ne (by omega)] at he
      refine ⟨(List.getElem?_eq_some_iff.1 he).1, he, fun p hp => put_other ?_⟩
      rintro rfl
      exact hm (hr.inj m n p (alive_of he hl) (alive_of hd hdl) hp hb)
  · intro m k p hm hk h1 h2
    exact hr.inj m k p (alive_set hd hdl hm) (alive_set hd hdl hk) h1 h2

/-- A name goes. -/
theorem pres_kill (B : Nat) {n : Nat} : Pres B ρ H w ρ (H.set n .dead) w where
  size := Nat.le_refl _
  os := rfl
  tape := rfl
  output := rfl
  len := by simp
  name m hm h := by
    refine ⟨?_, rfl⟩
    by_cases hmn : m = n
    · subst hmn; simp [alive, hm, ABlk.isLive] at h
    · unfold alive at h ⊢; rwa [List.getElem?_set_ne (by omega)] at h
  keep _ _ _ := rfl
  out k hk ho h := by
    obtain ⟨m, hm, hb'⟩ := h
    refine ho ⟨m, ?_, hb'⟩
    have hml := alive_lt hm
    simp [nm] at hml
    by_cases hmn : m = n
    · subst hmn; simp [alive, hml, ABlk.isLive, nm] at hm
    · simp only [nm] at hm ⊢; unfold alive at hm ⊢; rwa [List.getElem?_set_ne (by omega)] at hm
  room _ _ _ h := h

theorem alive_kill {n m : Nat} (h : alive (H.set n .dead) m = true) : m ≠ n ∧ alive H m = true := by
  have hml := alive_lt h
  simp at hml
  by_cases hmn : m = n
  · subst hmn; simp [alive, hml, ABlk.isLive] at h
  · unfold alive at h ⊢; exact ⟨hmn, by rwa [List.getElem?_set_ne (by omega)] at h⟩

theorem hrel_kill (hr : HRel (nm ρ H w)) {n : Nat} : HRel (nm ρ (H.set n .dead) w) := by
  refine hrel_of hr (pres_kill w.heap.size (n := n)).ext ?_ ?_
  · intro m e he hl
    left
    obtain ⟨h1, h2⟩ := alive_kill (alive_of he hl)
    simp only [nm] at he
    rw [List.getElem?_set_ne (by omega)] at he
    exact ⟨(List.getElem?_eq_some_iff.1 he).1, he, fun p hp => rfl⟩
  · intro m k p hm hk h1 h2
    exact hr.inj m k p (alive_kill hm).2 (alive_kill hk).2 h1 h2

/-- A name goes; another one gets its block (or, without a block, none). -/
theorem pres_move (B : Nat) {n b : Nat} {d : ABlk} (hd : H[n]? = some d) (hdl : d.isLive = true) (hb : ρ n = some b) (o : Obj) (c : ABlk)
    (hroom : ∀ r, room w.heap b = some r → ∃ arr el fz, o = .cells arr el fz ∧ arr.size = r) :
    Pres B ρ H w (ρput ρ H.length (some b)) (H.set n .dead ++ [c]) (put w b o) where
  size := by simp [put_size]
  os := rfl
  tape := rfl
  output := rfl
  len := by simp
  name m hm h := by
    have hl : m < (H.set n ABlk.dead).length := by simpa using hm
    rw [alive_push_lt hl] at h
    refine ⟨(alive_kill h).2, ?_⟩
    have : m ≠ H.length := by omega
    simp [ρput, this]
  keep k hk ho := put_other (by rintro rfl; exact ho ⟨n, alive_of hd hdl, hb⟩)
  out k hk ho h := by
    obtain ⟨m, hm, hb'⟩ := h
    simp only [nm] at hm hb'
    rcases alive_push hm with h1 | ⟨h1, h2⟩
    · have : m = H.length := by simpa using h1
      subst this
      simp [ρput] at hb'
      subst hb'
      exact ho ⟨n, alive_of hd hdl, hb⟩
    · have h3 : m < H.length := by simpa using h1
      have : m ≠ H.length := by omega
      refine ho ⟨m, (alive_kill h2).2, ?_⟩
      simp only [ρput, if_neg this] at hb'
      exact hb'
  room k r hkb h := by
    by_cases hk : k = b
    · subst hk
      obtain ⟨arr, el, fz, rfl, hs⟩ := hroom r h
      have := room_lt h
      unfold room; rw [put_same this]; simp [hs]
    · unfold room at h ⊢; rw [put_other hk]; exact h

theorem hrel_move (hr : HRel (nm ρ H w)) {n b : Nat} {d : ABlk} (hd : H[n]? = some d) (hdl : d.isLive = true) (hb : ρ n = some b) (o : Obj) (c : ABlk)
    (hroom : ∀ r, room w.heap b = some r → ∃ arr el fz, o = .cells arr el fz ∧ arr.size = r)
    (hc : BRel (nm (ρput ρ H.length (some b)) (H.set n .dead ++ [c]) (put w b o)) (some b) c) :
    HRel (nm (ρput ρ H.length (some b)) (H.set n .dead ++ [c]) (put w b o)) := by
  have hx := (pres_move w.heap.size hd hdl hb o c hroom).ext
  refine hrel_of hr hx ?_ ?_
  · intro m e he hl
    simp only [nm] at he
    rcases alive_push (alive_of he hl) with h1 | ⟨h1, h2⟩
    · have : m = H.length := by simpa using h1
      subst this
      right
      have : (H.set n .dead ++ [c])[H.length]? = some c := by
        rw [List.getElem?_append_right (by simp)]; simp
      rw [this] at he
      cases he
      simpa [nm, ρput] using hc
    · left
      have h3 : m < H.length := by simpa using h1
      obtain ⟨h4, h5⟩ := alive_kill h2
      rw [List.getElem?_append_left h1, List.getElem?_set_ne (by omega)] at he
      refine ⟨h3, he, fun p hp => put_other ?_⟩
      rintro rfl
      exact h4 (hr.inj m n p h5 (alive_of hd hdl) hp hb)
  · intro m k p hm hk h1 h2
    simp only [nm] at hm hk h1 h2
    rcases alive_push hm with a1 | ⟨a1, a2⟩ <;> rcases alive_push hk with b1 | ⟨b1, b2⟩
    · omega
    · have e1 : m = H.length := by simpa using a1
      have e2 : k < H.length := by simpa using b1
      have e3 : k ≠ H.length := by omega
      subst e1
      simp [ρput, e3] at h1 h2
      subst h1
      obtain ⟨h4, h5⟩ := alive_kill b2
      exact absurd (hr.inj k n _ h5 (alive_of hd hdl) h2 hb) h4
    · have e1 : k = H.length := by simpa using b1
      have e2 : m < H.length := by simpa using a1
      have e3 : m ≠ H.length := by omega
      subst e1
      simp [ρput, e3] at h1 h2
      subst h2
      obtain ⟨h4, h5⟩ := alive_kill a2
      exact absurd (hr.inj m n _ h5 (alive_of hd hdl) h1 hb) h4
    · have e2 : m < H.length := by simpa using a1
      have e4 : k < H.length := by simpa using b1
      have e3 : m ≠ H.length := by omega
      have e5 : k ≠ H.length := by omega
      simp [ρput, e3, e5] at h1 h2
      exact hr.inj m k p (alive_kill a2).2 (alive_kill b2).2 h1 h2

end
end Go.Am

namespace Go.Am
open Go
set_option linter.unusedVariables false

/-! ### Operations, their types resolved -/

abbrev Regs := List (Nat × AVal)

inductive AOpd where
  | tmp (t : Nat)
  | const (v : AVal)

inductive SKind where
  | slice | string
  | array (n : Nat)

inductive Leaf where
  | bool | int | str
  deriving DecidableEq

inductive LKind where
  | slice | str | map
  deriving DecidableEq

inductive EKind where
  | bool | ptr | func | map
  | cells (ks : List Leaf)
  | slice

inductive AOp where
  | mov (x : AOpd)
  | pick (c a b : AOpd)
  | alloc (el : TypeId) (z : List AVal)
  | box (el : TypeId) (x : AOpd)
  | build (z : List AVal) (parts : List (Nat × Nat × AOpd))
  | lit (el : TypeId) (sz len : Nat) (z : List AVal) (parts : List (Nat × Nat × AOpd))
  | load (agg : Option Nat) (a : AOpd)
  | store (sz : Nat) (a v : AOpd)
  | bin (op : BinOp) (x y : AOpd)
  | eq (neg : Bool) (k : EKind) (x y : AOpd)
  | un (op : UnOp) (x : AOpd)
  | conv (k : IntKind) (x : AOpd)
  | nilc (x : AOpd)
  | field (off : Nat) (x : AOpd)
  | idx (sz : Nat) (arr : Option Nat) (x i : AOpd)
  | sidx (x i : AOpd)
  | slice (sz : Nat) (k : SKind) (x : AOpd) (lo hi mx : Option AOpd)
  | toArr (n : Nat) (x : AOpd)
  | len (k : LKind) (x : AOpd)
  | maxmin (isMax : Bool) (x y : AOpd)
  | minN (xs : List AOpd)
  | extract (x : AOpd) (i : Nat)
  | mkfn (f : FuncId) (first captured : List AOpd)
  | append (el sz bytes : Nat) (s x : AOpd)
  | mkmap
  | mkslice (el sz bytes : Nat) (z : List AVal) (len cap : AOpd)
  | lookup (kk : Leaf) (z : AVal) (ok : Bool) (m k : AOpd)
  | mapset (kk : Leaf) (m k v : AOpd)
  | call (f : AOpd) (args : List AOpd)
  | s2b (x : AOpd)
  | b2s (x : AOpd)
  | mark (x : AOpd)
  | mapdel (kk : Leaf) (m k : AOpd)

inductive Res where
  | bad
  | ok (p : Prop) (v : AVal) (H : AHeap)

def AVal.cells : AVal → List AVal
  | .agg cs => cs
  | v => [v]

/-- May stand in one cell. -/
def AVal.cellish : AVal → Bool
  | .junk | .agg _ | .tup _ => false
  | _ => true

def fillAt : List AVal → Nat → List AVal → List AVal
  | cs, _, [] => cs
  | cs, off, v :: vs => fillAt (cs.set off v) (off + 1) vs

/-- The parts of a literal, each at its place; none of a wrong size. -/
def fillParts (g : AOpd → AVal) : List AVal → List (Nat × Nat × AOpd) → Option (List AVal)
  | cs, [] => some cs
  | cs, (off, size, x) :: rest =>
    if (g x).cells.length = size ∧ off + size ≤ cs.length ∧ (g x).cells.all AVal.cellish = true then fillParts g (fillAt cs off (g x).cells) rest else none

/-- What a block holds. -/
def content : Option ABlk → Option (List AVal)
  | some (.cells cs _) => some cs
  | some (.vec cs _ _) => some cs
  | _ => none

/-- The cells of a slice. -/
def view (H : AHeap) : AVal → Option (List AVal)
  | .nils => some []
  | .imm cs _ _ => some cs
  | .slc n off len sz => match content H[n]? with
    | some cs => if off + len * sz ≤ cs.length then some ((cs.drop off).take (len * sz)) else none
    | none => none
  | _ => none

def slen : AVal → Option Nat
  | .nils => some 0
  | .imm _ len _ => some len
  | .slc _ _ len _ => some len
  | _ => none

/-- The cells that an address leads to. -/
def cellsAt (H : AHeap) : AVal → Option (List AVal)
  | .ptr n off => (content H[n]?).map (·.drop off)
  | .sptr s k => (view H s).map (·.drop k)
  | _ => none

def loadA (H : AHeap) (agg : Option Nat) (a : AVal) : Option (Prop × AVal) :=
  match cellsAt H a with
  | some cs => match agg with
    | some n => some (n ≤ cs.length, .agg (cs.take n))
    | none => some (0 < cs.length, cs.headD .junk)
  | none => none

def storeA (H : AHeap) (sz : Nat) (a v : AVal) : Option (Prop × AHeap) :=
  match a with
  | .ptr n off => match H[n]? with
    | some (.cells cs el) => some (off + sz ≤ cs.length ∧ v.cells.length = sz ∧ v.cells.all AVal.cellish = true, H.set n (.cells (fillAt cs off v.cells) el))
    | some (.vec cs el z) => some (off + sz ≤ cs.length ∧ 0 < sz ∧ v.cells.length = sz ∧ v.cells.all AVal.cellish = true, H.set n (.vec (fillAt cs off v.cells) el z))
    | _ => none
  | .sptr (.slc n o len z') k => match H[n]? with
    | some (.cells cs el) => some (k + sz ≤ len * z' ∧ 0 < sz ∧ o + len * z' ≤ cs.length ∧ v.cells.length = sz ∧ v.cells.all AVal.cellish = true, H.set n (.cells (fillAt cs (o + k) v.cells) el))
    | some (.vec cs el z) => some (k + sz ≤ len * z' ∧ 0 < sz ∧ o + len * z' ≤ cs.length ∧ v.cells.length = sz ∧ v.cells.all AVal.cellish = true, H.set n (.vec (fillAt cs (o + k) v.cells) el z))
    | _ => none
  | _ => none

def bits (op : BinOp) (k : IntKind) (x y : Int) : Int :=
  let a := BitVec.ofInt k.bits x
  let b := BitVec.ofInt k.bits y
  k.wrap (match op with
    | .and => (a &&& b).toNat
    | .or => (a ||| b).toNat
    | .xor => (a ^^^ b).toNat
    | _ => (a &&& ~~~b).toNat)

def binA (op : BinOp) : AVal → AVal → Option (Prop × AVal)
  | .int k a, .int k' b => match op with
    | .shl => some (0 ≤ b, .int k (k.wrap (a * 2 ^ min b.toNat k.bits)))
    | .shr => some (0 ≤ b, .int k (a.fdiv (2 ^ min b.toNat k.bits)))
    | .add => some (k = k', .int k (k.wrap (a + b)))
    | .sub => some (k = k', .int k (k.wrap (a - b)))
    | .mul => some (k = k', .int k (k.wrap (a * b)))
    | .quo => some (k = k' ∧ b ≠ 0, .int k (k.wrap (a.tdiv b)))
    | .rem => some (k = k' ∧ b ≠ 0, .int k (a.tmod b))
    | .and => some (k = k', .int k (bits .and k a b))
    | .or => some (k = k', .int k (bits .or k a b))
    | .xor => some (k = k', .int k (bits .xor k a b))
    | .andNot => some (k = k', .int k (bits .andNot k a b))
    | .eql => some (k = k', .bool (decide (a = b)))
    | .neq => some (k = k', .bool (!decide (a = b)))
    | .lss => some (k = k', .bool (decide (a < b)))
    | .leq => some (k = k', .bool (decide (a ≤ b)))
    | .gtr => some (k = k', .bool (decide (b < a)))
    | .geq => some (k = k', .bool (decide (b ≤ a)))
  | .str a, .str b => match op with
    | .add => some (((a.size + b.size : Nat) : Int) ≤ 9223372036854775807, .str (a ++ b))
    | .eql => some (True, .bool (decide (a = b)))
    | .neq => some (True, .bool (!decide (a = b)))
    | _ => none
  | _, _ => none

def eqCell : Leaf → AVal → AVal → Option Bool
  | .bool, .bool a, .bool b => some (decide (a = b))
  | .int, .int k a, .int k' b => if k = k' then some (decide (a = b)) else none
  | .str, .str a, .str b => some (decide (a = b))
  | _, _, _ => none

def eqCells : List Leaf → List AVal → List AVal → Option Bool
  | [], [], [] => some true
  | k :: ks, a :: as, b :: bs => match eqCell k a b, eqCells ks as bs with
    | some x, some y => some (x && y)
    | _, _ => none
  | _, _, _ => none

def eqA (k : EKind) (x y : AVal) : Option Bool :=
  match k with
  | .bool => match x, y with | .bool a, .bool b => some (decide (a = b)) | _, _ => none
  | .ptr => match x, y with
    | .nilp, .nilp => some true
    | .nilp, .ptr .. | .ptr .., .nilp | .nilp, .sptr .. | .sptr .., .nilp => some false
    | _, _ => none
  | .func => match x, y with
    | .nilf, .fn .. | .fn .., .nilf | .nilf, .yld _ | .yld _, .nilf => some false
    | .nilf, .nilf => some true
    | _, _ => none
  | .map => match x, y with
    | .mapv _, .nilm | .nilm, .mapv _ => some false
    | .nilm, .nilm => some true
    | _, _ => none
  | .cells ks => match x, y with | .agg as, .agg bs => eqCells ks as bs | _, _ => none
  | .slice => match x, y with
    | .nils, .nils => some true
    | _, _ => none

def unA (op : UnOp) : AVal → Option AVal
  | .int k n => match op with
    | .neg => some (.int k (k.wrap (0 - n)))
    | .xor => some (.int k (bits .xor k (if k.signed then -1 else k.max) n))
    | _ => none
  | .bool b => match op with
    | .not => some (.bool (!b))
    | _ => none
  | _ => none

def nat? : AVal → Option Int
  | .int _ n => some n
  | _ => none

/-- The bounds of a slice expression. -/
def bounds (len cap : Nat) (lo hi mx : Option Int) : Prop × Nat × Nat × Nat :=
  let m := mx.getD cap
  let h := hi.getD len
  let l := lo.getD 0
  (0 ≤ l ∧ l ≤ h ∧ h ≤ m ∧ m ≤ cap, l.toNat, h.toNat, m.toNat)

def opdInt (g : AOpd → AVal) : Option AOpd → Option (Option Int)
  | none => some none
  | some x => match g x with
    | .int _ n => some (some n)
    | _ => none

def sliceA (sz : Nat) (x : AVal) (lo hi mx : Option Int) : Option (Prop × AVal) :=
  match x with
  | .imm cs len tight =>
    let (p, l, h, m) := bounds len len lo hi mx
    some (p ∧ len * sz = cs.length, .imm ((cs.drop (l * sz)).take ((h - l) * sz)) (h - l) ((tight && mx.isNone && decide (h = len)) || (mx.isSome && decide (h = m))))
  | .nils =>
    let (p, l, h, m) := bounds 0 0 lo hi mx
    some (p, .nils)
  | .slc n off len z =>
    let (p, l, h, m) := bounds len len lo hi mx
    some (p ∧ z = sz, .slc n (off + l * sz) (h - l) sz)
  | _ => none

def srcLen : AVal → Option Nat
  | .str b => some b.size
  | x => slen x

def srcCells (H : AHeap) : AVal → Option (List AVal)
  | .str b => some (b.data.toList.map fun c : UInt8 => AVal.int .u8 (c.toNat : Int))
  | x => view H x

def appendA (H : AHeap) (el sz bytes : Nat) (s x : AVal) : Option (Prop × AVal × AHeap) :=
  match srcLen x, srcCells H x with
  | some n, some xs =>
    match s with
    | .nils => some (xs.length = n * sz ∧ 0 < sz ∧ n * bytes ≤ 140737488355328 ∧ n ≤ 9223372036854775807, .slc H.length 0 n sz, H ++ [ABlk.vec xs el sz])
    | .slc m off len z => match H[m]? with
      | some (.vec cs el' z') => some (xs.length = n * sz ∧ 0 < sz ∧ (len + n) * bytes ≤ 140737488355328 ∧ len + n ≤ 9223372036854775807 ∧ z = sz ∧ z' = sz ∧ el' = el ∧ off = 0 ∧ cs.length = len * sz ∧ xs.all AVal.cellish = true,
          .slc H.length 0 (len + n) sz, H.set m ABlk.dead ++ [ABlk.vec (cs ++ xs) el sz])
      | some (.cells cs _) => some (xs.length = n * sz ∧ 0 < sz ∧ 0 < n ∧ (len + n) * bytes ≤ 140737488355328 ∧ len + n ≤ 9223372036854775807 ∧ z = sz ∧ off = 0 ∧ cs.length = len * sz,
          .slc H.length 0 (len + n) sz, H ++ [ABlk.vec (cs ++ xs) el sz])
      | _ => none
    | _ => none
  | _, _ => none

def keyEq : AVal → AVal → Bool
  | .int _ a, .int _ b => decide (a = b)
  | .str a, .str b => decide (a = b)
  | _, _ => false

def keyOk (k : AVal) (es : List (AVal × AVal)) : Prop :=
  match k with
  | .int kd _ => ∀ p ∈ es, ∃ n, p.1 = .int kd n
  | .str _ => ∀ p ∈ es, ∃ s, p.1 = .str s
  | _ => False

def kindA : Leaf → AVal → Bool
  | .int, .int _ _ => true
  | .str, .str _ => true
  | _, _ => false

def find (k : AVal) : List (AVal × AVal) → Option AVal
  | [] => none
  | p :: es => if keyEq k p.1 then some p.2 else find k es

def upd (k v : AVal) : List (AVal × AVal) → List (AVal × AVal)
  | [] => [(k, v)]
  | p :: es => if keyEq k p.1 then (k, v) :: es else p :: upd k v es

/-- The entries without a key. -/
def del (k : AVal) : List (AVal × AVal) → List (AVal × AVal)
  | [] => []
  | p :: es => if keyEq k p.1 then es else p :: del k es

def geto (r : Regs) : AOpd → AVal
  | .tmp t => rget r t
  | .const v => v

/-- The least of some numbers. -/
def minGo (k : IntKind) : Int → List AVal → Option AVal
  | a, [] => some (.int k a)
  | a, .int _ b :: vs => minGo k (if b < a then b else a) vs
  | _, _ => none
def minA : List AVal → Option AVal
  | .int k a :: vs => minGo k a vs
  | _ => none

/-- Bytes as a text. -/
def b2sA : List AVal → ByteArray → Option ByteArray
  | [], s => some s
  | .int .u8 n :: cs, s => b2sA cs (s.push (UInt8.ofNat n.toNat))
  | _, _ => none

/-- A list's own block becomes one that is never written to. -/
def markA (H : AHeap) : AVal → Option (Prop × AVal × AHeap)
  | .slc n off len z => match H[n]? with
    | some (.vec cs el z') => some (off = 0 ∧ z = 1 ∧ cs.length = len ∧ 0 < len, .imm cs len false, H.set n .dead)
    | _ => none
  | _ => none

def s2bA (s : ByteArray) : List AVal := s.data.toList.map fun b => AVal.int .u8 (b.toNat : Int)

def evalOp (g : AOpd → AVal) (H : AHeap) : AOp → Res
  | .mov x => .ok True (g x) H
  | .pick c a b => match g c with
    | .bool true => .ok True (g a) H
    | .bool false => .ok True (g b) H
    | _ => .bad
  | .alloc el z => .ok True (.ptr H.length 0) (H ++ [.cells z el])
  | .box el x => .ok ((g x).cells.all AVal.cellish = true) (.ptr H.length 0) (H ++ [.cells (g x).cells el])
  | .build z parts => match fillParts g z parts with
    | some cs => .ok True (.agg cs) H
    | none => .bad
  | .lit el sz len z parts => match fillParts g z parts with
    | some cs => .ok True (.slc H.length 0 len sz) (H ++ [.vec cs el sz])
    | none => .bad
  | .load agg a => match loadA H agg (g a) with
    | some (p, v) => .ok p v H
    | none => .bad
  | .store sz a v => match storeA H sz (g a) (g v) with
    | some (p, H') => .ok p .junk H'
    | none => .bad
  | .bin op x y => match binA op (g x) (g y) with
    | some (p, v) => .ok p v H
    | none => .bad
  | .eq neg k x y => match eqA k (g x) (g y) with
    | some b => .ok True (.bool (if neg then !b else b)) H
    | none => .bad
  | .un op x => match unA op (g x) with
    | some v => .ok True v H
    | none => .bad
  | .conv k x => match g x with
    | .int _ n => .ok True (.int k (k.wrap n)) H
    | _ => .bad
  | .nilc x => match g x with
    | .ptr n o => .ok True (.ptr n o) H
    | .sptr s o => .ok True (.sptr s o) H
    | .fn f a b => .ok True (.fn f a b) H
    | _ => .bad
  | .field off x => match g x with
    | .ptr n o => .ok True (.ptr n (o + off)) H
    | .sptr s o => .ok True (.sptr s (o + off)) H
    | _ => .bad
  | .idx sz arr x i => match arr, g i with
    | some n, .int _ i => (match g x with
      | .ptr b o => .ok (0 ≤ i ∧ i < n) (.ptr b (o + i.toNat * sz)) H
      | .sptr s o => .ok (0 ≤ i ∧ i < n) (.sptr s (o + i.toNat * sz)) H
      | _ => .bad)
    | none, .int _ i => (match slen (g x) with
      | some n => .ok (0 ≤ i ∧ i < n ∧ (view H (g x)).isSome = true ∧ 0 < sz) (.sptr (g x) (i.toNat * sz)) H
      | none => .bad)
    | _, _ => .bad
  | .sidx x i => match g x, g i with
    | .str s, .int _ i => .ok (0 ≤ i ∧ i < s.size) (.int .u8 (s.get! i.toNat).toNat) H
    | _, _ => .bad
  | .slice sz k x lo hi mx => match opdInt g lo, opdInt g hi, opdInt g mx with
    | some lo, some hi, some mx => (match k with
      | .slice => match sliceA sz (g x) lo hi mx with
        | some (p, v) => .ok p v H
        | none => .bad
      | .array n => match g x with
        | .ptr b o =>
          (match H[b]? with
          | some (.cells cs el) =>
            let (p, l, h, m) := bounds n n lo hi mx
            .ok (p ∧ o + n * sz ≤ cs.length) (.slc b (o + l * sz) (h - l) sz) H
          | _ => .bad)
        | _ => .bad
      | .string => match g x with
        | .str s =>
          let (p, l, h, m) := bounds s.size s.size lo hi mx
          .ok p (.str (s.extract l h)) H
        | _ => .bad)
    | _, _, _ => .bad
  | .toArr n x => match slen (g x) with
    | some len => .ok (n ≤ len ∧ 0 < n ∧ (view H (g x)).isSome = true) (.sptr (g x) 0) H
    | none => .bad
  | .len k x => match k with
    | .str => (match g x with
      | .str s => .ok True (.int .i64 s.size) H
      | _ => .bad)
    | .map => (match g x with
      | .mapv n => (match H[n]? with
        | some (.map es) => .ok True (.int .i64 es.length) H
        | _ => .bad)
      | .nilm => .ok True (.int .i64 0) H
      | _ => .bad)
    | .slice => (match slen (g x) with
      | some n => .ok True (.int .i64 n) H
      | none => .bad)
  | .maxmin isMax x y => match g x, g y with
    | .int k a, .int k' b => .ok (k = k') (.int k (if isMax then (if b > a then b else a) else (if b < a then b else a))) H
    | _, _ => .bad
  | .extract x i => match g x with
    | .tup vs => .ok (i < vs.length) (vs.getD i .junk) H
    | _ => .bad
  | .mkfn f first captured => .ok True (.fn f (first.map g) (captured.map g)) H
  | .append el sz bytes s x => match appendA H el sz bytes (g s) (g x) with
    | some (p, v, H') => .ok p v H'
    | none => .bad
  | .mkmap => .ok True (.mapv H.length) (H ++ [.map []])
  | .mkslice el sz bytes z len cap => match g len, g cap with
    | .int _ l, .int _ c => .ok (0 ≤ l ∧ c = l ∧ l * bytes ≤ 140737488355328 ∧ z.length = sz ∧ 0 < sz ∧ l ≤ 9223372036854775807) (.slc H.length 0 l.toNat sz) (H ++ [.vec ((List.replicate l.toNat z).flatten) el sz])
    | _, _ => .bad
  | .lookup kk z ok m k => match g m with
    | .mapv n => (match H[n]? with
      | some (.map es) => .ok (kindA kk (g k) = true ∧ keyOk (g k) es) (if ok then .tup [(find (g k) es).getD z, .bool (find (g k) es).isSome] else (find (g k) es).getD z) H
      | _ => .bad)
    | .nilm => .ok (kindA kk (g k) = true ∧ keyOk (g k) []) (if ok then .tup [z, .bool false] else z) H
    | _ => .bad
  | .mapset kk m k v => match g m with
    | .mapv n => (match H[n]? with
      | some (.map es) => .ok (kindA kk (g k) = true ∧ keyOk (g k) es) .junk (H.set n (.map (upd (g k) (g v) es)))
      | _ => .bad)
    | _ => .bad
  | .call _ _ => .bad
  | .s2b x => match g x with
    | .str s => .ok True (.imm (s2bA s) s.size false) H
    | _ => .bad
  | .b2s x => match slen (g x), view H (g x) with
    | some n, some cs => (match b2sA cs .empty with
      | some s => .ok (cs.length = n) (.str s) H
      | none => .bad)
    | _, _ => .bad
  | .mark x => match markA H (g x) with
    | some (p, v, H') => .ok p v H'
    | none => .bad
  | .minN xs => match minA (xs.map g) with
    | some v => .ok True v H
    | none => .bad
  | .mapdel kk m k => match g m with
    | .mapv n => (match H[n]? with
      | some (.map es) => .ok (kindA kk (g k) = true ∧ keyOk (g k) es) (.tup []) (H.set n (.map (del (g k) es)))
      | _ => .bad)
    | _ => .bad

set_option linter.unusedVariables false

/-! ### The real operation goes as the other one -/

def ResOk (P : Program) (s : Sem Value) (ρ : Nat → Option Nat) (H : AHeap) (w : World) (av : AVal) (H' : AHeap) : Prop :=
  ∃ v w' ρ', s.run P w = .ok v w' ∧ VRel (nm ρ' H' w') av v ∧ HRel (nm ρ' H' w') ∧ Pres w.heap.size ρ H w ρ' H' w'

section
variable {P : Program} {ρ : Nat → Option Nat} {H : AHeap} {w : World}

theorem ResOk.pure {av : AVal} {v : Value} (hr : HRel (nm ρ H w)) (h : VRel (nm ρ H w) av v) {s : Sem Value} (hs : s.run P w = .ok v w) : ResOk P s ρ H w av H :=
  ⟨v, w, ρ, hs, h, hr, Pres.refl _ _ _ _⟩

/-! #### cells -/

theorem cells_of {e : Nm} {a : AVal} {v : Value} (h : VRel e a v) (hc : a.cells.all AVal.cellish = true) :
    v.cells.size = a.cells.length ∧ VsRel e a.cells (fun i => v.cells[i]?) := by
  cases a with
  | agg cs =>
    simp only [VRel] at h
    obtain ⟨arr, rfl, h1, h2⟩ := h
    exact ⟨h1, h2⟩
  | junk => simp [AVal.cells, AVal.cellish] at hc
  | tup vs => simp [AVal.cells, AVal.cellish] at hc
  | bool b =>
    have h' := h
    simp only [VRel] at h; subst h; simp [AVal.cells, Value.cells, VsRel, h']
  | int k n =>
    have h' := h
    simp only [VRel] at h; subst h; simp [AVal.cells, Value.cells, VsRel, h']
  | str s =>
    have h' := h
    simp only [VRel] at h; subst h; simp [AVal.cells, Value.cells, VsRel, h']
  | nilp =>
    have h' := h
    simp only [VRel] at h; subst h; simp [AVal.cells, Value.cells, VsRel, h']
  | nils =>
    have h' := h
    simp only [VRel] at h; subst h; simp [AVal.cells, Value.cells, VsRel, h']
  | nilf =>
    have h' := h
    simp only [VRel] at h; subst h; simp [AVal.cells, Value.cells, VsRel, h']
  | nilm =>
    have h' := h
    simp only [VRel] at h; subst h; simp [AVal.cells, Value.cells, VsRel, h']
  | ptr n off =>
    have h' := h
    simp only [VRel] at h; obtain ⟨_, a, rfl, _⟩ := h; simp [AVal.cells, Value.cells, VsRel, h']
  | sptr s off =>
    have h' := h
    simp only [VRel] at h; obtain ⟨b, o, l, c, rfl, _⟩ := h; simp [AVal.cells, Value.cells, VsRel, h']
  | slc n off len sz =>
    have h' := h
    simp only [VRel] at h; obtain ⟨_, a, c, rfl, _⟩ := h; simp [AVal.cells, Value.cells, VsRel, h']
  | imm cs len t =>
    have h' := h
    simp only [VRel] at h; obtain ⟨a, c, rfl, _⟩ := h; simp [AVal.cells, Value.cells, VsRel, h']
  | mapv n =>
    have h' := h
    simp only [VRel] at h; obtain ⟨_, b, rfl, _⟩ := h; simp [AVal.cells, Value.cells, VsRel, h']
  | fn f a b =>
    have h' := h
    simp only [VRel] at h; obtain ⟨xs, ys, rfl, _⟩ := h; simp [AVal.cells, Value.cells, VsRel, h']
  | yld n =>
    have h' := h
    simp only [VRel] at h; obtain ⟨_, l, rfl, _⟩ := h; simp [AVal.cells, Value.cells, VsRel, h']

/-- Cells as the kit's 'oneCell'. -/
theorem one_of {e : Nm} {a : AVal} {v : Value} (h : VRel e a v) (hc : a.cellish = true) : v.oneCell' = true := by
  cases a <;> first | (simp [AVal.cellish] at hc; done) | (simp only [VRel] at h; first | (subst h; rfl) | (obtain ⟨_, _, rfl, _⟩ := h; rfl) | (obtain ⟨_, _, _, rfl, _⟩ := h; rfl) | (obtain ⟨_, _, _, _, rfl, _⟩ := h; rfl))

/-! #### a row of cells that is read -/

theorem cell_at {b : Nat} {arr : Array Value} {el : TypeId} {fz : Nat × Nat} (h : w.heap[b]? = some (.cells arr el fz)) (o : Nat) : w.cell? ⟨b, o, none⟩ = arr[o]? := by
  simp [World.cell?, h]

theorem frozen_at {b : Nat} {arr : Array Value} {el : TypeId} (h : w.heap[b]? = some (.cells arr el (0, 0))) (o : Nat) : w.frozen? ⟨b, o, none⟩ = false := by
  simp [World.frozen?, h]

theorem add_none (b o k : Nat) : (⟨b, o, none⟩ : Addr).add k = ⟨b, o + k, none⟩ := by
  unfold Addr.add; split
  · subst_vars; rfl
  · rfl

theorem load_cells {b o : Nat} {arr : Array Value} {el : TypeId} {fz : Nat × Nat} (h : w.heap[b]? = some (.cells arr el fz)) {cs : List AVal} {e : Nm}
    (hc : VsRel e cs (fun i => arr[o + i]?)) : ∃ vs : List Value, vs.length = cs.length ∧ (loadCells ⟨b, o, none⟩ cs.length).run P w = .ok vs.toArray w ∧ VsRel e cs (fun i => vs[i]?) ∧
      (∀ j v, vs[j]? = some v → w.cell? ((⟨b, o, none⟩ : Addr).add j) = some v) := by
  rw [vsRel_iff] at hc
  have hcs : ∀ i, i < cs.length → ∃ v, arr[o + i]? = some v := fun i hi => let ⟨v, h1, _⟩ := hc i hi; ⟨v, h1⟩
  refine ⟨(List.range cs.length).map fun i => (arr[o + i]?).getD undef, by simp, ?_, ?_, ?_⟩
  · have := run_loadCells_list (P := P) (w := w) ⟨b, o, none⟩ ((List.range cs.length).map fun i => (arr[o + i]?).getD undef) ?_
    · simpa using this
    · intro j v hj
      rw [add_none, cell_at h]
      by_cases hlt : j < cs.length
      · obtain ⟨u, hu⟩ := hcs j hlt
        simp [hlt, hu] at hj ⊢
        exact hj
      · simp [hlt] at hj
  · rw [vsRel_iff]
    intro i hi
    obtain ⟨v, h1, h2⟩ := hc i hi
    exact ⟨v, by simp [hi, h1], h2⟩
  · intro j v hj
    rw [add_none, cell_at h]
    by_cases hlt : j < cs.length
    · obtain ⟨u, hu⟩ := hcs j hlt
      simp [hlt, hu] at hj ⊢
      exact hj
    · simp [hlt] at hj

theorem VsRel.drop {e : Nm} {cs : List AVal} {g : Nat → Option Value} (h : VsRel e cs g) (k : Nat) : VsRel e (cs.drop k) (fun i => g (k + i)) := by
  rw [vsRel_iff] at h ⊢
  intro i hi
  simp at hi
  obtain ⟨v, h1, h2⟩ := h (k + i) (by omega)
  exact ⟨v, h1, by simpa using h2⟩

theorem VsRel.take {e : Nm} {cs : List AVal} {g : Nat → Option Value} (h : VsRel e cs g) (k : Nat) : VsRel e (cs.take k) g := by
  rw [vsRel_iff] at h ⊢
  intro i hi
  simp at hi
  obtain ⟨v, h1, h2⟩ := h i (by omega)
  exact ⟨v, h1, by simpa using h2⟩

theorem VsRel.congr {e : Nm} {cs : List AVal} {g g' : Nat → Option Value} (h : VsRel e cs g) (hg : ∀ i, i < cs.length → g' i = g i) : VsRel e cs g' := by
  rw [vsRel_iff] at h ⊢
  intro i hi
  obtain ⟨v, h1, h2⟩ := h i hi
  exact ⟨v, (hg i hi).trans h1, h2⟩

/-- The block of a name that holds cells. -/
theorem content_at (hr : HRel (nm ρ H w)) {n : Nat} {cs : List AVal} (h : content H[n]? = some cs) :
    (ρ n = none ∧ cs = [] ∧ alive H n = true) ∨ ∃ b arr el, ρ n = some b ∧ w.heap[b]? = some (.cells arr el (0, 0)) ∧ VsRel (nm ρ H w) cs (fun i => arr[i]?) ∧ alive H n = true := by
  cases hn : H[n]? with
  | none => simp [hn, content] at h
  | some c =>
    have hb := hr.blk n c hn
    cases c with
    | dead => simp [hn, content] at h
    | map es => simp [hn, content] at h
    | loop l => simp [hn, content] at h
    | cells cs' el =>
      simp [hn, content] at h; subst h
      obtain ⟨b, arr, h1, h2, h3, h4⟩ := hb
      exact .inr ⟨b, arr, el, h1, h2, h4, alive_of hn rfl⟩
    | vec cs' el sz =>
      simp [hn, content] at h; subst h
      rcases hb with ⟨h1, h2⟩ | ⟨b, arr, h1, h2, h3⟩
      · exact .inl ⟨h1, h2, alive_of hn rfl⟩
      · exact .inr ⟨b, arr, el, h1, h2, h3, alive_of hn rfl⟩

/-- Where the cells of an address lie. -/
theorem cellsAt_ok (hr : HRel (nm ρ H w)) {a : AVal} {v : Value} (ha : VRel (nm ρ H w) a v) {cs : List AVal} (h : cellsAt H a = some cs) (hne : 0 < cs.length) :
    ∃ b o arr el fz, v = .pointer (some ⟨b, o, none⟩) ∧ w.heap[b]? = some (.cells arr el fz) ∧ VsRel (nm ρ H w) cs (fun i => arr[o + i]?) := by
  cases a with
  | ptr n off =>
    simp only [VRel] at ha
    obtain ⟨hn, a, rfl, ha⟩ := ha
    simp only [cellsAt, Option.map_eq_some_iff] at h
    obtain ⟨cs', h, rfl⟩ := h
    rcases content_at hr h with ⟨_, rfl, _⟩ | ⟨b, arr, el, h1, h2, h3, h4⟩
    · simp at hne
    · obtain ⟨h5, h6⟩ := ha h4
      have : a.block = b := by
        have : some a.block = some b := h5.symm.trans h1
        exact Option.some.inj this
      rw [h6, this]
      exact ⟨b, off, arr, el, (0, 0), rfl, h2, h3.drop off⟩
  | sptr s k =>
    simp only [VRel] at ha
    obtain ⟨b, o, len, cap, rfl, ha⟩ := ha
    simp only [cellsAt, Option.map_eq_some_iff] at h
    obtain ⟨cs', h, rfl⟩ := h
    cases s with
    | nils => simp [VRel] at ha
    | imm cs len' t =>
      simp [view] at h; subst h
      simp only [VRel] at ha
      obtain ⟨a, cap', ha0, _, _, ha⟩ := ha
      cases ha0
      rcases ha with ⟨rfl, _⟩ | ⟨b', o', h1, h2, arr, el, fz, h3, h4⟩
      · simp at hne
      · cases h1
        exact ⟨b, o + k, arr, el, fz, rfl, h3, (h4.drop k).congr fun i _ => by rw [Nat.add_assoc]⟩
    | slc n off len' sz =>
      simp only [VRel] at ha
      obtain ⟨hn, a, cap', ha0, _, ha⟩ := ha
      cases ha0
      simp only [view] at h
      cases hc : content H[n]? with
      | none => simp [hc] at h
      | some cs =>
        simp only [hc] at h
        split at h
        · cases h
          rename_i hle
          rcases content_at hr hc with ⟨h1, rfl, h2⟩ | ⟨b', arr, el, h1, h2, h3, h4⟩
          · simp at hne
          · rcases ha h4 with h5 | h5 | ⟨b'', r, h5, h6, h7, h8⟩
            · rw [show (nm ρ H w).ρ n = ρ n from rfl, h1] at h5; cases h5.1
            · simp [h5.1] at hne
            · have : some b'' = some b' := h5.symm.trans h1
              cases this
              cases h6
              exact ⟨_, _, arr, el, (0, 0), rfl, h2, (((h3.drop _).take (_ * sz)).drop k).congr fun i _ => by rw [Nat.add_assoc]⟩
        · cases h
    | junk => simp [view] at h
    | bool b => simp [view] at h
    | int k n => simp [view] at h
    | str s => simp [view] at h
    | nilp => simp [view] at h
    | nilf => simp [view] at h
    | nilm => simp [view] at h
    | ptr n off => simp [view] at h
    | sptr s off => simp [view] at h
    | mapv n => simp [view] at h
    | fn f a b => simp [view] at h
    | yld n => simp [view] at h
    | agg cs => simp [view] at h
    | tup vs => simp [view] at h
  | junk => simp [cellsAt] at h
  | bool b => simp [cellsAt] at h
  | int k n => simp [cellsAt] at h
  | str s => simp [cellsAt] at h
  | nilp => simp [cellsAt] at h
  | nils => simp [cellsAt] at h
  | nilf => simp [cellsAt] at h
  | nilm => simp [cellsAt] at h
  | slc n off len sz => simp [cellsAt] at h
  | imm cs len t => simp [cellsAt] at h
  | mapv n => simp [cellsAt] at h
  | fn f a b => simp [cellsAt] at h
  | yld n => simp [cellsAt] at h
  | agg cs => simp [cellsAt] at h
  | tup vs => simp [cellsAt] at h

def aggT (P : Program) (t : TypeId) : Bool :=
  match P.underlying t with
  | some (.struct _) | some (.array _ _) => true
  | _ => false

theorem run_isAgg {t : TypeId} {d : TypeDesc} (h : P.underlying t = some d) : (isAgg t).run P w = .ok (aggT P t) w := by
  unfold isAgg aggT
  simp only [Sem.run_bind, run_underlying h, Result.andThen_ok, h]
  cases d <;> rfl

theorem run_sizeOf {t : TypeId} {i : TypeInfo} (h : P.info? t = some i) : (sizeOf t).run P w = .ok i.size w := by
  simp [sizeOf, typeInfo, h]

/-- A load. -/
theorem load_run (hr : HRel (nm ρ H w)) {t : TypeId} {d : TypeDesc} {i : TypeInfo} (hd : P.underlying t = some d) (hi : P.info? t = some i) {agg : Option Nat}
    (hagg : agg = if aggT P t then some i.size else none) {a : AVal} {v : Value} (ha : VRel (nm ρ H w) a v) {p : Prop} {av : AVal}
    (h : loadA H agg a = some (p, av)) (hp : p) (hne : aggT P t = true → 0 < i.size) : ∃ x, VRel (nm ρ H w) av x ∧ (Instr.loadAt t v).run P w = .ok x w := by
  unfold loadA at h
  cases hc : cellsAt H a with
  | none => simp [hc] at h
  | some cs =>
    simp only [hc] at h
    by_cases hg : aggT P t = true
    · rw [if_pos hg] at hagg
      subst hagg
      simp only [Option.some.injEq, Prod.mk.injEq] at h
      obtain ⟨rfl, rfl⟩ := h
      have hpos := hne hg
      obtain ⟨b, o, arr, el, fz, rfl, h2, h3⟩ := cellsAt_ok hr ha hc (by omega)
      obtain ⟨vs, k1, k2, k3, _⟩ := load_cells (P := P) h2 (h3.take i.size)
      have hl : (cs.take i.size).length = i.size := by simp; omega
      rw [hl] at k2 k1
      refine ⟨.agg vs.toArray, ?_, ?_⟩
      · simp only [VRel]
        exact ⟨vs.toArray, rfl, by simp [k1, hp], by simpa using k3⟩
      · simp [Instr.loadAt, Instr.sureAddr, loadVar, run_isAgg hd, run_sizeOf hi, hg, k2]
    · rw [if_neg hg] at hagg
      subst hagg
      simp only [Option.some.injEq, Prod.mk.injEq] at h
      obtain ⟨rfl, rfl⟩ := h
      obtain ⟨b, o, arr, el, fz, rfl, h2, h3⟩ := cellsAt_ok hr ha hc hp
      rw [vsRel_iff] at h3
      obtain ⟨u, h4, h5⟩ := h3 0 hp
      have hh : cs.headD .junk = cs[0] := by
        cases cs with
        | nil => simp at hp
        | cons c cs => rfl
      rw [hh]
      refine ⟨u, h5, ?_⟩
      have hcell : w.cell? ⟨b, o, none⟩ = some u := by rw [cell_at h2]; simpa using h4
      simp [Instr.loadAt, Instr.sureAddr, loadVar, run_isAgg hd, hg, hcell]

theorem load_ok (hr : HRel (nm ρ H w)) {t : TypeId} {d : TypeDesc} {i : TypeInfo} (hd : P.underlying t = some d) (hi : P.info? t = some i) {agg : Option Nat}
    (hagg : agg = if aggT P t then some i.size else none) {a : AVal} {v : Value} (ha : VRel (nm ρ H w) a v) {p : Prop} {av : AVal}
    (h : loadA H agg a = some (p, av)) (hp : p) (hne : aggT P t = true → 0 < i.size) : ResOk P (Instr.loadAt t v) ρ H w av H := by
  obtain ⟨x, h1, h2⟩ := load_run (P := P) hr hd hi hagg ha h hp hne
  exact ResOk.pure hr h1 h2

end
end Go.Am

namespace Go.Am
open Go
set_option linter.unusedVariables false

section
variable {P : Program} {ρ : Nat → Option Nat} {H : AHeap} {w : World}

theorem inv_int {e : Nm} {k : IntKind} {n : Int} {v : Value} (h : VRel e (.int k n) v) : v = .int k n := by simpa [VRel] using h
theorem inv_bool {e : Nm} {b : Bool} {v : Value} (h : VRel e (.bool b) v) : v = .bool b := by simpa [VRel] using h
theorem inv_str {e : Nm} {s : ByteArray} {v : Value} (h : VRel e (.str s) v) : v = .string s := by simpa [VRel] using h
theorem rel_int (e : Nm) (k : IntKind) (n : Int) : VRel e (.int k n) (.int k n) := by simp [VRel]
theorem rel_bool (e : Nm) (b : Bool) : VRel e (.bool b) (.bool b) := by simp [VRel]
theorem rel_str (e : Nm) (s : ByteArray) : VRel e (.str s) (.string s) := by simp [VRel]

theorem bytes_beq (a b : ByteArray) : (a.toList == b.toList) = decide (a = b) := by
  rw [← beq_toListBytes]
  obtain ⟨a⟩ := a; obtain ⟨b⟩ := b
  show (a == b) = _
  by_cases h : a = b
  · simp [h]
  · have : (⟨a⟩ : ByteArray) ≠ ⟨b⟩ := fun hh => h (by injection hh)
    simp [h, this]

theorem bin_ok (hr : HRel (nm ρ H w)) {op : BinOp} {t : TypeId} {X Y : Operand} {a b : AVal} {x y : Value} (ha : VRel (nm ρ H w) a x) (hb : VRel (nm ρ H w) b y) {p : Prop} {av : AVal}
    (h : binA op a b = some (p, av)) (hp : p) : ResOk P (do eqGuard op t X Y x y; binOp op t x y) ρ H w av H := by
  cases a with
  | int k n =>
    cases b with
    | int k' n' =>
      obtain rfl := inv_int ha
      obtain rfl := inv_int hb
      have hg : (eqGuard op t X Y (.int k n) (.int k' n')).run P w = .ok () w := by unfold eqGuard; cases op <;> simp
      cases op <;> simp only [binA, Option.some.injEq, Prod.mk.injEq] at h <;> obtain ⟨rfl, rfl⟩ := h
      all_goals
        first
        | (obtain ⟨rfl, h0⟩ := hp
           refine ResOk.pure hr (rel_int _ _ _) ?_
           simp [hg, binOp, Op.intDiv, h0]; done)
        | (subst hp
           first
           | (refine ResOk.pure hr (rel_int _ _ _) ?_; simp [hg, binOp, Op.intArith, Op.intBits, bits]; done)
           | (refine ResOk.pure hr (rel_bool _ _) ?_; simp [hg, binOp, Op.intCmp]; first | done | rfl | (rw [Bool.beq_eq_decide_eq]) | skip))
        | (have hq : ¬ (n' < 0) := by omega
           refine ResOk.pure hr (rel_int _ _ _) ?_
           simp [hg, binOp, Op.shift, hq]; done)
    | _ => simp [binA] at h
  | str s =>
    cases b with
    | str s' =>
      obtain rfl := inv_str ha
      obtain rfl := inv_str hb
      have hg : (eqGuard op t X Y (.string s) (.string s')).run P w = .ok () w := by unfold eqGuard; cases op <;> simp
      cases op <;> simp only [binA, Option.some.injEq, Prod.mk.injEq] at h <;> first | (cases h; done) | skip
      all_goals obtain ⟨rfl, rfl⟩ := h
      · refine ResOk.pure hr (rel_str _ _) ?_
        have : ¬ (((s.size + s'.size : Nat) : Int) > IntKind.i64.max) := by
          have : IntKind.i64.max = 9223372036854775807 := rfl
          omega
        simp only [Sem.run_bind, hg, Result.andThen_ok, binOp, Op.stringOp]
        rw [if_neg this]; rfl
      · refine ResOk.pure hr (rel_bool _ _) ?_
        simp [hg, binOp, Op.stringOp, bytes_beq]
      · refine ResOk.pure hr (rel_bool _ _) ?_
        simp [hg, binOp, Op.stringOp, bytes_beq]
    | _ => simp [binA] at h
  | _ => simp [binA] at h

theorem un_ok (hr : HRel (nm ρ H w)) {op : UnOp} {a : AVal} {x : Value} (ha : VRel (nm ρ H w) a x) {av : AVal} (h : unA op a = some av) : ResOk P (Op.unary op x) ρ H w av H := by
  cases a with
  | int k n =>
    obtain rfl := inv_int ha
    cases op <;> simp only [unA, Option.some.injEq] at h <;> first | (cases h; done) | skip
    · subst h; refine ResOk.pure hr (rel_int _ _ _) ?_; simp [Op.unary, Op.intArith]
    · subst h; refine ResOk.pure hr (rel_int _ _ _) ?_; simp [Op.unary, Op.intBits, bits]
  | bool b =>
    obtain rfl := inv_bool ha
    cases op <;> simp only [unA, Option.some.injEq] at h <;> first | (cases h; done) | skip
    subst h; refine ResOk.pure hr (rel_bool _ _) ?_; simp [Op.unary]
  | _ => simp [unA] at h

theorem conv_ok (hr : HRel (nm ρ H w)) {s d : TypeId} {k : IntKind} {ds : TypeDesc} (h1 : P.underlying s = some ds) (h2 : P.underlying d = some (.int k)) {kk : IntKind} {n : Int} {x : Value}
    (ha : VRel (nm ρ H w) (.int kk n) x) : ResOk P (convert s d x) ρ H w (.int k (k.wrap n)) H := by
  obtain rfl := inv_int ha
  refine ResOk.pure hr (rel_int _ _ _) ?_
  simp only [convert, Sem.run_bind, run_underlying h1, run_underlying h2, Result.andThen_ok]
  cases ds <;> simp [Conv.intToInt]

theorem extract_ok (hr : HRel (nm ρ H w)) {vs : List AVal} {i : Nat} {x : Value} (ha : VRel (nm ρ H w) (.tup vs) x) (hi : i < vs.length) : ResOk P (Instr.extract x i) ρ H w (vs.getD i .junk) H := by
  simp only [VRel] at ha
  obtain ⟨arr, rfl, h1, h2⟩ := ha
  rw [vsRel_iff] at h2
  obtain ⟨v, h3, h4⟩ := h2 i hi
  refine ResOk.pure hr (v := v) ?_ ?_
  · rw [List.getD_eq_getElem?_getD, List.getElem?_eq_getElem hi]; exact h4
  · simp [Instr.extract, h3]

theorem maxmin_ok (hr : HRel (nm ρ H w)) {isMax : Bool} {k : IntKind} {a b : Int} {x y : Value} (ha : VRel (nm ρ H w) (.int k a) x) (hb : VRel (nm ρ H w) (.int k b) y) (ts : Array TypeId) (t : TypeId) :
    ResOk P (if isMax then Builtin.max_ ts t #[x, y] else Builtin.min_ ts t #[x, y]) ρ H w (.int k (if isMax then (if b > a then b else a) else (if b < a then b else a))) H := by
  obtain rfl := inv_int ha
  obtain rfl := inv_int hb
  refine ResOk.pure hr (rel_int _ _ _) ?_
  cases isMax
  · simp [run_min_int2]
  · simp [run_max_int2]

theorem minGo_ok {ρ : Nat → Option Nat} {H : AHeap} {w : World} {k : IntKind} : ∀ (as : List AVal) (xs : List Value) (a : Int), xs.length = as.length → VsRel (nm ρ H w) as (fun i => xs[i]?) → ∀ {v : AVal}, minGo k a as = some v → ∃ n, v = .int k n ∧ (xs.foldlM Builtin.min2 (Value.int k a)).run P w = .ok (.int k n) w
  | [], [], a, _, _, v, h => by
    simp only [minGo, Option.some.injEq] at h
    subst h
    exact ⟨a, rfl, by simp⟩
  | b :: as, x :: xs, a, hl, hv, v, h => by
    have h0 := (vsRel_iff _ _ _).1 hv 0 (by simp)
    obtain ⟨y, hy, hr⟩ := h0
    simp only [List.getElem?_cons_zero, Option.some.injEq] at hy
    subst hy
    simp only [List.getElem_cons_zero] at hr
    cases b with
    | int k' b =>
      simp only [minGo] at h
      obtain rfl := inv_int hr
      have ht : VsRel (nm ρ H w) as (fun i => xs[i]?) := by
        rw [vsRel_iff]
        intro i hi
        obtain ⟨z, hz, hzr⟩ := (vsRel_iff _ _ _).1 hv (i + 1) (by simpa using hi)
        exact ⟨z, by simpa using hz, by simpa using hzr⟩
      obtain ⟨n, rfl, hn⟩ := minGo_ok as xs _ (by simpa using hl) ht h
      exact ⟨n, rfl, by simpa [Builtin.min2] using hn⟩
    | _ => simp [minGo] at h
  | [], _ :: _, _, h, _, _, _ => by simp at h
  | _ :: _, [], _, h, _, _, _ => by simp at h

theorem minN_ok (hr : HRel (nm ρ H w)) {as : List AVal} {xs : List Value} {v : AVal} (hl : xs.length = as.length) (hv : VsRel (nm ρ H w) as (fun i => xs[i]?)) (h : minA as = some v) (ts : Array TypeId) (t : TypeId) :
    ResOk P (Builtin.min_ ts t xs.toArray) ρ H w v H := by
  match as, xs, hl, hv, h with
  | [], _, _, _, h => simp [minA] at h
  | _ :: _, [], h, _, _ => simp at h
  | a :: as, x :: xs, hl, hv, h =>
    obtain ⟨y, hy, hra⟩ := (vsRel_iff _ _ _).1 hv 0 (by simp)
    simp only [List.getElem?_cons_zero, Option.some.injEq] at hy
    subst hy
    simp only [List.getElem_cons_zero] at hra
    cases a with
    | int k n =>
      simp only [minA] at h
      obtain rfl := inv_int hra
      have ht : VsRel (nm ρ H w) as (fun i => xs[i]?) := by
        rw [vsRel_iff]
        intro i hi
        obtain ⟨z, hz, hzr⟩ := (vsRel_iff _ _ _).1 hv (i + 1) (by simpa using hi)
        exact ⟨z, by simpa using hz, by simpa using hzr⟩
      obtain ⟨m, rfl, hm⟩ := minGo_ok (P := P) as xs n (by simpa using hl) ht h
      refine ResOk.pure hr (rel_int _ _ _) ?_
      simpa [Builtin.min_] using hm
    | _ => simp [minA] at h

/-! equality -/

theorem eqbool_ok (hr : HRel (nm ρ H w)) {neg : Bool} {t : TypeId} (ht : P.underlying t = some .bool) {X Y : Operand} {a b : Bool} {x y : Value} (ha : VRel (nm ρ H w) (.bool a) x) (hb : VRel (nm ρ H w) (.bool b) y) :
    ResOk P (do eqGuard (if neg then .neq else .eql) t X Y x y; binOp (if neg then .neq else .eql) t x y) ρ H w (.bool (if neg then !decide (a = b) else decide (a = b))) H := by
  obtain rfl := inv_bool ha
  obtain rfl := inv_bool hb
  refine ResOk.pure hr (rel_bool _ _) ?_
  cases neg
  · simp [eqGuard, run_eql_bool _ t a b ht]; cases a <;> cases b <;> rfl
  · simp [eqGuard, run_neq_bool _ t a b ht]; cases a <;> cases b <;> rfl

theorem guard_plain {op : BinOp} {t : TypeId} {X Y : Operand} {x y : Value} (h : (∀ a, x ≠ .agg a) ∧ x ≠ .nilIface) : (eqGuard op t X Y x y).run P w = .ok () w := by
  obtain ⟨h1, h2⟩ := h
  unfold eqGuard
  cases op <;> cases x <;> cases y <;> simp_all

theorem run_equalIn_ptr {d : Nat} {t el : TypeId} (ht : P.underlying t = some (.pointer el)) (p q : Option Addr) (h : p = none ∨ q = none) :
    (Op.equalIn (d + 1) t (.pointer p) (.pointer q)).run P w = .ok (p.isNone && q.isNone) w := by
  cases p <;> cases q <;> simp_all [Op.equalIn, run_underlying ht]

theorem run_equalIn_fn {d : Nat} {t : TypeId} {a b : Array TypeId} {c : Bool} (ht : P.underlying t = some (.func a b c)) (x y : Value) (p q : Bool)
    (hx : (x = .nilFunc ∧ p = true) ∨ (p = false ∧ ∃ f xs ys, x = .func f xs ys)) (hy : (y = .nilFunc ∧ q = true) ∨ (q = false ∧ ∃ f xs ys, y = .func f xs ys)) (h : p = true ∨ q = true) :
    (Op.equalIn (d + 1) t x y).run P w = .ok (p && q) w := by
  rcases hx with ⟨rfl, rfl⟩ | ⟨rfl, f, xs, ys, rfl⟩ <;> rcases hy with ⟨rfl, rfl⟩ | ⟨rfl, f', xs', ys', rfl⟩ <;> simp_all [Op.equalIn, run_underlying ht]

theorem run_equalIn_map {d : Nat} {t k el : TypeId} (ht : P.underlying t = some (.map k el)) (p q : Option Nat) (h : p = none ∨ q = none) :
    (Op.equalIn (d + 1) t (.map p) (.map q)).run P w = .ok (p.isNone && q.isNone) w := by
  cases p <;> cases q <;> simp_all [Op.equalIn, run_underlying ht]

/-- An equality that is asked of the value's own type. -/
theorem eq_by {neg : Bool} {t : TypeId} {X Y : Operand} {x y : Value} {r : Bool} (hr : HRel (nm ρ H w)) (hg : ∀ op, (eqGuard op t X Y x y).run P w = .ok () w)
    (hb : (binOp .eql t x y).run P w = ((Op.equal t x y).run P w).andThen (fun b w' => .ok (.bool b) w') ∧ (binOp .neq t x y).run P w = ((Op.equal t x y).run P w).andThen (fun b w' => .ok (.bool (!b)) w'))
    (h : (Op.equalIn (9999 + 1) t x y).run P w = .ok r w) :
    ResOk P (do eqGuard (if neg then .neq else .eql) t X Y x y; binOp (if neg then .neq else .eql) t x y) ρ H w (.bool (if neg then !r else r)) H := by
  refine ResOk.pure hr (rel_bool _ _) ?_
  have h' : (Op.equal t x y).run P w = .ok r w := h
  simp only [Sem.run_bind, hg, Result.andThen_ok]
  cases neg
  · simp only [Bool.false_eq_true, if_false, hb.1, h', Result.andThen_ok]
  · simp only [if_true, hb.2, h', Result.andThen_ok]

theorem bin_ptr {t : TypeId} (p q : Option Addr) : (binOp .eql t (.pointer p) (.pointer q)).run P w = ((Op.equal t (.pointer p) (.pointer q)).run P w).andThen (fun b w' => .ok (.bool b) w') ∧
    (binOp .neq t (.pointer p) (.pointer q)).run P w = ((Op.equal t (.pointer p) (.pointer q)).run P w).andThen (fun b w' => .ok (.bool (!b)) w') := by
  simp only [binOp]; exact ⟨by simp, by simp⟩

theorem eqptr_ok (hr : HRel (nm ρ H w)) {neg : Bool} {t el : TypeId} (ht : P.underlying t = some (.pointer el)) {X Y : Operand} {a b : AVal} {x y : Value} (ha : VRel (nm ρ H w) a x) (hb : VRel (nm ρ H w) b y) {r : Bool}
    (h : eqA .ptr a b = some r) : ResOk P (do eqGuard (if neg then .neq else .eql) t X Y x y; binOp (if neg then .neq else .eql) t x y) ρ H w (.bool (if neg then !r else r)) H := by
  have key : ∀ p q : Option Addr, x = .pointer p → y = .pointer q → (p = none ∨ q = none) → r = (p.isNone && q.isNone) → ResOk P (do eqGuard (if neg then .neq else .eql) t X Y x y; binOp (if neg then .neq else .eql) t x y) ρ H w (.bool (if neg then !r else r)) H := by
    rintro p q rfl rfl hpq rfl
    exact eq_by hr (fun op => guard_plain ⟨by simp, by simp⟩) (bin_ptr p q) (run_equalIn_ptr ht p q hpq)
  cases a <;> cases b <;> simp [eqA] at h <;> subst h
  · exact key none none (by simpa [VRel] using ha) (by simpa [VRel] using hb) (.inl rfl) rfl
  · simp only [VRel] at hb; obtain ⟨_, a, rfl, _⟩ := hb
    exact key none (some a) (by simpa [VRel] using ha) rfl (.inl rfl) rfl
  · simp only [VRel] at hb; obtain ⟨b, o, l, c, rfl, _⟩ := hb
    exact key none (some _) (by simpa [VRel] using ha) rfl (.inl rfl) rfl
  · simp only [VRel] at ha; obtain ⟨_, a, rfl, _⟩ := ha
    exact key (some a) none rfl (by simpa [VRel] using hb) (.inr rfl) rfl
  · simp only [VRel] at ha; obtain ⟨b, o, l, c, rfl, _⟩ := ha
    exact key (some _) none rfl (by simpa [VRel] using hb) (.inr rfl) rfl

theorem eqfn_ok (hr : HRel (nm ρ H w)) {neg : Bool} {t : TypeId} {A B : Array TypeId} {C : Bool} (ht : P.underlying t = some (.func A B C)) {X Y : Operand} {a b : AVal} {x y : Value} (ha : VRel (nm ρ H w) a x) (hb : VRel (nm ρ H w) b y) {r : Bool}
    (h : eqA .func a b = some r) : ResOk P (do eqGuard (if neg then .neq else .eql) t X Y x y; binOp (if neg then .neq else .eql) t x y) ρ H w (.bool (if neg then !r else r)) H := by
  have key : ∀ p q : Bool, ((x = .nilFunc ∧ p = true) ∨ (p = false ∧ ∃ f xs ys, x = .func f xs ys)) → ((y = .nilFunc ∧ q = true) ∨ (q = false ∧ ∃ f xs ys, y = .func f xs ys)) → (p = true ∨ q = true) → r = (p && q) →
      ResOk P (do eqGuard (if neg then .neq else .eql) t X Y x y; binOp (if neg then .neq else .eql) t x y) ρ H w (.bool (if neg then !r else r)) H := by
    rintro p q hx hy hpq rfl
    have hx' : (∀ q, x ≠ .agg q) ∧ x ≠ .nilIface := by rcases hx with ⟨rfl, _⟩ | ⟨_, f, xs, ys, rfl⟩ <;> simp
    refine eq_by hr (fun op => guard_plain hx') ?_ (run_equalIn_fn ht x y _ _ hx hy hpq)
    rcases hx with ⟨rfl, _⟩ | ⟨_, f, xs, ys, rfl⟩ <;> rcases hy with ⟨rfl, _⟩ | ⟨_, f', xs', ys', rfl⟩ <;> (simp only [binOp]; exact ⟨by simp, by simp⟩)
  have l1 : ∀ {v}, VRel (nm ρ H w) .nilf v → v = .nilFunc := fun h => by simpa [VRel] using h
  have l2 : ∀ {f p q v}, VRel (nm ρ H w) (.fn f p q) v → ∃ f xs ys, v = .func f xs ys := fun h => by simp only [VRel] at h; obtain ⟨xs, ys, rfl, _⟩ := h; exact ⟨_, _, _, rfl⟩
  have l3 : ∀ {n v}, VRel (nm ρ H w) (.yld n) v → ∃ f xs ys, v = .func f xs ys := fun h => by simp only [VRel] at h; obtain ⟨_, l, rfl, _⟩ := h; exact ⟨_, _, _, rfl⟩
  cases a <;> cases b <;> simp [eqA] at h <;> subst h
  · exact key true true (.inl ⟨l1 ha, rfl⟩) (.inl ⟨l1 hb, rfl⟩) (.inl rfl) rfl
  · exact key true false (.inl ⟨l1 ha, rfl⟩) (.inr ⟨rfl, l2 hb⟩) (.inl rfl) rfl
  · exact key true false (.inl ⟨l1 ha, rfl⟩) (.inr ⟨rfl, l3 hb⟩) (.inl rfl) rfl
  · exact key false true (.inr ⟨rfl, l2 ha⟩) (.inl ⟨l1 hb, rfl⟩) (.inr rfl) rfl
  · exact key false true (.inr ⟨rfl, l3 ha⟩) (.inl ⟨l1 hb, rfl⟩) (.inr rfl) rfl

theorem eqmap_ok (hr : HRel (nm ρ H w)) {neg : Bool} {t k el : TypeId} (ht : P.underlying t = some (.map k el)) {X Y : Operand} {a b : AVal} {x y : Value} (ha : VRel (nm ρ H w) a x) (hb : VRel (nm ρ H w) b y) {r : Bool}
    (h : eqA .map a b = some r) : ResOk P (do eqGuard (if neg then .neq else .eql) t X Y x y; binOp (if neg then .neq else .eql) t x y) ρ H w (.bool (if neg then !r else r)) H := by
  have key : ∀ p q : Option Nat, x = .map p → y = .map q → (p = none ∨ q = none) → r = (p.isNone && q.isNone) →
      ResOk P (do eqGuard (if neg then .neq else .eql) t X Y x y; binOp (if neg then .neq else .eql) t x y) ρ H w (.bool (if neg then !r else r)) H := by
    rintro p q rfl rfl hpq rfl
    refine eq_by hr (fun op => guard_plain ⟨by simp, by simp⟩) ?_ (run_equalIn_map ht p q hpq)
    simp only [binOp]; exact ⟨by simp, by simp⟩
  cases a <;> cases b <;> simp [eqA] at h <;> subst h
  · exact key none none (by simpa [VRel] using ha) (by simpa [VRel] using hb) (.inl rfl) rfl
  · simp only [VRel] at hb; obtain ⟨_, b, rfl, _⟩ := hb
    exact key none (some b) (by simpa [VRel] using ha) rfl (.inl rfl) rfl
  · simp only [VRel] at ha; obtain ⟨_, a, rfl, _⟩ := ha
    exact key (some a) none rfl (by simpa [VRel] using hb) (.inr rfl) rfl

theorem run_equalIn_slice {d : Nat} {t el : TypeId} (ht : P.underlying t = some (.slice el)) (p q : Option Addr) (a b a' b' : Nat) (h : p = none ∨ q = none) :
    (Op.equalIn (d + 1) t (.slice p a b) (.slice q a' b')).run P w = .ok (p.isNone && q.isNone) w := by
  cases p <;> cases q <;> simp_all [Op.equalIn, run_underlying ht]

theorem eqslice_ok (hr : HRel (nm ρ H w)) {neg : Bool} {t el : TypeId} (ht : P.underlying t = some (.slice el)) {X Y : Operand} {a b : AVal} {x y : Value} (ha : VRel (nm ρ H w) a x) (hb : VRel (nm ρ H w) b y) {r : Bool}
    (h : eqA .slice a b = some r) : ResOk P (do eqGuard (if neg then .neq else .eql) t X Y x y; binOp (if neg then .neq else .eql) t x y) ρ H w (.bool (if neg then !r else r)) H := by
  have key : ∀ (p q : Option Addr) (i j i' j' : Nat), x = .slice p i j → y = .slice q i' j' → (p = none ∨ q = none) → r = (p.isNone && q.isNone) →
      ResOk P (do eqGuard (if neg then .neq else .eql) t X Y x y; binOp (if neg then .neq else .eql) t x y) ρ H w (.bool (if neg then !r else r)) H := by
    rintro p q i j i' j' rfl rfl hpq rfl
    refine eq_by hr (fun op => guard_plain ⟨by simp, by simp⟩) ?_ (run_equalIn_slice ht p q i j i' j' hpq)
    simp only [binOp]; exact ⟨by simp, by simp⟩
  cases a <;> cases b <;> simp [eqA] at h <;> subst h
  · exact key none none _ _ _ _ (by simpa [VRel] using ha) (by simpa [VRel] using hb) (.inl rfl) rfl

/-! equality of structs of numbers, bools and strings -/

/-- What a type is, if it is a number, a bool or a string. -/
def leafOf (P : Program) (t : TypeId) : Option Leaf :=
  match P.underlying t with
  | some .bool => some .bool
  | some (.int _) => some .int
  | some .string => some .str
  | _ => none

mutual
/-- The cells of a type, if it is made of such parts one behind the other. -/
def plainT (P : Program) : Nat → TypeId → Option (List Leaf)
  | 0, _ => none
  | d + 1, t =>
    match leafOf P t with
    | some k => if (P.info? t).map (·.size) = some 1 then some [k] else none
    | none =>
      if P.eqGuardType P.depth t then none else
      match P.underlying t with
      | some (.struct fs) => if P.stoodInHeld t then none else plainFs P d 0 fs.toList
      | some (.array n el) => match plainT P d el with
        | some k => if (P.info? el).map (·.size) = some k.length ∧ 0 < k.length then some (List.replicate n k).flatten else none
        | none => none
      | _ => none
def plainFs (P : Program) : Nat → Nat → List Field → Option (List Leaf)
  | 0, _, _ => none
  | d + 1, off, [] => some []
  | d + 1, off, f :: fs =>
    if f.name = "_" ∨ f.offset ≠ off then none else
    match plainT P d f.type with
    | some k => if (P.info? f.type).map (·.size) = some k.length ∧ 0 < k.length then (match plainFs P d (off + k.length) fs with
      | some ks => some (k ++ ks)
      | none => none) else none
    | none => none
end

theorem eqCells_split {ks ls : List Leaf} {as bs : List AVal} {r : Bool} (h : eqCells (ks ++ ls) as bs = some r) :
    ∃ x y, eqCells ks (as.take ks.length) (bs.take ks.length) = some x ∧ eqCells ls (as.drop ks.length) (bs.drop ks.length) = some y ∧ r = (x && y) := by
  induction ks generalizing as bs r with
  | nil => exact ⟨true, r, by simp [eqCells], by simpa using h, by simp⟩
  | cons k ks ih =>
    cases as with
    | nil => cases bs <;> simp [eqCells] at h
    | cons a as =>
      cases bs with
      | nil => simp [eqCells] at h
      | cons b bs =>
        simp only [List.cons_append, eqCells] at h
        cases h1 : eqCell k a b with
        | none => simp [h1] at h
        | some x =>
          cases h2 : eqCells (ks ++ ls) as bs with
          | none => simp [h1, h2] at h
          | some y =>
            obtain ⟨x', y', g1, g2, g3⟩ := ih h2
            simp [h1, h2] at h
            refine ⟨x && x', y', ?_, by simpa using g2, by rw [← h, g3, Bool.and_assoc]⟩
            simp [eqCells, h1, g1]

theorem eqCells_len {ks : List Leaf} {as bs : List AVal} {r : Bool} (h : eqCells ks as bs = some r) : as.length = ks.length ∧ bs.length = ks.length := by
  induction ks generalizing as bs r with
  | nil => cases as <;> cases bs <;> simp [eqCells] at h ⊢
  | cons k ks ih =>
    cases as with
    | nil => cases bs <;> simp [eqCells] at h
    | cons a as =>
      cases bs with
      | nil => simp [eqCells] at h
      | cons b bs =>
        simp only [eqCells] at h
        cases h1 : eqCell k a b with
        | none => simp [h1] at h
        | some x =>
          cases h2 : eqCells ks as bs with
          | none => simp [h1, h2] at h
          | some y => have := ih h2; simp; omega

/-- The value of a type, by its cells. -/
def ValOf (P : Program) (e : Nm) (t : TypeId) (v : Value) (cs : List AVal) : Prop :=
  if aggT P t = true then ∃ arr : Array Value, v = .agg arr ∧ VsRel e cs (fun i => arr[i]?) else ∃ c, cs = [c] ∧ VRel e c v

theorem part_ok {e : Nm} {t : TypeId} {i : TypeInfo} {d : TypeDesc} (hd : P.underlying t = some d) (hi : P.info? t = some i) {xs : Array Value} {off : Nat} {cs : List AVal}
    (h : VsRel e cs (fun j => xs[off + j]?)) (hn : i.size ≤ cs.length) (h1 : aggT P t = false → i.size = 1) (hz : 0 < i.size) :
    ∃ v, (part t xs off).run P w = .ok v w ∧ ValOf P e t v (cs.take i.size) := by
  unfold part ValOf
  by_cases ha : aggT P t = true
  · refine ⟨.agg (xs.extract off (off + i.size)), by simp [run_isAgg hd, ha, run_sizeOf hi], ?_⟩
    rw [if_pos ha]
    have hlen : off + i.size ≤ xs.size := by
      rw [vsRel_iff] at h
      obtain ⟨v, hv, _⟩ := h (i.size - 1) (by omega)
      have := lt_of_some hv
      omega
    refine ⟨_, rfl, ?_⟩
    refine (h.take i.size).congr fun j hj => ?_
    simp at hj
    rw [Array.getElem?_extract]
    rw [if_pos (by omega)]
  · have hs := h1 (by simpa using ha)
    rw [vsRel_iff] at h
    obtain ⟨v, hv, hr⟩ := h 0 (by omega)
    refine ⟨v, ?_, ?_⟩
    · simp only [Nat.add_zero] at hv
      simp [run_isAgg hd, ha, hv]
    · rw [if_neg ha]
      refine ⟨cs[0], ?_, hr⟩
      rw [hs]
      cases cs with
      | nil => simp at hn; omega
      | cons c cs => rfl

theorem leaf_agg {t : TypeId} {k : Leaf} (h : leafOf P t = some k) : aggT P t = false := by
  unfold leafOf at h; unfold aggT
  cases hd : P.underlying t with
  | none => rfl
  | some d => cases d <;> simp_all

theorem leaf_eq {e : Nm} {D : Nat} {t : TypeId} {k : Leaf} (h : leafOf P t = some k) {x y : Value} {a b : AVal} (ha : VRel e a x) (hb : VRel e b y) {r : Bool} (hr : eqCell k a b = some r) :
    (Op.equalIn (D + 1) t x y).run P w = .ok r w := by
  unfold leafOf at h
  cases hd : P.underlying t with
  | none => simp [hd] at h
  | some d =>
    cases d <;> simp [hd] at h <;> subst h <;> cases a <;> cases b <;> simp [eqCell] at hr
    · obtain rfl := inv_bool ha; obtain rfl := inv_bool hb
      subst hr
      rename_i p q
      rw [run_equalIn_bool _ _ _ _ _ hd]; cases p <;> cases q <;> rfl
    · obtain rfl := inv_int ha; obtain rfl := inv_int hb
      obtain ⟨rfl, rfl⟩ := hr
      rw [run_equalIn_int w D t _ _ _ _ hd]; rfl
    · obtain rfl := inv_str ha; obtain rfl := inv_str hb
      subst hr
      rw [run_equalIn_string _ _ _ _ _ hd, bytes_beq]

theorem run_equalIn_arr (D : Nat) (t el : TypeId) (n : Nat) (xs ys : Array Value) (i : TypeInfo) (ht : P.underlying t = some (.array n el)) (hi : P.info? el = some i) (r : List Bool) (hn : r.length = n)
    (h : ∀ j, j < n → ∃ x y, (part el xs (j * i.size)).run P w = .ok x w ∧ (part el ys (j * i.size)).run P w = .ok y w ∧ (Op.equalIn D el x y).run P w = .ok (r.getD j true) w) :
    (Op.equalIn (D + 1) t (.agg xs) (.agg ys)).run P w = .ok (r.all id) w := by
  simp only [Op.equalIn, Sem.run_bind, run_underlying ht, Result.andThen_ok, run_sizeOf hi, Std.Legacy.Range.forIn_eq_forIn_range', Std.Legacy.Range.size, Nat.sub_zero, Nat.add_sub_cancel, Nat.div_one]
  have h' : ∀ j (hj : j < (List.range' 0 n).length), ∃ x y, (part el xs ((List.range' 0 n)[j] * i.size)).run P w = .ok x w ∧ (part el ys ((List.range' 0 n)[j] * i.size)).run P w = .ok y w ∧ (Op.equalIn D el x y).run P w = .ok (r.getD j true) w := by
    intro j hj
    simp at hj
    simpa using h j hj
  have hn' : r.length = (List.range' 0 n).length := by simpa using hn
  clear h hn ht
  generalize List.range' 0 n = l at h' hn'
  induction l generalizing r with
  | nil =>
    cases r with
    | nil => simp
    | cons _ _ => simp at hn'
  | cons k l ih =>
    cases r with
    | nil => simp at hn'
    | cons b rs =>
      obtain ⟨x, y, h1, h2, h3⟩ := h' 0 (by simp)
      simp only [List.getElem_cons_zero, List.getD_cons_zero] at h1 h2 h3
      simp only [List.forIn_cons, Sem.run_bind, h1, h2, h3, Result.andThen_ok, Sem.run_ite]
      cases b
      · simp
      · have := ih rs (fun j hj => by
          obtain ⟨x, y, g1, g2, g3⟩ := h' (j + 1) (by simpa using hj)
          exact ⟨x, y, by simpa using g1, by simpa using g2, by simpa using g3⟩) (by simpa using hn')
        simp only [Bool.not_true, Bool.false_eq_true, if_false, Sem.run_pure, Result.andThen_ok, List.all_cons, id, Bool.true_and]
        exact this

theorem eqCells_rep {k : List Leaf} (n : Nat) {as bs : List AVal} {r : Bool} (h : eqCells (List.replicate n k).flatten as bs = some r) :
    ∃ rs : List Bool, rs.length = n ∧ r = rs.all id ∧ ∀ j, j < n → eqCells k ((as.drop (j * k.length)).take k.length) ((bs.drop (j * k.length)).take k.length) = some (rs.getD j true) := by
  induction n generalizing as bs r with
  | zero =>
    cases as <;> cases bs <;> simp [eqCells] at h
    exact ⟨[], rfl, by simp [h], by simp⟩
  | succ n ih =>
    simp only [List.replicate_succ, List.flatten_cons] at h
    obtain ⟨x, y, h1, h2, h3⟩ := eqCells_split h
    obtain ⟨rs, g1, g2, g3⟩ := ih h2
    refine ⟨x :: rs, by simp [g1], by simp [h3, g2], fun j hj => ?_⟩
    cases j with
    | zero => simpa using h1
    | succ j =>
      have := g3 j (by omega)
      simp only [List.drop_drop] at this
      rw [show (j + 1) * k.length = k.length + j * k.length from by rw [Nat.add_mul]; omega]
      simpa using this

theorem plain_ok (hx : (nm ρ H w) = (nm ρ H w)) : ∀ d,
    (∀ t ks D, plainT P d t = some ks → d ≤ D → ∀ x y as bs r, ValOf P (nm ρ H w) t x as → ValOf P (nm ρ H w) t y bs → eqCells ks as bs = some r → (Op.equalIn D t x y).run P w = .ok r w) ∧
    (∀ fs off ks D, plainFs P d off fs = some ks → d ≤ D → ∀ xs ys as bs r, VsRel (nm ρ H w) as (fun i => xs[off + i]?) → VsRel (nm ρ H w) bs (fun i => ys[off + i]?) → eqCells ks as bs = some r →
      (Op.eqFields D xs ys fs).run P w = .ok r w) := by
  intro d
  induction d with
  | zero => exact ⟨fun t ks D h => by simp [plainT] at h, fun fs off ks D h => by simp [plainFs] at h⟩
  | succ d ih =>
    obtain ⟨ihT, ihF⟩ := ih
    refine ⟨?_, ?_⟩
    · intro t ks D h hD x y as bs r hx hy hr
      obtain ⟨D, rfl⟩ : ∃ D', D = D' + 1 := ⟨D - 1, by omega⟩
      unfold plainT at h
      cases hl : leafOf P t with
      | some k =>
        simp only [hl] at h
        split at h
        · cases h
          have hg := leaf_agg hl
          unfold ValOf at hx hy
          rw [if_neg (by simp [hg])] at hx hy
          obtain ⟨a, rfl, ha⟩ := hx
          obtain ⟨b, rfl, hb⟩ := hy
          simp only [eqCells] at hr
          cases hc : eqCell k a b with
          | none => simp [hc] at hr
          | some z =>
            simp [hc] at hr
            subst hr
            exact leaf_eq hl ha hb hc
        · cases h
      | none =>
        simp only [hl] at h
        split at h
        · cases h
        · cases hd : P.underlying t with
          | none => simp [hd] at h
          | some ds =>
            cases ds <;> simp only [hd] at h <;> first | (cases h; done) | skip
            · -- array
              rename_i n el
              cases hk : plainT P d el with
              | none => simp [hk] at h
              | some k =>
                simp only [hk] at h
                split at h
                · rename_i hsz
                  cases h
                  have hg : aggT P t = true := by unfold aggT; rw [hd]
                  unfold ValOf at hx hy
                  rw [if_pos hg] at hx hy
                  obtain ⟨xs, rfl, hxs⟩ := hx
                  obtain ⟨ys, rfl, hys⟩ := hy
                  obtain ⟨rs, g1, g2, g3⟩ := eqCells_rep n hr
                  obtain ⟨hl1, hl2⟩ := eqCells_len hr
                  simp at hl1 hl2
                  cases hi : P.info? el with
                  | none => simp [hi] at hsz
                  | some i =>
                    simp [hi] at hsz
                    obtain ⟨hsz, hpos⟩ := hsz
                    have hu : ∃ de, P.underlying el = some de := by
                      cases d with
                      | zero => simp [plainT] at hk
                      | succ d =>
                        cases hu : P.underlying el with
                        | none => simp [plainT, leafOf, hu] at hk
                        | some de => exact ⟨de, rfl⟩
                    obtain ⟨de, hu⟩ := hu
                    have h1 : aggT P el = false → i.size = 1 := by
                      intro hag
                      cases d with
                      | zero => simp [plainT] at hk
                      | succ d =>
                        unfold plainT at hk
                        cases hle : leafOf P el with
                        | some kk => simp [hle] at hk; rw [hsz, ← hk.2]; rfl
                        | none =>
                          simp only [hle] at hk
                          split at hk
                          · cases hk
                          · cases de <;> simp [hu] at hk <;> simp [aggT, hu] at hag
                    rw [g2]
                    refine run_equalIn_arr D t el n xs ys i hd hi rs g1 fun j hj => ?_
                    have hb : j * i.size + i.size ≤ n * k.length := by
                      rw [hsz]
                      calc j * k.length + k.length = (j + 1) * k.length := by rw [Nat.add_mul]; omega
                        _ ≤ n * k.length := Nat.mul_le_mul_right _ (by omega)
                    obtain ⟨vx, p1, p2⟩ := part_ok (P := P) (w := w) hu hi (hxs.drop (j * i.size)) (by simp; omega) h1 (by omega)
                    obtain ⟨vy, q1, q2⟩ := part_ok (P := P) (w := w) hu hi (hys.drop (j * i.size)) (by simp; omega) h1 (by omega)
                    refine ⟨vx, vy, p1, q1, ihT el k D hk (by omega) vx vy _ _ _ p2 q2 ?_⟩
                    rw [hsz]; exact g3 j hj
                · cases h
            · -- struct
              rename_i fs
              split at h
              · cases h
              · rename_i hst
                have hg : aggT P t = true := by unfold aggT; rw [hd]
                unfold ValOf at hx hy
                rw [if_pos hg] at hx hy
                obtain ⟨xs, rfl, hxs⟩ := hx
                obtain ⟨ys, rfl, hys⟩ := hy
                have hfo : P.fieldsOf t = fs := by unfold Program.fieldsOf; rw [hd]
                rw [run_equalIn_struct w D t xs ys (by rw [hfo]; exact hd) (by simpa using hst), hfo]
                exact ihF fs.toList 0 ks D h (by omega) xs ys as bs r (hxs.congr fun i _ => by simp) (hys.congr fun i _ => by simp) hr
    · intro fs off ks D h hD xs ys as bs r hxs hys hr
      cases fs with
      | nil =>
        simp only [plainFs, Option.some.injEq] at h
        subst h
        cases as <;> cases bs <;> simp [eqCells] at hr
        subst hr
        simp [Op.eqFields]
      | cons f fs =>
        simp only [plainFs] at h
        split at h
        · cases h
        · rename_i hf
          have hf1 : f.name ≠ "_" := fun hh => hf (.inl hh)
          have hf2 : f.offset = off := by
            by_cases hh : f.offset = off
            · exact hh
            · exact absurd (.inr hh) hf
          cases hk : plainT P d f.type with
          | none => simp [hk] at h
          | some k =>
            simp only [hk] at h
            split at h
            · rename_i hsz
              cases hks : plainFs P d (off + k.length) fs with
              | none => simp [hks] at h
              | some ks' =>
                simp [hks] at h
                subst h
                cases hi : P.info? f.type with
                | none => simp [hi] at hsz
                | some i =>
                  simp [hi] at hsz
                  obtain ⟨hsz, hpos⟩ := hsz
                  have hu : ∃ de, P.underlying f.type = some de := by
                    cases d with
                    | zero => simp [plainT] at hk
                    | succ d =>
                      cases hu : P.underlying f.type with
                      | none => simp [plainT, leafOf, hu] at hk
                      | some de => exact ⟨de, rfl⟩
                  obtain ⟨de, hu⟩ := hu
                  have h1 : aggT P f.type = false → i.size = 1 := by
                    intro hag
                    cases d with
                    | zero => simp [plainT] at hk
                    | succ d =>
                      unfold plainT at hk
                      cases hle : leafOf P f.type with
                      | some kk => simp [hle] at hk; rw [hsz, ← hk.2]; rfl
                      | none =>
                        simp only [hle] at hk
                        split at hk
                        · cases hk
                        · cases de <;> simp [hu] at hk <;> simp [aggT, hu] at hag
                  obtain ⟨z1, z2, e1, e2, e3⟩ := eqCells_split hr
                  obtain ⟨hl1, hl2⟩ := eqCells_len hr
                  simp at hl1 hl2
                  obtain ⟨vx, p1, p2⟩ := part_ok (P := P) (w := w) hu hi hxs (by omega) h1 (by omega)
                  obtain ⟨vy, q1, q2⟩ := part_ok (P := P) (w := w) hu hi hys (by omega) h1 (by omega)
                  rw [hsz] at p2 q2
                  have hh := ihT f.type k D hk (by omega) vx vy _ _ _ p2 q2 e1
                  simp only [Op.eqFields, hf1, ne_eq, not_false_eq_true, if_true, Sem.run_bind, hf2, p1, q1, hh, Result.andThen_ok, Sem.run_ite]
                  subst e3
                  cases z1
                  · simp
                  · simp only [Bool.not_true, Bool.false_eq_true, if_false, Bool.true_and]
                    refine ihF fs (off + k.length) ks' D hks (by omega) xs ys _ _ _ ?_ ?_ e2
                    · exact (hxs.drop k.length).congr fun i _ => by rw [Nat.add_assoc]
                    · exact (hys.drop k.length).congr fun i _ => by rw [Nat.add_assoc]
            · cases h

theorem eqcells_ok (hr : HRel (nm ρ H w)) {neg : Bool} {t : TypeId} {ks : List Leaf} (hk : plainT P 50 t = some ks) (hg : aggT P t = true) {X Y : Operand} {as bs : List AVal} {x y : Value}
    (ha : VRel (nm ρ H w) (.agg as) x) (hb : VRel (nm ρ H w) (.agg bs) y) {r : Bool} (h : eqCells ks as bs = some r) :
    ResOk P (do eqGuard (if neg then .neq else .eql) t X Y x y; binOp (if neg then .neq else .eql) t x y) ρ H w (.bool (if neg then !r else r)) H := by
  have hge : P.eqGuardType P.depth t = false := by
    unfold plainT at hk
    cases hl : leafOf P t with
    | some k => rw [leaf_agg hl] at hg; cases hg
    | none =>
      simp only [hl] at hk
      split at hk
      · cases hk
      · rename_i hh; simpa using hh
  have hx : ValOf P (nm ρ H w) t x as := by
    unfold ValOf; rw [if_pos hg]; simp only [VRel] at ha; obtain ⟨arr, h1, _, h2⟩ := ha; exact ⟨arr, h1, h2⟩
  have hy : ValOf P (nm ρ H w) t y bs := by
    unfold ValOf; rw [if_pos hg]; simp only [VRel] at hb; obtain ⟨arr, h1, _, h2⟩ := hb; exact ⟨arr, h1, h2⟩
  have hh := (plain_ok (P := P) (ρ := ρ) (H := H) (w := w) rfl 50).1 t ks 10000 hk (by omega) x y as bs r hx hy h
  simp only [VRel] at ha hb
  obtain ⟨xs, rfl, _, _⟩ := ha
  obtain ⟨ys, rfl, _, _⟩ := hb
  refine ResOk.pure hr (rel_bool _ _) ?_
  cases neg
  · simp only [Bool.false_eq_true, if_false, Sem.run_bind, run_eqGuard_agg w .eql t X Y xs ys hge, Result.andThen_ok, run_eql_struct, hh]
  · simp only [if_true, Sem.run_bind, run_eqGuard_agg w .neq t X Y xs ys hge, Result.andThen_ok, run_neq_struct, hh]

end
end Go.Am
