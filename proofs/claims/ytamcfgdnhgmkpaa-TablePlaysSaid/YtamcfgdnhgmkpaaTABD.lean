/-
  Lemmas on the way to the statements of this seat. By an AI agent. No person has read it.
-/
import Derived.Test.YtamcfgdnhgmkpaaTABC
set_option linter.unusedSimpArgs false
set_option linter.unusedVariables false

namespace Go.Proofs.Ytamcfgdnhgmkpaa
open Go Go.Am
set_option linter.unusedSimpArgs false
set_option linter.unusedVariables false

/-- How many steps lead from one to another one. -/
def wy (a b : Nat) : Nat := (b + 4294967296 - a) % 4294967296
def aft (a b : Nat) : Bool := decide (1 ≤ wy b a ∧ wy b a < 2147483648)

theorem wy_lt (a b : Nat) : wy a b < 4294967296 := Nat.mod_lt _ (by omega)

/-- The way, with a sign. -/
def dif (a b : Nat) : Int := if wy b a < 2147483648 then wy b a else (wy b a : Int) - 4294967296

theorem sdiff_ok (H : AHeap) (a b : Nat) (ha : a < 4294967296) (hb : b < 4294967296) (Q : AVal → AHeap → Prop) (h : Q (.int .i64 (dif a b)) H) : FunOK Try.prog F.serial_Diff [.int .u32 a, .int .u32 b] H Q := by
  refine fun_V 40 serial_Diff_code rfl ?_
  have e : IntKind.u32.wrap ((a : Int) - b) = (wy b a : Nat) := by
    rw [wrap_u32']; unfold wy; omega
  have hl := wy_lt b a
  have e2 : IntKind.i32.wrap (wy b a : Nat) = dif a b := by
    unfold dif
    simp only [IntKind.wrap, IntKind.bits, IntKind.signed, Bool.true_and, decide_eq_true_eq, ge_iff_le]
    by_cases hh : wy b a < 2147483648
    · rw [if_neg (by omega), if_pos hh]; omega
    · rw [if_pos (by omega), if_neg hh]; omega
  have hr : -2147483648 ≤ dif a b ∧ dif a b < 2147483648 := by unfold dif; split <;> omega
  simp (disch := first | omega | (simp only [lnx]; omega)) only [stdh, stdx, ↓reduceIte, seval, serial_Diff, serial_Diff.body, e, e2]
  exact h

theorem saft_ok (H : AHeap) (a b : Nat) (ha : a < 4294967296) (hb : b < 4294967296) (Q : AVal → AHeap → Prop) (h : Q (.bool (aft a b)) H) : FunOK Try.prog F.serial_After [.int .u32 a, .int .u32 b] H Q := by
  refine fun_V 40 serial_After_code rfl ?_
  simp (disch := first | omega | (simp only [lnx]; omega)) only [stdh, stdx, ↓reduceIte, seval, serial_After, serial_After.body]
  refine callK_fn (sdiff_ok _ _ _ ha hb _ ?_)
  refine runL_V 40 ?_
  have hl := wy_lt b a
  have e : decide (0 < dif a b) = aft a b := by
    unfold dif aft
    rw [decide_eq_decide]
    split <;> omega
  simp (disch := first | omega | (simp only [lnx]; omega)) only [stdh, stdx, ↓reduceIte, seval, e]
  exact h

/-- The same, of numbers among the whole ones. -/
def aftI (a b : Int) : Bool := aft a.toNat b.toNat
def is32 (a : Int) : Prop := 0 ≤ a ∧ a < 4294967296
theorem aftI_ok (H : AHeap) {a b : Int} (ha : is32 a) (hb : is32 b) (Q : AVal → AHeap → Prop) (h : Q (.bool (aftI a b)) H) : FunOK Try.prog F.serial_After [.int .u32 a, .int .u32 b] H Q := by
  obtain ⟨n, rfl⟩ := Int.eq_ofNat_of_zero_le ha.1
  obtain ⟨m, rfl⟩ := Int.eq_ofNat_of_zero_le hb.1
  exact saft_ok H n m (by have := ha.2; omega) (by have := hb.2; omega) Q (by simpa [aftI] using h)
theorem oldest1_ok (H : AHeap) {a b : Int} (ha : is32 a) (hb : is32 b) (Q : AVal → AHeap → Prop) (h : Q (.bool (aftI b a)) H) : FunOK Try.prog F.serial_Oldest_1 [.int .u32 a, .int .u32 b] H Q := by
  refine fun_V 40 serial_Oldest_1_code rfl ?_
  simp (disch := first | omega | (simp only [lnx]; omega)) only [stdh, stdx, ↓reduceIte, seval, serial_Oldest_1, serial_Oldest_1.body]
  refine callK_fn (aftI_ok _ hb ha _ ?_)
  refine runL_V 40 ?_
  simp (disch := first | omega | (simp only [lnx]; omega)) only [stdh, stdx, ↓reduceIte, seval]
  exact h

def oldTo (qs : List Int) : Nat → Int
  | 0 => qs.getD 0 0
  | j + 1 => if aftI (oldTo qs j) (qs.getD (j + 1) 0) = true then qs.getD (j + 1) 0 else oldTo qs j
def oldest (qs : List Int) : Int := oldTo qs (qs.length - 1)
theorem oldTo_mem {qs : List Int} : ∀ {j : Nat}, j < qs.length → oldTo qs j ∈ qs
  | 0, h => by
    rw [oldTo, List.getD_eq_getElem?_getD, List.getElem?_eq_getElem h]
    exact List.getElem_mem h
  | j + 1, h => by
    rw [oldTo]
    split
    · rw [List.getD_eq_getElem?_getD, List.getElem?_eq_getElem h]
      exact List.getElem_mem h
    · exact oldTo_mem (by omega)
theorem oldest_mem {qs : List Int} (h : qs ≠ []) : oldest qs ∈ qs := oldTo_mem (by have := List.length_pos_iff.2 h; omega)
end Go.Proofs.Ytamcfgdnhgmkpaa

namespace Go.Am
open Go
set_option linter.unusedVariables false

/-! Deleting from a map, evaluated. -/
def mapdelB (H : AHeap) (n : Nat) (kk : Leaf) (k : AVal) : Option ABlk → Res
  | some (.map es) => .ok (kindA kk k = true ∧ keyOk k es) (.tup []) (H.set n (.map (del k es)))
  | _ => .bad
def mapdelR (H : AHeap) (kk : Leaf) (k : AVal) : AVal → Res
  | .mapv n => mapdelB H n kk k H[n]?
  | _ => .bad
theorem goK_mapdel (P : Program) (c : Ctx) (Q : AVal → AHeap → Prop) (T : List AItem) (K : Mode → Prop) (dst : Option Nat) (g : Option (Nat × Bool)) (os : List AOper) (live : List Nat) (k : List AItem) (r : Regs) (H : AHeap) (kk : Leaf) (x1 x2 : AOpd) : GoK P c Q T K (some true) ⟨dst, (.mapdel kk x1 x2), g⟩ os live k r H = ResK K (evalOp (geto r) H (.mapdel kk x1 x2)) dst os live k r := rfl
theorem isEff_mapdel (kk : Leaf) (x1 x2 : AOpd) : isEff (.mapdel kk x1 x2) = true := rfl
theorem isPure_mapdel (kk : Leaf) (x1 x2 : AOpd) : isPure (.mapdel kk x1 x2) = false := rfl
theorem evalOp_mapdel (g : AOpd → AVal) (H : AHeap) (kk : Leaf) (x1 x2 : AOpd) : evalOp g H (.mapdel kk x1 x2) = mapdelR H kk (g x2) (g x1) := by
  show (match g x1 with | .mapv n => (match H[n]? with | some (.map es) => Res.ok (kindA kk (g x2) = true ∧ keyOk (g x2) es) (.tup []) (H.set n (.map (del (g x2) es))) | _ => .bad) | _ => .bad) = _
  cases h : g x1 with
  | mapv n =>
    simp only [mapdelR]
    cases h2 : H[n]? with
    | none => rfl
    | some b => cases b <;> rfl
  | _ => rfl
theorem mapdelR_mapv (H : AHeap) (kk : Leaf) (k : AVal) (n : Nat) : mapdelR H kk k (.mapv n) = mapdelB H n kk k H[n]? := rfl
theorem mapdelB_map (H : AHeap) (kk : Leaf) (k : AVal) (n : Nat) (es : List (AVal × AVal)) : mapdelB H n kk k (some (.map es)) = .ok (kindA kk k = true ∧ keyOk k es) (.tup []) (H.set n (.map (del k es))) := rfl
end Go.Am
namespace Go.Proofs.Ytamcfgdnhgmkpaa
open Go Go.Am
set_option linter.unusedSimpArgs false
set_option linter.unusedVariables false

/-! A table. -/

structure Sl where
  s : Nat
  m : Nat
  h : Hd
  fs : List Fr
def entT (x : Sl) : AVal × AVal := (.int .u32 x.h.s, .ptr x.s 0)
def seqV (sl : List Sl) : List AVal := (sl.map fun x => x.h.s).map (AVal.int .u32)
def slF (sl : List Sl) : List Nat := sl.flatMap fun x => [x.s, x.m]
def tabF (P M : Nat) (ord : AVal) (sl : List Sl) : List Nat := P :: M :: (ord.names ++ slF sl)

theorem keyT {q : Int} {sl : List Sl} : keyOk (.int .u32 q) (sl.map entT) := by
  simp only [keyOk]
  intro p hp
  obtain ⟨x, _, rfl⟩ := List.mem_map.1 hp
  exact ⟨x.h.s, rfl⟩
theorem findT_no {q : Int} : ∀ {sl : List Sl}, (∀ x ∈ sl, x.h.s ≠ q) → find (.int .u32 q) (sl.map entT) = none
  | [], _ => rfl
  | x :: sl, h => by
    have h1 := h x (by simp)
    simp only [List.map_cons, find, entT, keyEq, show decide (q = x.h.s) = false from decide_eq_false fun e => h1 e.symm, Bool.false_eq_true, if_false]
    exact findT_no fun y hy => h y (by simp [hy])
theorem findT_yes {q : Int} {x : Sl} {b : List Sl} (hx : x.h.s = q) : ∀ {a : List Sl}, (∀ y ∈ a, y.h.s ≠ q) → find (.int .u32 q) ((a ++ x :: b).map entT) = some (.ptr x.s 0)
  | [], _ => by simp [find, entT, keyEq, hx]
  | y :: a, h => by
    have h1 := h y (by simp)
    simp only [List.cons_append, List.map_cons, find, entT, keyEq, show decide (q = y.h.s) = false from decide_eq_false fun e => h1 e.symm, Bool.false_eq_true, if_false]
    exact findT_yes hx fun z hz => h z (by simp [hz])
theorem delT {q : Int} {x : Sl} {b : List Sl} (hx : x.h.s = q) : ∀ {a : List Sl}, (∀ y ∈ a, y.h.s ≠ q) → del (.int .u32 q) ((a ++ x :: b).map entT) = (a ++ b).map entT
  | [], _ => by simp [del, entT, keyEq, hx]
  | y :: a, h => by
    have h1 := h y (by simp)
    simp only [List.cons_append, List.map_cons, del, entT, keyEq, show decide (q = y.h.s) = false from decide_eq_false fun e => h1 e.symm, Bool.false_eq_true, if_false]
    have := delT hx (a := a) (b := b) fun z hz => h z (by simp [hz])
    rw [this]
theorem updT {q : Int} {v : AVal} : ∀ {sl : List Sl}, (∀ x ∈ sl, x.h.s ≠ q) → upd (.int .u32 q) v (sl.map entT) = sl.map entT ++ [(.int .u32 q, v)]
  | [], _ => rfl
  | x :: sl, h => by
    have h1 := h x (by simp)
    simp only [List.map_cons, upd, entT, keyEq, show decide (q = x.h.s) = false from decide_eq_false fun e => h1 e.symm, Bool.false_eq_true, if_false, List.cons_append]
    have := updT (v := v) (sl := sl) fun y hy => h y (by simp [hy])
    rw [this]

structure TabS (H : AHeap) (P M : Nat) (room : Nat) (ord : AVal) (sl : List Sl) : Prop where
  p : H[P]? = some (.cells [.int .i64 (room : Nat), ord, .mapv M] T.table_Table)
  m : H[M]? = some (.map (sl.map entT))
  o : Own 1 T.uint32 0 H ord sl.length (seqV sl)
  s : ∀ x ∈ sl, SlotS H x.s x.m x.h x.fs ∧ SlotW x.h x.fs ∧ is32 x.h.s
  d : (M :: slF sl).Nodup
  n : (sl.map fun x => x.h.s).Nodup
  r : sl.length ≤ room ∧ room ≤ 16

theorem slF_mem {sl : List Sl} {n : Nat} : n ∈ slF sl ↔ ∃ x ∈ sl, n = x.s ∨ n = x.m := by
  simp [slF, List.mem_flatMap]
theorem TabS.neM {H : AHeap} {P M room : Nat} {ord : AVal} {sl : List Sl} (h : TabS H P M room ord sl) : P ≠ M := fun e => by have := h.p; rw [e, h.m] at this; cases this
theorem TabS.ord_at {H : AHeap} {P M room : Nat} {ord : AVal} {sl : List Sl} (h : TabS H P M room ord sl) : ∀ n ∈ ord.names, H[n]? = some (.vec (seqV sl) T.uint32 1) ∧ ord = .slc n 0 sl.length 1 := by
  intro n hn
  rcases h.o.is with ⟨rfl, _⟩ | ⟨k, _, rfl, hk⟩
  · simp [AVal.names] at hn
  · simp [AVal.names] at hn
    subst hn
    exact ⟨hk, rfl⟩
theorem TabS.foot {H : AHeap} {P M room : Nat} {ord : AVal} {sl : List Sl} (h : TabS H P M room ord sl) : ∀ n ∈ tabF P M ord sl, n < H.length := by
  intro n hn
  simp only [tabF, List.mem_cons, List.mem_append] at hn
  rcases hn with rfl | rfl | hn | hn
  · exact (List.getElem?_eq_some_iff.1 h.p).1
  · exact (List.getElem?_eq_some_iff.1 h.m).1
  · exact (List.getElem?_eq_some_iff.1 (h.ord_at n hn).1).1
  · obtain ⟨x, hx, rfl | rfl⟩ := slF_mem.1 hn
    · exact (h.s x hx).1.lt.1
    · exact (h.s x hx).1.lt.2
/-- Blocks that are elsewhere do not matter. -/
theorem TabS.keep {H H' : AHeap} {P M room : Nat} {ord : AVal} {sl : List Sl} (h : TabS H P M room ord sl) (hk : ∀ n ∈ tabF P M ord sl, H'[n]? = H[n]?) : TabS H' P M room ord sl := by
  refine ⟨(hk P (by simp [tabF])).trans h.p, (hk M (by simp [tabF])).trans h.m, ?_, ?_, h.d, h.n, h.r⟩
  · refine ⟨h.o.len, ?_⟩
    rcases h.o.is with hn | ⟨k, h1, h2, h3⟩
    · exact .inl hn
    · refine .inr ⟨k, h1, h2, (hk k ?_).trans h3⟩
      simp [tabF, h2, AVal.names]
  · intro x hx
    obtain ⟨a, b⟩ := h.s x hx
    refine ⟨⟨(hk x.s ?_).trans a.s, (hk x.m ?_).trans a.m⟩, b⟩
    · simp only [tabF, List.mem_cons, List.mem_append]; exact .inr (.inr (.inr (slF_mem.2 ⟨x, hx, .inl rfl⟩)))
    · simp only [tabF, List.mem_cons, List.mem_append]; exact .inr (.inr (.inr (slF_mem.2 ⟨x, hx, .inr rfl⟩)))
theorem TabS.keeps {H H' : AHeap} {P M room : Nat} {ord : AVal} {sl : List Sl} (h : TabS H P M room ord sl) (hk : Keeps H H') : TabS H' P M room ord sl := h.keep fun n hn => hk.2 n (h.foot n hn)
/-- What is elsewhere than the order. -/
theorem TabS.apart {H : AHeap} {P M room : Nat} {ord : AVal} {sl : List Sl} (h : TabS H P M room ord sl) : (∀ n ∈ ord.names, n ≠ P ∧ n ≠ M ∧ n ∉ slF sl) ∧ P ∉ slF sl ∧ M ∉ slF sl := by
  refine ⟨fun n hn => ⟨?_, ?_, ?_⟩, ?_, (List.nodup_cons.1 h.d).1⟩
  · rintro rfl
    have := (h.ord_at n hn).1; rw [h.p] at this; cases this
  · rintro rfl
    have := (h.ord_at n hn).1; rw [h.m] at this; cases this
  · intro hm
    have h1 := (h.ord_at n hn).1
    obtain ⟨x, hx, rfl | rfl⟩ := slF_mem.1 hm
    · rw [(h.s x hx).1.s] at h1; cases h1
    · rw [(h.s x hx).1.m] at h1; cases h1
  · intro hm
    have h1 := h.p
    obtain ⟨x, hx, rfl | rfl⟩ := slF_mem.1 hm
    · rw [(h.s x hx).1.s] at h1
      have := congrArg (fun b : Option ABlk => match b with | some (.cells cs _) => cs.length | _ => 0) h1
      simp at this
    · rw [(h.s x hx).1.m] at h1; cases h1
end Go.Proofs.Ytamcfgdnhgmkpaa

namespace Go.Proofs.Ytamcfgdnhgmkpaa
open Go Go.Am
set_option linter.unusedSimpArgs false
set_option linter.unusedVariables false

theorem seqV_len (sl : List Sl) : (seqV sl).length = sl.length := by simp [seqV]
theorem load_own {H : AHeap} {L k : Nat} {el : TypeId} {vs : List Int} (h : H[L]? = some (.vec (vs.map (AVal.int .u32)) el 1)) {i : Nat} (hi : i < k) (hk : k = vs.length) : loadA H none (.sptr (.slc L 0 k 1) i) = some (True, .int .u32 (vs.getD i 0)) := by
  subst hk
  simp [loadA, cellsAt, view, h, content, List.getD_eq_getElem?_getD, hi]
  omega
theorem view_own {H : AHeap} {L k : Nat} {el : TypeId} {vs : List Int} (h : H[L]? = some (.vec (vs.map (AVal.int .u32)) el 1)) (hk : k = vs.length) : (view H (.slc L 0 k 1)).isSome = true := by
  subst hk
  simp [view, h, content]

section
variable {H : AHeap} {P M room : Nat} {ord : AVal} {sl : List Sl}

theorem tlen_ok (h : TabS H P M room ord sl) (Q : AVal → AHeap → Prop) (hq : Q (.int .i64 (sl.length : Nat)) H) : FunOK Try.prog F.table_Table_Len [.ptr P 0] H Q := by
  refine fun_V 60 table_Table_Len_code rfl ?_
  simp (disch := first | omega | (simp only [lnx]; omega)) only [stdh, stdx, ↓reduceIte, seval, table_Table_Len, table_Table_Len.body, eqA, h.p, h.o.slen]
  exact hq

theorem tnew_ok (H : AHeap) (room : Nat) (hr : 1 ≤ room ∧ room ≤ 16) (Q : AVal → AHeap → Prop) (hq : ∀ H' P M, Keeps H H' → H.length ≤ P → H.length ≤ M → TabS H' P M room .nils [] → Q (.tup [.ptr P 0, .int .i64 0]) H') : FunOK Try.prog F.table_New [.int .i64 (room : Nat)] H Q := by
  refine fun_V 60 table_New_code rfl ?_
  simp (disch := first | omega | (simp only [lnx]; omega)) only [stdh, stdx, ↓reduceIte, seval, table_New, table_New.body]
  refine hq _ (H.length + 1) H.length (by simpa using keeps_append _ _) (by omega) (by omega) ⟨by simp, by simp, Own.nil, by simp, by simp [slF], by simp, by simp; omega⟩

abbrev sixC : Ctx := ⟨F.slices_Index_uint32_uint32, 19, [.tmp 4], none⟩
theorem six_loop {L : Nat} {el : TypeId} {vs : List Int} (hL : H[L]? = some (.vec (vs.map (AVal.int .u32)) el 1)) {n : Nat} (hn : n = vs.length) (hl : n ≤ 1000) {q : Int} {i0 : Nat} (hi0 : i0 < vs.length) (hx : vs.getD i0 0 = q) (hb : ∀ i, i < i0 → vs.getD i 0 ≠ q) (K : List AItem) (Q : AVal → AHeap → Prop) (hq : Q (.int .i64 (i0 : Nat)) H) :
    ∀ (z i : Nat), i0 - i = z → i ≤ i0 → Rounds Try.prog sixC slices_Index_uint32_uint32.b0 [.inBlock 0] K [(0, .slc L 0 n 1), (1, .int .u32 q), (7, .int .i64 (n : Nat)), (8, .int .i64 (i : Nat))] H Q
  | z, i, h1, h2 => by
    refine loop_V 60 slices_Index_uint32_uint32.b0.eq_1 ?_
    have hld := load_own hL (i := i) (k := n) (by omega) hn
    have hvw := view_own hL hn
    have hcast : (i : Int) + 1 = ((i + 1 : Nat) : Int) := by omega
    by_cases hi : i = i0
    · subst hi
      rw [hx] at hld
      simp (disch := first | omega | (simp only [lnx]; omega)) only [stdh, stdx, ↓reduceIte, seval, hld]
      exact hq
    · have d : decide (q = vs.getD i 0) = false := decide_eq_false fun e => hb i (by omega) e.symm
      simp (disch := first | omega | (simp only [lnx]; omega)) only [stdh, stdx, ↓reduceIte, seval, hld, d]
      rw [hcast]
      exact six_loop hL hn hl hi0 hx hb K Q hq _ (i + 1) rfl (by omega)
  termination_by z => z
theorem sindex_ok {L : Nat} {el : TypeId} {vs : List Int} (hL : H[L]? = some (.vec (vs.map (AVal.int .u32)) el 1)) {n : Nat} (hn : n = vs.length) (hl : n ≤ 1000) {q : Int} {i0 : Nat} (hi0 : i0 < vs.length) (hx : vs.getD i0 0 = q) (hb : ∀ i, i < i0 → vs.getD i 0 ≠ q) (Q : AVal → AHeap → Prop) (hq : Q (.int .i64 (i0 : Nat)) H) :
    FunOK Try.prog F.slices_Index_uint32_uint32 [.slc L 0 n 1, .int .u32 q] H Q := by
  refine fun_V 60 slices_Index_uint32_uint32_code rfl ?_
  simp (disch := first | omega | (simp only [lnx]; omega)) only [stdh, stdx, ↓reduceIte, seval, slices_Index_uint32_uint32, slices_Index_uint32_uint32.body]
  exact six_loop hL hn hl hi0 hx hb _ Q hq _ 0 rfl (by omega)

theorem dropT_no (h : TabS H P M room ord sl) {q : Int} (hn : ∀ x ∈ sl, x.h.s ≠ q) (Q : AVal → AHeap → Prop) (hq : Q (.bool false) H) : FunOK Try.prog F.table_Table_Drop [.ptr P 0, .int .u32 q] H Q := by
  refine fun_V 60 table_Table_Drop_code rfl ?_
  have hf := findT_no hn
  have hko := keyT (q := q) (sl := sl)
  simp (disch := first | omega | (simp only [lnx]; omega)) only [stdh, stdx, ↓reduceIte, seval, table_Table_Drop, table_Table_Drop.body, eqA, h.p, h.m, hf, hko, kindA]
  exact hq

set_option maxRecDepth 10000 in
set_option maxHeartbeats 8000000 in
theorem dropT_yes {a b : List Sl} {x : Sl} (h : TabS H P M room ord (a ++ x :: b)) {q : Int} (hx : x.h.s = q) (Q : AVal → AHeap → Prop)
    (hq : ∀ H' ord', Touches (tabF P M ord (a ++ x :: b)) H (tabF P M ord' (a ++ b)) H' → TabS H' P M room ord' (a ++ b) → Q (.bool true) H') : FunOK Try.prog F.table_Table_Drop [.ptr P 0, .int .u32 q] H Q := by
  have hn : ∀ y ∈ a, y.h.s ≠ q := by
    intro y hy e
    have := h.n
    rw [List.map_append, List.map_cons] at this
    have h2 := (List.nodup_append.1 this).2.2 y.h.s (List.mem_map.2 ⟨y, hy, rfl⟩) x.h.s (by simp)
    exact h2 (e.trans hx.symm)
  have hPM := h.neM
  have hPl := h.foot P (by simp [tabF])
  have hMl := h.foot M (by simp [tabF])
  obtain ⟨ap1, ap2, ap3⟩ := h.apart
  obtain ⟨L, n, hLL, hnl, hL⟩ : ∃ L n, ord = .slc L 0 n 1 ∧ n = ((a ++ x :: b).map fun x => x.h.s).length ∧ H[L]? = some (.vec (seqV (a ++ x :: b)) T.uint32 1) := by
    rcases h.o.is with ⟨_, h0⟩ | ⟨k, _, h2, h3⟩
    · simp at h0
    · exact ⟨k, _, h2, by simp, h3⟩
  have hLl : L < H.length := (List.getElem?_eq_some_iff.1 hL).1
  obtain ⟨l1, l2, l3⟩ := ap1 L (by rw [hLL]; simp [AVal.names])
  refine fun_V 60 table_Table_Drop_code rfl ?_
  have hf := findT_yes (b := b) hx hn
  have hdl := delT (b := b) hx hn
  have hko := keyT (q := q) (sl := a ++ x :: b)
  have hp := h.p
  rw [hLL] at hp
  simp (disch := first | omega | (simp only [lnx]; omega)) only [stdh, stdx, ↓reduceIte, seval, table_Table_Drop, table_Table_Drop.body, eqA, hp, h.m, hf, hko, kindA, goK_mapdel, isEff_mapdel, isPure_mapdel, evalOp_mapdel, mapdelR_mapv, mapdelB_map, hdl, List.getElem?_set_ne]
  have hrl := h.r
  simp only [List.length_map, List.length_append, List.length_cons] at hnl hrl
  have hL1 : (H.set M (.map ((a ++ b).map entT)))[L]? = some (.vec (seqV (a ++ x :: b)) T.uint32 1) := by rw [List.getElem?_set_ne (by omega)]; exact hL
  have ea : (a.map fun x => x.h.s).length = a.length := by simp
  refine callK_fn (sindex_ok (i0 := a.length) hL1 (by simp; omega) (by omega) (by simp) ?_ ?_ _ ?_)
  · simp only [List.getD_eq_getElem?_getD, List.map_append, List.map_cons]
    rw [List.getElem?_append_right (by simp), ea, Nat.sub_self]
    simpa using hx
  · intro i hi
    simp only [List.getD_eq_getElem?_getD, List.map_append, List.map_cons]
    rw [List.getElem?_append_left (by simpa using hi), List.getElem?_map, List.getElem?_eq_getElem hi]
    exact hn _ (List.getElem_mem hi)
  refine runL_V 60 ?_
  simp (disch := first | omega | (simp only [lnx]; omega)) only [stdh, stdx, ↓reduceIte, seval, hp, List.getElem?_set_ne]
  have hcast : (a.length : Int) + 1 = ((a.length + 1 : Nat) : Int) := by omega
  rw [hcast]
  have hnv : n = ((a ++ x :: b).map fun x => x.h.s).length := by simp; omega
  rw [show AVal.slc L 0 n 1 = .slc L 0 ((a ++ x :: b).map fun x => x.h.s).length 1 by rw [← hnv]]
  obtain ⟨i0, hi0, hz1⟩ : ∃ i0, Try.prog.info? (ldel0_ren.t 23) = some i0 ∧ i0.size = 1 := by
    have hsz : (Try.prog.info? (ldel0_ren.t 23)).map (·.size) = some 1 := by kernel_rfl
    cases h : Try.prog.info? (ldel0_ren.t 23) with
    | none => rw [h] at hsz; cases hsz
    | some i => rw [h] at hsz; exact ⟨i, rfl, by simpa using hsz⟩
  refine callK_fn (delete_ok ldel0 (k := .u32) Try.zeroValue23 hi0 hz1 hL1 (by omega) (by omega) (by simp) ?_)
  have hsub : ((a ++ x :: b).map fun x => x.h.s).length - (a.length + 1 - a.length) = (a ++ b).length := by simp
  have hcut : ((a ++ x :: b).map fun x => x.h.s).take a.length ++ ((a ++ x :: b).map fun x => x.h.s).drop (a.length + 1) = (a ++ b).map fun x => x.h.s := by
    rw [List.map_append, List.map_cons, List.map_append]
    rw [show a.length = (a.map fun x => x.h.s).length by simp, List.take_left', List.drop_append]
    · simp
    · rfl
  rw [hsub, hcut]
  have hgl : (H.set M (.map ((a ++ b).map entT))).length = H.length := by simp
  obtain ⟨G, hG⟩ : ∃ G, G = (H.set M (.map ((a ++ b).map entT))).set L ABlk.dead ++ [ABlk.vec (((a ++ b).map fun x => x.h.s).map (AVal.int .u32)) T.uint32 1] := ⟨_, rfl⟩
  have gl : G.length = H.length + 1 := by rw [hG]; simp
  have gk : ∀ m, m < H.length → m ≠ M → m ≠ L → G[m]? = H[m]? := fun m m1 m2 m3 => by
    rw [hG, at_low (by simpa using m1), List.getElem?_set_ne (by omega), List.getElem?_set_ne (by omega)]
  have gP := (gk P hPl (by omega) (by omega)).trans hp
  have gM : G[M]? = some (.map ((a ++ b).map entT)) := by rw [hG, at_low (by simpa using hMl), List.getElem?_set_ne (by omega), List.getElem?_set_self hMl]
  have gL : G[H.length]? = some (.vec (seqV (a ++ b)) T.uint32 1) := by rw [hG, List.getElem?_append_right (by simp)]; simp [seqV]
  obtain ⟨nl, hnl2⟩ : ∃ nl, nl = (a ++ b).length := ⟨_, rfl⟩
  rw [hgl, ← hG, ← hnl2]
  refine runL_V 60 ?_
  simp (disch := first | omega | (simp only [lnx]; omega)) only [stdh, stdx, ↓reduceIte, seval, gP]
  have hsf : ∀ m, m ∈ slF (a ++ b) → m ∈ slF (a ++ x :: b) := fun m hm => by
    obtain ⟨y, hy, e⟩ := slF_mem.1 hm
    refine slF_mem.2 ⟨y, ?_, e⟩
    rw [List.mem_append] at hy
    rcases hy with hy | hy <;> simp [hy]
  have hsm : ∀ y, y ∈ a ++ b → y ∈ a ++ x :: b := fun y hy => by
    rw [List.mem_append] at hy
    rcases hy with hy | hy <;> simp [hy]
  have hgs : ∀ m, m ∈ slF (a ++ b) → (G.set P (.cells [.int .i64 (room : Nat), .slc H.length 0 nl 1, .mapv M] T.table_Table))[m]? = H[m]? := fun m hm => by
    have hm' := hsf m hm
    have hml := h.foot m (by simp [tabF, hm'])
    rw [List.getElem?_set_ne (fun e => ap2 (by rw [e]; exact hm')), gk m hml (fun e => ap3 (by rw [← e]; exact hm')) (fun e => l3 (by rw [← e]; exact hm'))]
  refine hq _ (.slc H.length 0 nl 1) ⟨by simp; omega, ?_, ?_⟩ ⟨?_, ?_, ⟨by simp [seqV], .inr ⟨H.length, Nat.zero_le _, by rw [hnl2], ?_⟩⟩, ?_, ?_, ?_, ?_⟩
  · intro m hm
    simp only [tabF, List.mem_cons, List.mem_append, AVal.names, List.not_mem_nil, or_false] at hm ⊢
    rcases hm with rfl | rfl | rfl | hm
    · exact .inl (.inl rfl)
    · exact .inl (.inr (.inl rfl))
    · exact .inr (Nat.le_refl _)
    · exact .inl (.inr (.inr (.inr (hsf m hm))))
  · intro m hm hf
    simp only [tabF, List.mem_cons, List.mem_append, hLL, AVal.names, List.not_mem_nil, or_false, not_or] at hf
    rw [List.getElem?_set_ne (fun e => hf.1 e.symm), gk m hm hf.2.1 hf.2.2.1]
  · exact List.getElem?_set_self (by omega)
  · rw [List.getElem?_set_ne hPM]; exact gM
  · rw [List.getElem?_set_ne (by omega)]; exact gL
  · intro y hy
    obtain ⟨s1, s2⟩ := h.s y (hsm y hy)
    exact ⟨⟨(hgs y.s (slF_mem.2 ⟨y, hy, .inl rfl⟩)).trans s1.s, (hgs y.m (slF_mem.2 ⟨y, hy, .inr rfl⟩)).trans s1.m⟩, s2⟩
  · have hd := h.d
    refine List.Sublist.nodup ?_ hd
    refine List.Sublist.cons_cons _ ?_
    simp only [slF, List.flatMap_append, List.flatMap_cons]
    exact List.Sublist.append (List.Sublist.refl _) (List.sublist_append_right _ _)
  · refine List.Sublist.nodup ?_ h.n
    rw [List.map_append, List.map_append, List.map_cons]
    exact List.Sublist.append (List.Sublist.refl _) (List.sublist_cons_self _ _)
  · have := h.r
    simp only [List.length_append, List.length_cons] at this ⊢
    omega
end
end Go.Proofs.Ytamcfgdnhgmkpaa

namespace Go.Proofs.Ytamcfgdnhgmkpaa
open Go Go.Am
set_option linter.unusedSimpArgs false
set_option linter.unusedVariables false

theorem load_off {H : AHeap} {L k : Nat} {el : TypeId} {vs : List Int} (h : H[L]? = some (.vec (vs.map (AVal.int .u32)) el 1)) {i : Nat} (hi : i < k) (hk : k + 1 = vs.length) : loadA H none (.sptr (.slc L 1 k 1) i) = some (True, .int .u32 (vs.getD (i + 1) 0)) := by
  have h1 : 1 + k ≤ vs.length := by omega
  simp [loadA, cellsAt, view, h, content, List.getD_eq_getElem?_getD, hi, h1, List.getElem?_take, List.getElem?_drop, Nat.add_comm 1 i]
  rw [List.getElem?_eq_getElem (by omega)]
  simp
  omega
theorem view_off {H : AHeap} {L k : Nat} {el : TypeId} {vs : List Int} (h : H[L]? = some (.vec (vs.map (AVal.int .u32)) el 1)) (hk : k + 1 = vs.length) : (view H (.slc L 1 k 1)).isSome = true := by
  have h1 : 1 + k ≤ vs.length := by omega
  simp [view, h, content, h1]

theorem values_ok (H : AHeap) {L o k : Nat} (hx : L < H.length) (Q : AVal → AHeap → Prop) (hq : Q (.fn F.slices_Values_uint32_uint32_1 [] [cell (.slc L o k 1)]) H) : FunOK Try.prog F.slices_Values_uint32_uint32 [.slc L o k 1] H Q := by
  refine fun_iced slices_Values_uint32_uint32_code fun _ => ?_
  refine fun_V 40 slices_Values_uint32_uint32_code rfl ?_
  simp (disch := first | omega | (simp only [lnx]; omega)) only [stdh, stdx, ↓reduceIte, seval, slices_Values_uint32_uint32, slices_Values_uint32_uint32.body]
  exact ice_clo1 (by simpa [closed] using hx) hq

abbrev svC : Ctx := ⟨F.slices_Values_uint32_uint32_1, 16, [], none⟩
set_option maxHeartbeats 4000000 in
theorem values_loop {n L k : Nat} {el : TypeId} {vs : List Int} {H0 : AHeap} (hL : H0[L]? = some (.vec (vs.map (AVal.int .u32)) el 1)) (hk : k + 1 = vs.length) (hkl : k ≤ 1000) {I : Bool → Nat → List Nat → AHeap → Prop} (hI : Fed Try.prog n (fun j => [.int .u32 (vs.getD (j + 1) 0)]) k I) (K : List AItem) (Q : AVal → AHeap → Prop) {fp0 : List Nat} (hLf : L ∉ fp0)
    (hQ : ∀ b j fp H, H0.length ≤ H.length → (∀ m, m < H0.length → m ∉ fp0 → H[m]? = H0[m]?) → (b = true → j = k) → I b j fp H → (∀ r, Run Try.prog svC K r H Q) ∧ Q (.tup []) H) :
    ∀ (z i : Nat) (H : AHeap) (fp : List Nat), k - i = z → i ≤ k → Touches fp0 H0 fp H → I true i fp H →
    Rounds Try.prog svC slices_Values_uint32_uint32_1.b0 [.inBlock 0] K [(0, .yld n), (5, .slc L 1 k 1), (6, .int .i64 (k : Nat)), (7, .int .i64 (i : Nat))] H Q
  | z, i, H, fp, h1, h2, ht, hi => by
    refine loop_V 100 slices_Values_uint32_uint32_1.b0.eq_1 ?_
    have hLl := (List.getElem?_eq_some_iff.1 hL).1
    have lx := (ht.kept L hLl hLf).trans hL
    have hvw := view_off lx hk
    have hcast : (i : Int) + 1 = ((i + 1 : Nat) : Int) := by omega
    by_cases hik : i < k
    · have hld := load_off lx hik hk
      simp (disch := first | omega | (simp only [lnx]; omega)) only [stdh, stdx, ↓reduceIte, seval, hld]
      refine CallV.mono (hI.step _ fp _ hik hi) fun av H1 hh => ?_
      obtain ⟨fp', ht1, hh⟩ := hh
      have ht2 := ht.trans ht1
      refine runL_V 60 ?_
      rcases hh with ⟨rfl, hi1⟩ | ⟨rfl, hi1⟩
      · simp (disch := first | omega | (simp only [lnx]; omega)) only [stdh, stdx, ↓reduceIte, seval]
        rw [hcast]
        exact values_loop hL hk hkl hI K Q hLf hQ _ (i + 1) H1 fp' rfl (by omega) ht2 hi1
      · simp (disch := first | omega | (simp only [lnx]; omega)) only [stdh, stdx, ↓reduceIte, seval]
        exact (hQ false _ fp' H1 ht2.le ht2.kept (fun e => by cases e) hi1).2
    · simp (disch := first | omega | (simp only [lnx]; omega)) only [stdh, stdx, ↓reduceIte, seval]
      rw [show i = k by omega] at hi
      exact (hQ true _ fp H ht.le ht.kept (fun _ => rfl) hi).1 _
  termination_by z => z

theorem values_iter {n L k : Nat} {el : TypeId} {vs : List Int} {H0 : AHeap} (hL : H0[L]? = some (.vec (vs.map (AVal.int .u32)) el 1)) (hk : k + 1 = vs.length) (hkl : k ≤ 1000) : Iter Try.prog F.slices_Values_uint32_uint32_1 [.yld n, cell (.slc L 1 k 1)] n (fun j => [.int .u32 (vs.getD (j + 1) 0)]) k [L] H0 := by
  intro I hI fp hi hown
  refine fun_V 100 slices_Values_uint32_uint32_1_code rfl ?_
  simp (disch := first | omega | (simp only [lnx]; omega)) only [stdh, stdx, ↓reduceIte, seval, slices_Values_uint32_uint32_1, slices_Values_uint32_uint32_1.body]
  refine values_loop hL hk hkl hI _ _ (hown L (by simp)) ?_ _ 0 H0 fp rfl (Nat.zero_le _) (Touches.refl _ _) hi
  intro b j fp' H' h1 h2 h3 h4
  refine ⟨fun r => ?_, ⟨b, j, fp', h1, h2, h3, h4⟩⟩
  refine run_V0 60 ?_
  simp (disch := first | omega | (simp only [lnx]; omega)) only [stdh, stdx, ↓reduceIte, seval]
  refine run_fin rfl rfl trivial ?_
  exact ⟨b, j, fp', h1, h2, h3, h4⟩

theorem oldTo_is32 {qs : List Int} (h : ∀ q ∈ qs, is32 q) {j : Nat} (hj : j < qs.length) : is32 (oldTo qs j) := h _ (oldTo_mem hj)

set_option maxRecDepth 10000 in
set_option maxHeartbeats 8000000 in
theorem taken_ok {H : AHeap} {L n : Nat} {el : TypeId} {vs : List Int} (hL : H[L]? = some (.vec (vs.map (AVal.int .u32)) el 1)) (hn : n = vs.length) (hn0 : 0 < n) (hnl : n ≤ 1000) (h32 : ∀ q ∈ vs, is32 q) (Q : AVal → AHeap → Prop) (hq : Q (.tup [.int .u32 (oldest vs), .bool true]) H) :
    FunOK Try.prog F.serial_taken [.slc L 0 n 1, .fn F.serial_Oldest_1 [] []] H Q := by
  obtain ⟨k, rfl⟩ : ∃ k, n = k + 1 := ⟨n - 1, by omega⟩
  have hLl := (List.getElem?_eq_some_iff.1 hL).1
  refine fun_iced serial_taken_code fun _ => ?_
  refine fun_V 60 serial_taken_code rfl ?_
  have lx : ∀ X, (H ++ X)[L]? = _ := fun X => (at_low hLl).trans hL
  have hld := fun X => load_own (lx X) (i := 0) (k := k + 1) (by omega) hn
  have hvw := fun X => view_own (lx X) hn
  obtain ⟨p, hsl, hp⟩ : ∃ p, sliceA 1 (.slc L 0 (k + 1) 1) (some 1) none none = some (p, .slc L 1 k 1) ∧ p := by
    refine ⟨_, rfl, ?_⟩
    simp
    try omega
  simp (disch := first | omega | (simp only [lnx]; omega)) only [stdh, stdx, ↓reduceIte, seval, serial_taken, serial_taken.body, hld, hvw, hsl, hp]
  refine callK_fn (values_ok _ (by (first | omega | (simp only [lnx]; omega))) _ ?_)
  refine runL_V 60 ?_
  simp (disch := first | omega | (simp only [lnx]; omega)) only [stdh, stdx, ↓reduceIte, seval]
  have g0 : (H ++ [ABlk.cells [.fn F.serial_Oldest_1 [] []] T.func_uint32_uint32_bool, .cells [.int .u32 (vs.getD 0 0)] T.uint32])[H.length]? = some (.cells [.fn F.serial_Oldest_1 [] []] T.func_uint32_uint32_bool) := at_0
  have g1 : (H ++ [ABlk.cells [.fn F.serial_Oldest_1 [] []] T.func_uint32_uint32_bool, .cells [.int .u32 (vs.getD 0 0)] T.uint32])[H.length + 1]? = some (.cells [.int .u32 (oldTo vs 0)] T.uint32) := at_k
  have gL : (H ++ [ABlk.cells [.fn F.serial_Oldest_1 [] []] T.func_uint32_uint32_bool, .cells [.int .u32 (vs.getD 0 0)] T.uint32])[L]? = _ := lx _
  have hk2 : Keeps H (H ++ [ABlk.cells [.fn F.serial_Oldest_1 [] []] T.func_uint32_uint32_bool, .cells [.int .u32 (vs.getD 0 0)] T.uint32]) := keeps_append _ _
  have hl2 : (H ++ [ABlk.cells [.fn F.serial_Oldest_1 [] []] T.func_uint32_uint32_bool, .cells [.int .u32 (vs.getD 0 0)] T.uint32]).length = H.length + 2 := by simp
  generalize (H ++ [ABlk.cells [.fn F.serial_Oldest_1 [] []] T.func_uint32_uint32_bool, .cells [.int .u32 (vs.getD 0 0)] T.uint32]) = H2 at *
  refine range_varsP (g := F.slices_Values_uint32_uint32_1) (first := []) (captured := [cell (.slc L 1 k 1)]) rfl (by intro n hn; cases hn) (item := fun j => [.int .u32 (vs.getD (j + 1) 0)]) (len := k) (fun j => rfl)
    [(H.length + 1, T.uint32, fun j => [.int .u32 (oldTo vs j)])] (fun _ => none) (varsN_cons g1 varsN_nil) [L] (fun _ _ m => H2[m]?) (by
      intro m hm
      simp only [List.mem_singleton] at hm
      subst hm
      exact ⟨by omega, by simp; omega⟩) ?_ (fun H1 h1 h2 => iterP_of (by
        intro m hm
        simp only [List.mem_singleton] at hm
        subst hm
        exact ⟨by omega, h2 _ (by omega)⟩) (values_iter ((h2 L (by omega)).trans gL) hn (by omega))) ?_ (fun _ _ _ _ _ _ _ hh => by cases hh)
  · intro a' b' j H1 hj hst hl hkp hrec hv
    have q1 : H1[H.length + 1]? = some (.cells [.int .u32 (oldTo vs j)] T.uint32) := hv.get (c := H.length + 1) (T := T.uint32) (f := fun j => [.int .u32 (oldTo vs j)]) (by simp)
    have q0 := (hkp H.length (by omega) (by simp) (by simp; omega)).trans g0
    have b1 : is32 (oldTo vs j) := oldTo_is32 h32 (by omega)
    have b2 : is32 (vs.getD (j + 1) 0) := by
      rw [List.getD_eq_getElem?_getD, List.getElem?_eq_getElem (by omega)]
      exact h32 _ (List.getElem_mem _)
    have e5 : oldTo vs (j + 1) = if aftI (oldTo vs j) (vs.getD (j + 1) 0) = true then vs.getD (j + 1) 0 else oldTo vs j := rfl
    rw [hl2] at hrec hl ⊢
    generalize vs.getD (j + 1) 0 = x at *
    refine run_V0 60 ?_
    simp (disch := first | omega | (simp only [lnx]; omega)) only [stdh, stdx, ↓reduceIte, seval, serial_taken.a0, serial_taken.b0, hrec, q0, q1, List.zip_cons_cons, List.zip_nil_left, List.reverse_cons, List.reverse_nil, List.getElem?_set_self, List.getElem?_set_ne]
    refine callK_fn (oldest1_ok _ b2 b1 _ ?_)
    refine runL_V 60 ?_
    by_cases hx : aftI (oldTo vs j) x = true
    · rw [if_pos hx] at e5
      simp (disch := first | omega | (simp only [lnx]; omega)) only [stdh, stdx, ↓reduceIte, seval, hx, q1, List.getElem?_set_ne, List.getElem?_set_self]
      refine round_fin (n := H.length + 2) rfl (by simp (disch := first | omega | (simp only [lnx]; omega)) only [List.getElem?_set_ne, List.getElem?_set_self, List.length_set, ne_eq, not_false_eq_true]; first | done | exact List.getElem?_set_self (by omega) | rfl) ?_
      refine varsNQ_mk rfl (by (first | omega | (simp only [lnx]; omega))) (fun m m1 m2 m3 => ?_) ?_ ?_
      · simp only [List.map_cons, List.map_nil, List.mem_cons, List.not_mem_nil, or_false, not_or] at m3
        rw [List.getElem?_set_ne (by omega), List.getElem?_set_ne (by omega), List.getElem?_set_ne (by omega)]
      · refine varsN_cons ?_ varsN_nil
        rw [List.getElem?_set_ne (by omega), List.getElem?_set_self (by (first | omega | (simp only [lnx]; omega))), e5]
      · rw [List.getElem?_set_self (by (first | omega | (simp only [lnx]; omega)))]
        rfl
    · rw [if_neg hx] at e5
      have hx' : aftI (oldTo vs j) x = false := by simpa using hx
      simp (disch := first | omega | (simp only [lnx]; omega)) only [stdh, stdx, ↓reduceIte, seval, hx']
      refine round_fin (n := H.length + 2) rfl (by first | exact List.getElem?_set_self (by omega) | rfl) ?_
      refine varsNQ_mk rfl (by (first | omega | (simp only [lnx]; omega))) (fun m m1 m2 m3 => ?_) ?_ ?_
      · simp only [List.map_cons, List.map_nil, List.mem_cons, List.not_mem_nil, or_false, not_or] at m3
        rw [List.getElem?_set_ne (by omega), List.getElem?_set_ne (by omega)]
      · refine varsN_cons ?_ varsN_nil
        rw [List.getElem?_set_ne (by omega), List.getElem?_set_ne (by omega), q1, e5]
      · rw [List.getElem?_set_self (by (first | omega | (simp only [lnx]; omega)))]
        rfl
  · intro H' hl hkp hcn _ hv
    have q1 : H'[H.length + 1]? = some (.cells [.int .u32 (oldTo vs k)] T.uint32) := hv.get (c := H.length + 1) (T := T.uint32) (f := fun j => [.int .u32 (oldTo vs j)]) (by simp)
    have hkk : ∀ m, m < H.length → H'[m]? = H[m]? := fun m hm => by
      refine Eq.trans ?_ (hk2.2 m hm)
      by_cases hms : m = L
      · exact hcn m (by simp [hms])
      exact hkp m (by omega) (by simp; omega) (by simp [hms])
    refine run_V0 60 ?_
    simp (disch := first | omega | (simp only [lnx]; omega)) only [stdh, stdx, ↓reduceIte, seval, q1]
    refine ice_keeps ⟨by omega, hkk⟩ (by simp [closed, closeds]) ?_
    rw [oldest, show vs.length - 1 = k by omega] at hq
    exact hq
theorem soldest_ok {H : AHeap} {L n : Nat} {el : TypeId} {vs : List Int} (hL : H[L]? = some (.vec (vs.map (AVal.int .u32)) el 1)) (hn : n = vs.length) (hn0 : 0 < n) (hnl : n ≤ 1000) (h32 : ∀ q ∈ vs, is32 q) (Q : AVal → AHeap → Prop) (hq : Q (.tup [.int .u32 (oldest vs), .bool true]) H) :
    FunOK Try.prog F.serial_Oldest [.slc L 0 n 1] H Q := by
  refine fun_V 60 serial_Oldest_code rfl ?_
  simp (disch := first | omega | (simp only [lnx]; omega)) only [stdh, stdx, ↓reduceIte, seval, serial_Oldest, serial_Oldest.body]
  refine callK_fn (taken_ok hL hn hn0 hnl h32 _ ?_)
  refine runL_V 60 ?_
  simp (disch := first | omega | (simp only [lnx]; omega)) only [stdh, stdx, ↓reduceIte, seval]
  exact hq
set_option linter.unusedSimpArgs false
set_option linter.unusedVariables false

theorem slF_append (a b : List Sl) : slF (a ++ b) = slF a ++ slF b := by simp [slF]
theorem TabS.add {H G : AHeap} {P M room : Nat} {ord : AVal} {sl : List Sl} (h : TabS H P M room ord sl) {S2 M2 L2 : Nat} {hd : Hd} (hs : SlotS H S2 M2 hd []) (hw : SlotW hd []) (his : is32 hd.s)
    (f1 : S2 ∉ tabF P M ord sl) (f2 : M2 ∉ tabF P M ord sl) (hno : ∀ x ∈ sl, x.h.s ≠ hd.s) (hlen : sl.length < room)
    (gP : G[P]? = some (.cells [.int .i64 (room : Nat), .slc L2 0 (sl.length + 1) 1, .mapv M] T.table_Table)) (gM : G[M]? = some (.map (sl.map entT ++ [(.int .u32 hd.s, .ptr S2 0)])))
    (gL : G[L2]? = some (.vec (seqV sl ++ [.int .u32 hd.s]) T.uint32 1)) (gk : ∀ m, m ∈ slF sl ∨ m = S2 ∨ m = M2 → G[m]? = H[m]?) : TabS G P M room (.slc L2 0 (sl.length + 1) 1) (sl ++ [⟨S2, M2, hd, []⟩]) := by
  have e2 : slF [⟨S2, M2, hd, []⟩] = [S2, M2] := rfl
  simp only [tabF, List.mem_cons, List.mem_append, not_or] at f1 f2
  refine ⟨gP, by simpa [entT] using gM, ⟨by simp [seqV], .inr ⟨L2, Nat.zero_le _, by simp, by simpa [seqV] using gL⟩⟩, ?_, ?_, ?_, ?_⟩
  · intro x hx
    rw [List.mem_append, List.mem_singleton] at hx
    rcases hx with hx | rfl
    · obtain ⟨s1, s2⟩ := h.s x hx
      exact ⟨⟨(gk _ (.inl (slF_mem.2 ⟨x, hx, .inl rfl⟩))).trans s1.s, (gk _ (.inl (slF_mem.2 ⟨x, hx, .inr rfl⟩))).trans s1.m⟩, s2⟩
    · exact ⟨⟨(gk _ (.inr (.inl rfl))).trans hs.s, (gk _ (.inr (.inr rfl))).trans hs.m⟩, hw, his⟩
  · have hd := h.d
    rw [slF_append, e2, ← List.cons_append, List.nodup_append]
    refine ⟨hd, by simp [hs.ne], ?_⟩
    intro x hx y hy
    simp only [List.mem_cons, List.not_mem_nil, or_false] at hx hy
    rcases hy with rfl | rfl
    · rcases hx with rfl | hx
      · exact fun e => f1.2.1 e.symm
      · exact fun e => f1.2.2.2 (e ▸ hx)
    · rcases hx with rfl | hx
      · exact fun e => f2.2.1 e.symm
      · exact fun e => f2.2.2.2 (e ▸ hx)
  · rw [List.map_append, List.nodup_append]
    refine ⟨h.n, by simp, ?_⟩
    intro x hx y hy
    simp only [List.map_cons, List.map_nil, List.mem_singleton] at hy
    obtain ⟨z, hz, rfl⟩ := List.mem_map.1 hx
    rw [hy]
    exact hno z hz
  · have := h.r
    simp only [List.length_append, List.length_cons, List.length_nil]
    omega

section
variable {H : AHeap} {P M room : Nat} {ord : AVal} {sl : List Sl}

theorem encHd_closed (L : Nat) (h : Hd) : closed L (.agg (encHd h)) := by simp [closed, closeds, encHd]

set_option maxRecDepth 10000 in
set_option maxHeartbeats 8000000 in
/-- A number too late. -/
theorem fresh_late (h : TabS H P M room ord sl) {hd : Hd} (his : is32 hd.s) (hfull : room ≤ sl.length) (hl : aftI hd.s (oldest (sl.map fun x => x.h.s)) = false) (h0 : sl ≠ []) (Q : AVal → AHeap → Prop) (hq : Q (.tup [.agg [.nils, .bool false, .bool false, .int .u32 0], .int .i64 18]) H) :
    FunOK Try.prog F.table_Table_fresh [.ptr P 0, .agg (encHd hd)] H Q := by
  have hlp := List.length_pos_iff.2 h0
  obtain ⟨L, n, hLL, hnl, hL⟩ : ∃ L n, ord = .slc L 0 n 1 ∧ n = (sl.map fun x => x.h.s).length ∧ H[L]? = some (.vec (seqV sl) T.uint32 1) := by
    rcases h.o.is with ⟨_, h0⟩ | ⟨k, _, h2, h3⟩
    · omega
    · exact ⟨k, _, h2, by simp, h3⟩
  have hLl : L < H.length := (List.getElem?_eq_some_iff.1 hL).1
  have hr := h.r
  have hnl' : n = sl.length := by simpa using hnl
  have h32 : ∀ q ∈ sl.map fun x => x.h.s, is32 q := fun q hq => by
    obtain ⟨x, hx, rfl⟩ := List.mem_map.1 hq
    exact (h.s x hx).2.2
  have hp := h.p
  rw [hLL] at hp
  have hpl := (List.getElem?_eq_some_iff.1 hp).1
  refine fun_iced table_Table_fresh_code fun _ => ?_
  refine fun_V 100 table_Table_fresh_code rfl ?_
  have px : ∀ X, (H ++ X)[P]? = _ := fun X => (at_low hpl).trans hp
  have lx : ∀ X, (H ++ X)[L]? = _ := fun X => (at_low hLl).trans hL
  have d : decide ((n : Int) ≥ (room : Nat)) = true := decide_eq_true (by omega)
  have d' : decide (((room : Nat) : Int) ≤ (n : Nat)) = true := decide_eq_true (by omega)
  simp (disch := first | omega | (simp only [lnx]; omega)) only [stdh, stdx, ↓reduceIte, seval, table_Table_fresh, table_Table_fresh.body, table_Table_fresh.d0, encHd, px, d, d']
  refine callK_fn (soldest_ok (lx _) hnl (by omega) (by omega) h32 _ ?_)
  refine runL_V 60 ?_
  simp (disch := first | omega | (simp only [lnx]; omega)) only [stdh, stdx, ↓reduceIte, seval]
  refine callK_fn (aftI_ok _ his (h32 _ (oldest_mem (by simpa using h0))) _ ?_)
  rw [hl]
  refine runL_V 60 ?_
  simp (disch := first | omega | (simp only [lnx]; omega)) only [stdh, stdx, ↓reduceIte, seval]
  exact ice_keeps (keeps_append _ _) (by simp [closed, closeds]) hq
end
end Go.Proofs.Ytamcfgdnhgmkpaa

namespace Go.Proofs.Ytamcfgdnhgmkpaa
open Go Go.Am
set_option linter.unusedSimpArgs false
set_option linter.unusedVariables false

abbrev tfC : Ctx := ⟨F.table_Table_fresh, 65, [.cell 4 (some 4), .tmp 5], none⟩

theorem slen_own {H : AHeap} {o : AVal} {n : Nat} {cs : List AVal} (h : Own 1 T.uint32 0 H o n cs) : slen o = some n := h.slen

set_option maxRecDepth 10000 in
set_option maxHeartbeats 8000000 in
theorem ftail {G : AHeap} {P M room : Nat} {o1 : AVal} {sl1 : List Sl} (h : TabS G P M room o1 sl1) {hd : Hd} (his : is32 hd.s) (hw : SlotW { hd with i := 0 } []) (hfree : sl1.length < room) (hno : ∀ x ∈ sl1, x.h.s ≠ hd.s)
    {S2 M2 B : Nat} (hs : SlotS G S2 M2 { hd with i := 0 } []) (f1 : S2 ∉ tabF P M o1 sl1) (f2 : M2 ∉ tabF P M o1 sl1) {ev : Bool} {old : Int}
    (gB : G[B]? = some (.cells [.int .i64 hd.v, .int .i64 hd.k, .int .u32 hd.s, .int .i64 hd.i, .int .i64 hd.c] T.head_Head)) (gO : G[B + 1]? = some (.cells [.nils, .bool false, .bool false, .int .u32 0] T.table_Out)) (gV : G[B + 2]? = some (.cells [.nils, .bool false, .bool ev, .int .u32 old] T.table_Out))
    (b1 : B ∉ tabF P M o1 sl1) (b2 : B + 1 ∉ tabF P M o1 sl1) (b3 : B + 2 ∉ tabF P M o1 sl1) (c1 : S2 ≠ B + 1) (c2 : M2 ≠ B + 1) (Q : AVal → AHeap → Prop)
    (hq : ∀ H' ord', G.length ≤ H'.length → (∀ m, m < G.length → m ∉ tabF P M o1 sl1 → m ≠ B + 1 → H'[m]? = G[m]?) → (∀ m ∈ tabF P M ord' (sl1 ++ [⟨S2, M2, { hd with i := 0 }, []⟩]), m ∈ tabF P M o1 sl1 ∨ m = S2 ∨ m = M2 ∨ G.length ≤ m) →
      TabS H' P M room ord' (sl1 ++ [⟨S2, M2, { hd with i := 0 }, []⟩]) → Q (.tup [.agg [.nils, .bool false, .bool ev, .int .u32 old], .int .i64 0]) H') :
    Run Try.prog tfC [.code (.seq (.draw table_Table_fresh.d1 table_Table_fresh.d1b [[0, 1, 2, 3, 4, 5, 6, 7]] [] [0, 3, 4, 6, 10])
        (.seq (.draw table_Table_fresh.d2 table_Table_fresh.d2b [[0, 1, 2, 3, 4, 5, 6, 7, 8, 9, 10, 11]] [(7, 4)] [4, 6, 10])
          (.seq (.region [⟨some 63, .load (some 4) (.tmp 6), none⟩, ⟨some 64, .mov (.tmp 10), none⟩, ⟨none, .store 4 (.tmp 4) (.tmp 63), none⟩, ⟨some 5, .mov (.tmp 64), none⟩] [4, 5]) .ret)))]
      [(0, .ptr P 0), (3, .ptr B 0), (4, .ptr (B + 1) 0), (6, .ptr (B + 2) 0), (9, .ptr S2 0), (10, .int .i64 0)] G Q := by
  have hu := updT (v := .ptr S2 0) hno
  have hko := keyT (q := hd.s) (sl := sl1)
  have hPM := h.neM
  have hPl := h.foot P (by simp [tabF])
  have hMl := h.foot M (by simp [tabF])
  obtain ⟨ap1, ap2, ap3⟩ := h.apart
  have b_P : P ∉ o1.names := fun hm => (ap1 P hm).1 rfl
  have b1' := b1
  have b2' := b2
  have b3' := b3
  have f1' := f1
  have f2' := f2
  simp only [tabF, List.mem_cons, List.mem_append, not_or] at b1' b2' b3' f1' f2'
  refine run_V0 12 ?_
  simp (disch := first | omega | (simp only [lnx]; omega)) only [stdh, stdx, ↓reduceIte, seval, table_Table_fresh.d1, h.p, h.m, hu, hko, kindA, gB, List.getElem?_set_ne]
  obtain ⟨G1, hG1⟩ : ∃ G1, G1 = G.set M (.map (sl1.map entT ++ [(.int .u32 hd.s, .ptr S2 0)])) := ⟨_, rfl⟩
  have l1 : G1.length = G.length := by rw [hG1]; simp
  have k1 : ∀ m, m ≠ M → G1[m]? = G[m]? := fun m hm => by rw [hG1, List.getElem?_set_ne (fun e => hm e.symm)]
  have m1 : G1[M]? = some (.map (sl1.map entT ++ [(.int .u32 hd.s, .ptr S2 0)])) := by rw [hG1, List.getElem?_set_self hMl]
  rw [← hG1]
  have gP1 := (k1 P hPM).trans h.p
  have gB1 := (k1 B b1'.2.1).trans gB
  have gO1 := (k1 (B + 1) b2'.2.1).trans gO
  have gV1 := (k1 (B + 2) b3'.2.1).trans gV
  have hBl : B < G.length := (List.getElem?_eq_some_iff.1 gB).1
  have hOl : B + 1 < G.length := (List.getElem?_eq_some_iff.1 gO).1
  have hVl : B + 2 < G.length := (List.getElem?_eq_some_iff.1 gV).1
  have ho1 : Own 1 T.uint32 0 (G1 ++ [ABlk.vec [.int .u32 hd.s] T.uint32 1]) o1 sl1.length (seqV sl1) := by
    refine ⟨h.o.len, ?_⟩
    rcases h.o.is with hn | ⟨k, h1, h2, h3⟩
    · exact .inl hn
    · refine .inr ⟨k, h1, h2, ?_⟩
      have hkl := (List.getElem?_eq_some_iff.1 h3).1
      rw [at_low (by omega), k1 k (ap1 k (by rw [h2]; simp [AVal.names])).2.1]
      exact h3
  have hr := h.r
  obtain ⟨p, a1, hp⟩ := Own.append3 ho1 (x := .slc G1.length 0 1 1) (k := 1) (ys := [.int .u32 hd.s]) 4 rfl (by simp [srcCells, view, content]) rfl (by omega) (by omega) (by omega) rfl
  obtain ⟨G2, hG2⟩ : ∃ G2, G2 = killA (G1 ++ [ABlk.vec [.int .u32 hd.s] T.uint32 1]) o1 ++ [.vec (seqV sl1 ++ [.int .u32 hd.s]) T.uint32 1] := ⟨_, rfl⟩
  have hkl : (killA (G1 ++ [ABlk.vec [.int .u32 hd.s] T.uint32 1]) o1).length = G.length + 1 := by rw [killA_len, List.length_append, l1]; rfl
  have l2 : G2.length = G.length + 2 := by rw [hG2, List.length_append, hkl]; rfl
  have k2 : ∀ m, m < G.length → m ∉ o1.names → G2[m]? = G1[m]? := fun m hm hn => by rw [hG2, at_low (by omega), killA_get hn, at_low (by omega)]
  have v2 : G2[G.length + 1]? = some (.vec (seqV sl1 ++ [.int .u32 hd.s]) T.uint32 1) := by
    rw [hG2, ← hkl, at_0]; rfl
  rw [← hG2] at a1
  rw [show (G1 ++ [ABlk.vec [AVal.int .u32 hd.s] T.uint32 1]).length = G.length + 1 by rw [List.length_append, l1]; rfl] at a1
  have gP2 := (k2 P hPl b_P).trans gP1
  have gO2 := (k2 (B + 1) hOl b2'.2.2.1).trans gO1
  have gV2 := (k2 (B + 2) hVl b3'.2.2.1).trans gV1
  have px1 : ∀ X, (G1 ++ X)[P]? = _ := fun X => (at_low (by omega)).trans gP1
  have bx1 : ∀ X, (G1 ++ X)[B]? = _ := fun X => (at_low (by omega)).trans gB1
  refine run_V0 60 ?_
  simp (disch := first | omega | (simp only [lnx]; omega)) only [stdh, stdx, ↓reduceIte, seval, table_Table_fresh.d2, gP1, gB1, px1, bx1, a1, hp, gP2, gO2, gV2, List.getElem?_set_ne, List.getElem?_set_self]
  have k3 : ∀ m, m ≠ P → m ≠ B + 1 → ((G2.set P (.cells [.int .i64 (room : Nat), .slc (G.length + 1) 0 (sl1.length + 1) 1, .mapv M] T.table_Table)).set (B + 1) (.cells [.nils, .bool false, .bool ev, .int .u32 old] T.table_Out))[m]? = G2[m]? := fun m h1 h2 => by
    rw [List.getElem?_set_ne (fun e => h2 e.symm), List.getElem?_set_ne (fun e => h1 e.symm)]
  have g3 : ((G2.set P (.cells [.int .i64 (room : Nat), .slc (G.length + 1) 0 (sl1.length + 1) 1, .mapv M] T.table_Table)).set (B + 1) (.cells [.nils, .bool false, .bool ev, .int .u32 old] T.table_Out))[P]? = some (.cells [.int .i64 (room : Nat), .slc (G.length + 1) 0 (sl1.length + 1) 1, .mapv M] T.table_Table) := by
    rw [List.getElem?_set_ne b2'.1, List.getElem?_set_self (by omega)]
  have l3 : ((G2.set P (.cells [.int .i64 (room : Nat), .slc (G.length + 1) 0 (sl1.length + 1) 1, .mapv M] T.table_Table)).set (B + 1) (.cells [.nils, .bool false, .bool ev, .int .u32 old] T.table_Out)).length = G.length + 2 := by simpa using l2
  generalize ((G2.set P (.cells [.int .i64 (room : Nat), .slc (G.length + 1) 0 (sl1.length + 1) 1, .mapv M] T.table_Table)).set (B + 1) (.cells [.nils, .bool false, .bool ev, .int .u32 old] T.table_Out)) = G3 at *
  have b_M : M ∉ o1.names := fun hm => (ap1 M hm).2.1 rfl
  refine hq G3 (.slc (G.length + 1) 0 (sl1.length + 1) 1) (by omega) (fun m h1 h2 h3 => ?_) (fun m hm => ?_) (h.add (hs := hs) hw his f1 f2 hno hfree g3 ?_ ?_ ?_)
  · simp only [tabF, List.mem_cons, List.mem_append, not_or] at h2
    rw [k3 m h2.1 h3, k2 m h1 h2.2.2.1, k1 m h2.2.1]
  · simp only [tabF, slF_append, List.mem_cons, List.mem_append, AVal.names, List.not_mem_nil, or_false] at hm ⊢
    rcases hm with rfl | rfl | rfl | hm | hm
    · exact .inl (.inl rfl)
    · exact .inl (.inr (.inl rfl))
    · exact .inr (.inr (.inr (by omega)))
    · exact .inl (.inr (.inr (.inr hm)))
    · simp only [slF, List.flatMap_cons, List.flatMap_nil, List.append_nil, List.mem_cons, List.not_mem_nil, or_false] at hm
      rcases hm with rfl | rfl
      · exact .inr (.inl rfl)
      · exact .inr (.inr (.inl rfl))
  · rw [k3 M hPM.symm (fun e => b2'.2.1 e.symm), k2 M hMl b_M]; exact m1
  · rw [k3 _ (by omega) (by omega)]; exact v2
  · intro m hm
    have e : m ≠ P ∧ m ≠ M ∧ m ∉ o1.names ∧ m ≠ B + 1 ∧ m < G.length := by
      rcases hm with hm | rfl | rfl
      · exact ⟨fun e => ap2 (e ▸ hm), fun e => ap3 (e ▸ hm), fun e => (ap1 m e).2.2 hm, fun e => b2'.2.2.2 (e ▸ hm), h.foot m (by simp [tabF, hm])⟩
      · exact ⟨f1'.1, f1'.2.1, f1'.2.2.1, c1, hs.lt.1⟩
      · exact ⟨f2'.1, f2'.2.1, f2'.2.2.1, c2, hs.lt.2⟩
    rw [k3 m e.1 e.2.2.2.1, k2 m e.2.2.2.2 e.2.2.1, k1 m e.2.1]

section
variable {H : AHeap} {P M room : Nat} {ord : AVal} {sl : List Sl}

set_option maxRecDepth 10000 in
set_option maxHeartbeats 8000000 in
/-- A slot more, where there is room. -/
theorem fresh_new (h : TabS H P M room ord sl) {hd : Hd} (his : is32 hd.s) (hchk : checkOf hd = 0) (hw : SlotW { hd with i := 0 } []) (hfree : sl.length < room) (hno : ∀ x ∈ sl, x.h.s ≠ hd.s) (Q : AVal → AHeap → Prop)
    (hq : ∀ H' ord' S2 M2, Touches (tabF P M ord sl) H (tabF P M ord' (sl ++ [⟨S2, M2, { hd with i := 0 }, []⟩])) H' → TabS H' P M room ord' (sl ++ [⟨S2, M2, { hd with i := 0 }, []⟩]) → Q (.tup [.agg [.nils, .bool false, .bool false, .int .u32 0], .int .i64 0]) H') :
    FunOK Try.prog F.table_Table_fresh [.ptr P 0, .agg (encHd hd)] H Q := by
  have hr := h.r
  have hpl := (List.getElem?_eq_some_iff.1 h.p).1
  have hsl := h.o.slen
  refine fun_V 100 table_Table_fresh_code rfl ?_
  have px : ∀ X, (H ++ X)[P]? = _ := fun X => (at_low hpl).trans h.p
  have d : decide (((sl.length : Nat) : Int) ≥ (room : Nat)) = false := decide_eq_false (by omega)
  have d' : decide (((room : Nat) : Int) ≤ (sl.length : Nat)) = false := decide_eq_false (by omega)
  simp (disch := first | omega | (simp only [lnx]; omega)) only [stdh, stdx, ↓reduceIte, seval, table_Table_fresh, table_Table_fresh.body, table_Table_fresh.d0, encHd, px, hsl, d, d']
  refine callK_fn (snew_ok _ hd hchk _ ?_)
  intro G S2 M2 hk hS hM hs
  have hl := hk.1
  have hk0 : Keeps H G := (keeps_append _ _).trans hk
  simp only [List.length_append, List.length_cons, List.length_nil] at hS hM hl
  have hft := h.foot
  have nin : ∀ m, H.length ≤ m → m ∉ tabF P M ord sl := fun m hm hh => by have := hft m hh; omega
  refine runL_V 6 ?_
  simp (disch := first | omega | (simp only [lnx]; omega)) only [stdh, stdx, ↓reduceIte, seval]
  refine ftail (h.keeps hk0) his hw hfree hno hs (nin _ (by omega)) (nin _ (by omega)) (hk.get at_0) (hk.get at_k) (hk.get at_k) (nin _ (by omega)) (nin _ (by omega)) (nin _ (by omega)) (by omega) (by omega) Q ?_
  intro H' ord' q1 q2 q3 q4
  refine hq H' ord' S2 M2 ⟨by omega, fun m hm => ?_, fun m h1 h2 => ?_⟩ q4
  · rcases q3 m hm with h | rfl | rfl | h
    · exact .inl h
    · exact .inr (by omega)
    · exact .inr (by omega)
    · exact .inr (by omega)
  · rw [q2 m (by omega) h2 (by omega)]
    exact hk0.2 m h1

set_option maxRecDepth 10000 in
set_option maxHeartbeats 8000000 in
/-- A slot more, another one going for it. -/
theorem fresh_evict {a b : List Sl} {x : Sl} (h : TabS H P M room ord (a ++ x :: b)) {hd : Hd} (his : is32 hd.s) (hchk : checkOf hd = 0) (hw : SlotW { hd with i := 0 } []) (hfull : room ≤ (a ++ x :: b).length) (hno : ∀ y ∈ a ++ x :: b, y.h.s ≠ hd.s)
    (hold : oldest ((a ++ x :: b).map fun x => x.h.s) = x.h.s) (hl : aftI hd.s x.h.s = true) (Q : AVal → AHeap → Prop)
    (hq : ∀ H' ord' S2 M2, Touches (tabF P M ord (a ++ x :: b)) H (tabF P M ord' (a ++ b ++ [⟨S2, M2, { hd with i := 0 }, []⟩])) H' → TabS H' P M room ord' (a ++ b ++ [⟨S2, M2, { hd with i := 0 }, []⟩]) → Q (.tup [.agg [.nils, .bool false, .bool true, .int .u32 x.h.s], .int .i64 0]) H') :
    FunOK Try.prog F.table_Table_fresh [.ptr P 0, .agg (encHd hd)] H Q := by
  obtain ⟨L, n, hLL, hnl, hL⟩ : ∃ L n, ord = .slc L 0 n 1 ∧ n = ((a ++ x :: b).map fun x => x.h.s).length ∧ H[L]? = some (.vec (seqV (a ++ x :: b)) T.uint32 1) := by
    rcases h.o.is with ⟨_, h0⟩ | ⟨k, _, h2, h3⟩
    · simp at h0
    · exact ⟨k, _, h2, by simp, h3⟩
  have hLl : L < H.length := (List.getElem?_eq_some_iff.1 hL).1
  have hr := h.r
  have hnl' : n = a.length + (b.length + 1) := by simpa using hnl
  simp only [List.length_append, List.length_cons] at hr hfull
  have h32 : ∀ q ∈ (a ++ x :: b).map fun x => x.h.s, is32 q := fun q hq => by
    obtain ⟨x, hx, rfl⟩ := List.mem_map.1 hq
    exact (h.s x hx).2.2
  have hp := h.p
  rw [hLL] at hp
  have hpl := (List.getElem?_eq_some_iff.1 hp).1
  refine fun_V 100 table_Table_fresh_code rfl ?_
  have px : ∀ X, (H ++ X)[P]? = _ := fun X => (at_low hpl).trans hp
  have lx : ∀ X, (H ++ X)[L]? = _ := fun X => (at_low hLl).trans hL
  have d : decide ((n : Int) ≥ (room : Nat)) = true := decide_eq_true (by omega)
  have d' : decide (((room : Nat) : Int) ≤ (n : Nat)) = true := decide_eq_true (by omega)
  simp (disch := first | omega | (simp only [lnx]; omega)) only [stdh, stdx, ↓reduceIte, seval, table_Table_fresh, table_Table_fresh.body, table_Table_fresh.d0, encHd, px, d, d']
  refine callK_fn (soldest_ok (lx _) hnl (by omega) (by omega) h32 _ ?_)
  refine runL_V 60 ?_
  rw [hold]
  simp (disch := first | omega | (simp only [lnx]; omega)) only [stdh, stdx, ↓reduceIte, seval]
  refine callK_fn (aftI_ok _ his (h.s x (by simp)).2.2 _ ?_)
  rw [hl]
  refine runL_V 60 ?_
  simp (disch := first | omega | (simp only [lnx]; omega)) only [stdh, stdx, ↓reduceIte, seval]
  refine callK_fn (dropT_yes (h.keeps (keeps_append _ _)) rfl _ ?_)
  intro G ord1 ht h1
  have hft := h.foot
  have nin : ∀ m, H.length ≤ m → m ∉ tabF P M ord (a ++ x :: b) := fun m hm hh => by have := hft m hh; omega
  have hGl := ht.le
  simp only [List.length_append, List.length_cons, List.length_nil] at hGl
  have gB := (ht.kept H.length (by (first | omega | (simp only [lnx]; omega))) (nin _ (by omega))).trans at_0
  have gO := (ht.kept (H.length + 1) (by (first | omega | (simp only [lnx]; omega))) (nin _ (by omega))).trans at_k
  have gV := (ht.kept (H.length + 2) (by (first | omega | (simp only [lnx]; omega))) (nin _ (by omega))).trans at_k
  have nin1 : ∀ m, m ∈ tabF P M ord1 (a ++ b) → m ∈ tabF P M ord (a ++ x :: b) ∨ H.length + 3 ≤ m := fun m hm => by
    rcases ht.feet m hm with h | h
    · exact .inl h
    · simp only [List.length_append, List.length_cons, List.length_nil] at h
      exact .inr h
  have nin2 : ∀ m, H.length ≤ m → m < H.length + 3 → m ∉ tabF P M ord1 (a ++ b) := fun m h1 h2 hm => by
    rcases nin1 m hm with h | h
    · exact nin m h1 h
    · omega
  refine runL_V 60 ?_
  simp (disch := first | omega | (simp only [lnx]; omega)) only [stdh, stdx, ↓reduceIte, seval, gB, gO, gV, List.getElem?_set_ne, List.getElem?_set_self]
  have hkk : ∀ m, m ≠ H.length + 2 → (G.set (H.length + 2) (.cells [.nils, .bool false, .bool true, .int .u32 x.h.s] T.table_Out))[m]? = G[m]? := fun m hm => List.getElem?_set_ne (fun e => hm e.symm)
  have gV2 : (G.set (H.length + 2) (.cells [.nils, .bool false, .bool true, .int .u32 x.h.s] T.table_Out))[H.length + 2]? = some (.cells [.nils, .bool false, .bool true, .int .u32 x.h.s] T.table_Out) := List.getElem?_set_self (by omega)
  have gl2 : (G.set (H.length + 2) (.cells [.nils, .bool false, .bool true, .int .u32 x.h.s] T.table_Out)).length = G.length := by simp
  have h2 : TabS (G.set (H.length + 2) (.cells [.nils, .bool false, .bool true, .int .u32 x.h.s] T.table_Out)) P M room ord1 (a ++ b) := h1.keep fun m hm => hkk m fun e => nin2 m (by omega) (by omega) hm
  have gB2 := (hkk H.length (by omega)).trans gB
  have gO2 := (hkk (H.length + 1) (by omega)).trans gO
  generalize G.set (H.length + 2) (.cells [.nils, .bool false, .bool true, .int .u32 x.h.s] T.table_Out) = G1 at *
  refine callK_fn (snew_ok _ hd hchk _ ?_)
  intro G3 S2 M2 hk hS hM hs
  have hl3 := hk.1
  refine runL_V 6 ?_
  simp (disch := first | omega | (simp only [lnx]; omega)) only [stdh, stdx, ↓reduceIte, seval]
  have nin3 : ∀ m, G1.length ≤ m → m ∉ tabF P M ord1 (a ++ b) := fun m h1 hm => by have := h2.foot m hm; omega
  have hsub : ∀ y, y ∈ a ++ b → y ∈ a ++ x :: b := fun y hy => by
    rw [List.mem_append] at hy
    rcases hy with hy | hy <;> simp [hy]
  refine ftail (h2.keeps hk) his hw ?_ (fun y hy => hno y (hsub y hy)) hs (nin3 _ (by omega)) (nin3 _ (by omega)) (hk.get gB2) (hk.get gO2) (hk.get gV2) (nin2 _ (by omega) (by omega)) (nin2 _ (by omega) (by omega)) (nin2 _ (by omega) (by omega)) (by omega) (by omega) Q ?_
  · rw [List.length_append]; omega
  intro H' ord' q1 q2 q3 q4
  refine hq H' ord' S2 M2 ⟨by omega, fun m hm => ?_, fun m h1' h2' => ?_⟩ q4
  · rcases q3 m hm with h | rfl | rfl | h
    · rcases nin1 m h with h | h
      · exact .inl h
      · exact .inr (by omega)
    · exact .inr (by omega)
    · exact .inr (by omega)
    · exact .inr (by omega)
  · have hm1 : m ∉ tabF P M ord1 (a ++ b) := fun hm => by
      rcases nin1 m hm with h | h
      · exact h2' h
      · omega
    rw [q2 m (by omega) hm1 (by omega), hk.2 m (by omega), hkk m (by omega), ht.kept m (by (first | omega | (simp only [lnx]; omega))) h2', at_low h1']
end
end Go.Proofs.Ytamcfgdnhgmkpaa
