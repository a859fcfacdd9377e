/-
  Lemmas on the way to the statements of this seat. By an AI agent. No person has read it.
-/
import Derived.Test.YtchijhlfccedfaaAm6
import Derived.Test.YtchijhlfccedfaaSLOTA
set_option linter.unusedSimpArgs false
set_option linter.unusedVariables false

namespace Go.Am
open Go

def shHead : Sh := .struct [.int .i64, .int .i64, .int .u32, .int .i64, .int .i64]
def shFrame : Sh := .struct [shHead, .slice (.int .u8)]

/-- A frame that is handed in. -/
theorem frame_fits {a : AVal} (h : FitsA shFrame a) : ∃ (v k s i c : Int) (bs : List Nat), Sees a (.agg [.int .i64 v, .int .i64 k, .int .u32 s, .int .i64 i, .int .i64 c, nums .u8 false bs]) ∧
    (Lit.int .i64 v).wf = true ∧ (Lit.int .i64 k).wf = true ∧ (Lit.int .u32 s).wf = true ∧ (Lit.int .i64 i).wf = true ∧ (Lit.int .i64 c).wf = true ∧ (∀ b ∈ bs, (Lit.int .u8 (b : Int)).wf = true) ∧ bs.length ≤ 9223372036854775807 := by
  obtain ⟨l, rfl, h⟩ := h
  obtain ⟨l1, l2, rfl, h1, h2⟩ := h
  obtain ⟨l3, l4, rfl, h3, h4⟩ := h2
  have h4' : l4 = [] := h4
  subst h4'
  obtain ⟨_, _, rfl, ⟨v, rfl, b1⟩, h1⟩ := h1
  obtain ⟨_, _, rfl, ⟨k, rfl, b2⟩, h1⟩ := h1
  obtain ⟨_, _, rfl, ⟨s, rfl, b3⟩, h1⟩ := h1
  obtain ⟨_, _, rfl, ⟨i, rfl, b4⟩, h1⟩ := h1
  obtain ⟨_, _, rfl, ⟨c, rfl, b5⟩, h1⟩ := h1
  have h1' : _ = ([] : List AVal) := h1
  subst h1'
  have h5 : ∃ x, l3 = [x] := by
    rcases h3 with rfl | ⟨gs, t, _, rfl, _⟩
    · exact ⟨_, rfl⟩
    · exact ⟨_, rfl⟩
  obtain ⟨x, rfl⟩ := h5
  obtain ⟨bs, q1, q2, q3⟩ := nums_fits (k := .u8) rfl (show FitsA (.slice (.int .u8)) x from h3)
  exact ⟨v, k, s, i, c, bs, Sees.agg (SeesL.cons (Sees.refl _) (SeesL.cons (Sees.refl _) (SeesL.cons (Sees.refl _) (SeesL.cons (Sees.refl _) (SeesL.cons (Sees.refl _) (SeesL.cons q1 SeesL.nil)))))), b1, b2, b3, b4, b5, q2, q3⟩
end Go.Am

namespace Go.Proofs.Ytchijhlfccedfaa
open Go Go.Am
set_option linter.unusedSimpArgs false
set_option linter.unusedVariables false

/-! What came, as a sum. -/

def sumC (c : Nat → Bool) (f : Nat → Nat) : Nat → Nat
  | 0 => 0
  | k + 1 => sumC c f k + if c k = true then f k else 0
def addC (c : Nat → Bool) (j : Nat) : Nat → Bool := fun x => decide (x = j) || c x

theorem sumC_low {c : Nat → Bool} {f : Nat → Nat} {j : Nat} : ∀ {k}, k ≤ j → sumC (addC c j) f k = sumC c f k
  | 0, _ => rfl
  | k + 1, h => by
    have : addC c j k = c k := by simp [addC, show ¬ k = j by omega]
    rw [sumC, sumC, sumC_low (k := k) (by omega), this]
theorem sumC_add {c : Nat → Bool} {f : Nat → Nat} {j : Nat} (hc : c j = false) : ∀ {k}, j < k → sumC (addC c j) f k = sumC c f k + f j
  | 0, h => by omega
  | k + 1, h => by
    rw [sumC, sumC]
    by_cases hj : k = j
    · subst hj
      rw [sumC_low (Nat.le_refl _), hc]
      simp [addC]
    · have : addC c j k = c k := by simp [addC, hj]
      rw [sumC_add hc (k := k) (by omega), this]; omega
theorem sumC_le {c : Nat → Bool} {f : Nat → Nat} : ∀ k, sumC c f k ≤ sumC (fun _ => true) f k
  | 0 => Nat.le_refl _
  | k + 1 => by
    have := sumC_le (c := c) (f := f) k
    rw [sumC, sumC]
    split <;> simp <;> omega
theorem sumC_one {c : Nat → Bool} : ∀ k, sumC c (fun _ => 1) k ≤ k
  | 0 => Nat.le_refl _
  | k + 1 => by
    have := sumC_one (c := c) k
    rw [sumC]
    split <;> omega
theorem sumC_full {c : Nat → Bool} : ∀ {k}, sumC c (fun _ => 1) k = k → ∀ j, j < k → c j = true
  | 0, _, j, hj => by omega
  | k + 1, h, j, hj => by
    have := sumC_one (c := c) k
    rw [sumC] at h
    by_cases hk : c k = true
    · rw [if_pos hk] at h
      by_cases hjk : j = k
      · subst hjk; exact hk
      · exact sumC_full (k := k) (by omega) j (by omega)
    · rw [if_neg hk] at h; omega
/-- While one lacks there is a first one. -/
theorem sumC_lack {c : Nat → Bool} : ∀ {k}, sumC c (fun _ => 1) k < k → ∃ j, j < k ∧ c j = false
  | 0, h => by omega
  | k + 1, h => by
    by_cases hk : c k = true
    · rw [sumC, if_pos hk] at h
      obtain ⟨j, h1, h2⟩ := sumC_lack (c := c) (k := k) (by omega)
      exact ⟨j, by omega, h2⟩
    · exact ⟨k, by omega, by simpa using hk⟩
theorem sumC_parts {r : Nat} {ys : List Nat} : ∀ k, sumC (fun _ => true) (fun j => (partP r ys j).length) k = (partsP r ys k).flatten.length
  | 0 => rfl
  | k + 1 => by rw [sumC, sumC_parts k, partsP_succ]; simp
theorem sumC_max {c : Nat → Bool} {r : Nat} {ys : List Nat} (k : Nat) : sumC c (fun j => (partP r ys j).length) k ≤ ys.length := by
  have h := sumC_le (c := c) (f := fun j => (partP r ys j).length) k
  rw [sumC_parts, partsP_flat] at h
  have := List.length_take_le (k * r) ys
  have h2 : (ys.take (k * r)).length ≤ ys.length := by rw [List.length_take]; omega
  omega

/-! The map of a slot. -/

def entE (val : Nat → AVal) (j : Nat) : AVal × AVal := (.int .i64 (j : Nat), val j)
theorem find_ent {val : Nat → AVal} {j : Nat} : ∀ {col : List Nat}, find (.int .i64 (j : Nat)) (col.map (entE val)) = if j ∈ col then some (val j) else none
  | [] => rfl
  | x :: col => by
    rw [List.map_cons, find]
    by_cases h : (j : Int) = (x : Int)
    · have : j = x := by omega
      subst this
      simp [entE, keyEq]
    · have h2 : ¬ j = x := by omega
      have h3 : keyEq (.int .i64 (j : Nat)) (entE val x).1 = false := decide_eq_false h
      rw [h3, find_ent (col := col)]
      simp [h2]
theorem upd_ent {val : Nat → AVal} {j : Nat} {w : AVal} : ∀ {col : List Nat}, j ∉ col → upd (.int .i64 (j : Nat)) w (col.map (entE val)) = (col ++ [j]).map (entE fun x => if x = j then w else val x)
  | [], _ => by simp [upd, entE]
  | x :: col, h => by
    simp only [List.mem_cons, not_or] at h
    have h3 : keyEq (.int .i64 (j : Nat)) (entE val x).1 = false := decide_eq_false (by have := h.1; omega)
    rw [List.map_cons, upd, h3]
    simp only [Bool.false_eq_true, if_false]
    rw [upd_ent h.2]
    simp [entE, show ¬ x = j from fun h' => h.1 h'.symm]
theorem key_ent {val : Nat → AVal} {j : Nat} {col : List Nat} : keyOk (.int .i64 (j : Nat)) (col.map (entE val)) := by
  intro p hp
  obtain ⟨x, _, rfl⟩ := List.mem_map.1 hp
  exact ⟨_, rfl⟩

/-- A slot with those fragments that came. -/
structure SlotAt (H : AHeap) (S M : Nat) (h : Hd) (r : Nat) (ys : List Nat) (k : Nat) (c : Nat → Bool) (col : List Nat) (val : Nat → AVal) : Prop where
  s : H[S]? = some (.cells [.int .i64 h.v, .int .i64 h.k, .int .u32 h.s, .int .i64 0, .int .i64 (k : Nat), .mapv M, .int .i64 (sumC c (fun j => (partP r ys j).length) k : Nat)] T.slot_Slot)
  m : H[M]? = some (.map (col.map (entE val)))
  v : ∀ j ∈ col, ∃ b, val j = .slc b 0 (partP r ys j).length 1 ∧ H[b]? = some (.vec (w8s (partP r ys j)) T.uint8 1)
  is : ∀ j, j ∈ col ↔ j < k ∧ c j = true
  n : col.length = sumC c (fun _ => 1) k

theorem SlotAt.keep {H H' : AHeap} {S M : Nat} {h : Hd} {r : Nat} {ys : List Nat} {k : Nat} {c : Nat → Bool} {col : List Nat} {val : Nat → AVal} (hs : SlotAt H S M h r ys k c col val) (hk : Keeps H H') : SlotAt H' S M h r ys k c col val where
  s := hk.get hs.s
  m := hk.get hs.m
  v := fun j hj => by obtain ⟨b, h1, h2⟩ := hs.v j hj; exact ⟨b, h1, hk.get h2⟩
  is := hs.is
  n := hs.n
set_option linter.unusedSimpArgs false
set_option linter.unusedVariables false

section
variable {H : AHeap} {S M : Nat} {h : Hd} {r : Nat} {ys : List Nat} {k : Nat} {c : Nat → Bool} {col : List Nat} {val : Nat → AVal}

theorem have_ok (hs : SlotAt H S M h r ys k c col val) (Q : AVal → AHeap → Prop) (hq : Q (.int .i64 (sumC c (fun _ => 1) k : Nat)) H) : FunOK Try.prog F.slot_Slot_Have [.ptr S 0] H Q := by
  refine fun_V 60 slot_Slot_Have_code rfl ?_
  have hl : (col.map (entE val)).length = sumC c (fun _ => 1) k := by rw [List.length_map]; exact hs.n
  simp (disch := first | omega | (simp only [lnx]; omega)) only [stdh, stdx, ↓reduceIte, seval, slot_Slot_Have, slot_Slot_Have.body, eqA, hs.s, hs.m, hl]
  exact hq

theorem full_ok (hs : SlotAt H S M h r ys k c col val) (Q : AVal → AHeap → Prop) (hq : Q (.bool (decide (sumC c (fun _ => 1) k = k))) H) : FunOK Try.prog F.slot_Slot_Full [.ptr S 0] H Q := by
  refine fun_V 60 slot_Slot_Full_code rfl ?_
  have hl : (col.map (entE val)).length = sumC c (fun _ => 1) k := by rw [List.length_map]; exact hs.n
  by_cases he : sumC c (fun _ => 1) k = k
  · rw [decide_eq_true he] at hq
    have hd : decide ((sumC c (fun _ => 1) k : Int) = (k : Int)) = true := decide_eq_true (by omega)
    simp (disch := first | omega | (simp only [lnx]; omega)) only [stdh, stdx, ↓reduceIte, seval, slot_Slot_Full, slot_Slot_Full.body, slot_Slot_Full.d0, eqA, hs.s, hs.m, hl, hd]
    try exact hq
  · rw [decide_eq_false he] at hq
    have hd : decide ((sumC c (fun _ => 1) k : Int) = (k : Int)) = false := decide_eq_false (by omega)
    simp (disch := first | omega | (simp only [lnx]; omega)) only [stdh, stdx, ↓reduceIte, seval, slot_Slot_Full, slot_Slot_Full.body, slot_Slot_Full.d0, eqA, hs.s, hs.m, hl, hd]
    try exact hq

theorem snewslot_ok (H : AHeap) (h : Hd) (hk : checkOf h = 0) (Q : AVal → AHeap → Prop) (hq : Q (.tup [.ptr (H.length + 2) 0, .int .i64 0]) (H ++ [.cells (encHd { h with i := 0 }) T.head_Head, .map [], .cells [.int .i64 h.v, .int .i64 h.k, .int .u32 h.s, .int .i64 0, .int .i64 h.c, .mapv (H.length + 1), .int .i64 0] T.slot_Slot])) : FunOK Try.prog F.slot_New [.agg (encHd h)] H Q := by
  refine fun_V 60 slot_New_code rfl ?_
  simp (disch := first | omega | (simp only [lnx]; omega)) only [stdh, stdx, ↓reduceIte, seval, slot_New, slot_New.body, encHd]
  refine callK_fn (check_ok _ h _ ?_)
  rw [hk]
  refine runL_V 60 ?_
  simp (disch := first | omega | (simp only [lnx]; omega)) only [stdh, stdx, ↓reduceIte, seval, List.getElem?_set_self]
  simpa [encHd] using hq

theorem mates_self (h : Hd) (i j : Int) (c : Int) : mates (hdAt h i c) (hdAt h j c) = true := by simp [mates, hdAt]

set_option maxRecDepth 10000 in
set_option maxHeartbeats 4000000 in
/-- A fragment that came before. -/
theorem put_twice (hs : SlotAt H S M h r ys k c col val) {j : Nat} (hj : j < k) (hc : c j = true) (hne : 0 < (partP r ys j).length) (Q : AVal → AHeap → Prop) (hq : Q (.int .i64 16) H) : FunOK Try.prog F.slot_Slot_Put [.ptr S 0, .agg (encFr ⟨hdAt h (j : Nat) (k : Nat), partP r ys j⟩)] H Q := by
  refine fun_iced slot_Slot_Put_code fun _ => ?_
  refine fun_V 100 slot_Slot_Put_code rfl ?_
  have sx : ∀ L, (H ++ L)[S]? = some (.cells [.int .i64 h.v, .int .i64 h.k, .int .u32 h.s, .int .i64 0, .int .i64 (k : Nat), .mapv M, .int .i64 (sumC c (fun j => (partP r ys j).length) k : Nat)] T.slot_Slot) := fun L => (at_low (List.getElem?_eq_some_iff.1 hs.s).1).trans hs.s
  have mx : ∀ L, (H ++ L)[M]? = some (.map (col.map (entE val))) := fun L => (at_low (List.getElem?_eq_some_iff.1 hs.m).1).trans hs.m
  have hmem : j ∈ col := (hs.is j).2 ⟨hj, hc⟩
  have hf : find (.int .i64 (j : Nat)) (col.map (entE val)) = some (val j) := by rw [find_ent, if_pos hmem]
  have hko := key_ent (val := val) (j := j) (col := col)
  simp (disch := first | omega | (simp only [lnx]; omega)) only [stdh, stdx, ↓reduceIte, seval, slot_Slot_Put, slot_Slot_Put.body, slot_Slot_Put.d0, slot_Slot_Put.d1, encFr, hdAt, eqA, sx, mx, hf, hko, kindA]
  refine callD_fn (mates_ok _ (hdAt h (j : Nat) (k : Nat)) (hdAt h 0 (k : Nat)) _ ?_)
  rw [mates_self]
  refine ⟨by simp (disch := first | omega | (simp only [lnx]; omega)) only [stdh, stdx, ↓reduceIte, seval], ?_⟩
  refine runD_V 60 ?_
  have d1 : decide (((partP r ys j).length : Int) = 0) = false := decide_eq_false (by omega)
  simp (disch := first | omega | (simp only [lnx]; omega)) only [stdh, stdx, ↓reduceIte, seval, slot_Slot_Put.d2, sx, d1]
  exact ice_none trivial hq

set_option maxRecDepth 10000 in
set_option maxHeartbeats 4000000 in
/-- A new fragment. -/
theorem put_new (hs : SlotAt H S M h r ys k c col val) (hys : ys.length ≤ 192) {j : Nat} (hj : j < k) (hc : c j = false) (hne : 0 < (partP r ys j).length) (Q : AVal → AHeap → Prop)
    (hq : ∀ H' val', SlotAt H' S M h r ys k (addC c j) (col ++ [j]) val' → H.length ≤ H'.length → (∀ x, x < H.length → x ≠ S → x ≠ M → H'[x]? = H[x]?) → Q (.int .i64 0) H') : FunOK Try.prog F.slot_Slot_Put [.ptr S 0, .agg (encFr ⟨hdAt h (j : Nat) (k : Nat), partP r ys j⟩)] H Q := by
  refine fun_V 100 slot_Slot_Put_code rfl ?_
  have hSl := (List.getElem?_eq_some_iff.1 hs.s).1
  have hMl := (List.getElem?_eq_some_iff.1 hs.m).1
  have hSM : S ≠ M := fun e => by have := hs.s; rw [e, hs.m] at this; cases this
  have sx : ∀ L, (H ++ L)[S]? = some (.cells [.int .i64 h.v, .int .i64 h.k, .int .u32 h.s, .int .i64 0, .int .i64 (k : Nat), .mapv M, .int .i64 (sumC c (fun j => (partP r ys j).length) k : Nat)] T.slot_Slot) := fun L => (at_low hSl).trans hs.s
  have mx : ∀ L, (H ++ L)[M]? = some (.map (col.map (entE val))) := fun L => (at_low hMl).trans hs.m
  have hnm : j ∉ col := fun hm => by have := ((hs.is j).1 hm).2; rw [hc] at this; cases this
  have hf : find (.int .i64 (j : Nat)) (col.map (entE val)) = none := by rw [find_ent, if_neg hnm]
  have hko := key_ent (val := val) (j := j) (col := col)
  have hsum := sumC_add (f := fun j => (partP r ys j).length) hc hj
  have hmax := sumC_max (c := addC c j) (r := r) (ys := ys) k
  have hone := sumC_add (f := fun _ => 1) hc hj
  simp (disch := first | omega | (simp only [lnx]; omega)) only [stdh, stdx, ↓reduceIte, seval, slot_Slot_Put, slot_Slot_Put.body, slot_Slot_Put.d0, slot_Slot_Put.d1, encFr, hdAt, eqA, sx, mx, hf, hko, kindA]
  refine callD_fn (mates_ok _ (hdAt h (j : Nat) (k : Nat)) (hdAt h 0 (k : Nat)) _ ?_)
  rw [mates_self]
  refine ⟨by simp (disch := first | omega | (simp only [lnx]; omega)) only [stdh, stdx, ↓reduceIte, seval], ?_⟩
  refine runD_V 60 ?_
  have d1 : decide (((partP r ys j).length : Int) = 0) = false := decide_eq_false (by omega)
  have d3 : decide ((192 : Int) - (sumC c (fun j => (partP r ys j).length) k : Nat) < ((partP r ys j).length : Int)) = false := decide_eq_false (by omega)
  simp (disch := first | omega | (simp only [lnx]; omega)) only [stdh, stdx, ↓reduceIte, seval, slot_Slot_Put.d2, slot_Slot_Put.d3, sx, d1, d3]
  intro s hs2
  obtain rfl : s = [0, 1, 2, 3, 4, 5, 6, 8, 9, 7, 10, 11] := by simpa using hs2
  have hpl : (partP r ys j).length ≤ 192 := by omega
  have happ : ∀ b, ∃ P : Prop, appendA (H ++ [b, ABlk.vec [] T.uint8 1]) T.uint8 1 1 (.slc (H.length + 1) 0 0 1) (nums .u8 false (partP r ys j)) = some (P, .slc (H.length + 2) 0 (partP r ys j).length 1, H ++ [b, .dead, .vec (w8s (partP r ys j)) T.uint8 1]) ∧ P := fun b => by
    have ho : Own 1 T.uint8 0 (H ++ [b, ABlk.vec [] T.uint8 1]) (.slc (H.length + 1) 0 0 1) 0 [] := ⟨rfl, .inr ⟨H.length + 1, Nat.zero_le _, rfl, at_k⟩⟩
    obtain ⟨p, a1, hp⟩ := Own.append3 ho (x := nums .u8 false (partP r ys j)) (k := (partP r ys j).length) (ys := w8s (partP r ys j)) 1 rfl rfl (by simp [w8s]) (by omega) (by omega) (by omega) (w8s_cellish _)
    refine ⟨p, ?_, hp⟩
    rw [a1, Nat.zero_add]
    simp [killA, set_k]
  obtain ⟨P, a1, hP⟩ := happ (ABlk.cells [AVal.int IntKind.i64 h.v, AVal.int IntKind.i64 h.k, AVal.int IntKind.u32 h.s, AVal.int IntKind.i64 (j : Nat), AVal.int IntKind.i64 (k : Nat), nums IntKind.u8 false (partP r ys j)] T.frame_Frame)
  have hu := upd_ent (val := val) (w := .slc (H.length + 2) 0 (partP r ys j).length 1) hnm
  refine runD_V 100 ?_
  simp (disch := first | omega | (simp only [lnx]; omega)) only [stdh, stdx, ↓reduceIte, seval, slot_Slot_Put.d4, sx, mx, a1, hP, hu, kindA, hko]
  generalize hB : ABlk.cells [AVal.int IntKind.i64 h.v, AVal.int IntKind.i64 h.k, AVal.int IntKind.u32 h.s, AVal.int IntKind.i64 (j : Nat), AVal.int IntKind.i64 (k : Nat), nums IntKind.u8 false (partP r ys j)] T.frame_Frame = B at *
  have g0 : ∀ x, x < H.length → x ≠ M → ∀ b, ((H ++ [B, ABlk.dead, ABlk.vec (w8s (partP r ys j)) T.uint8 1]).set M b)[x]? = H[x]? := fun x h1 h2 b => by
    rw [List.getElem?_set_ne (fun e => h2 e.symm), at_low h1]
  have gs := fun b => (g0 S hSl hSM b).trans hs.s
  have g3 : ((H ++ [B, ABlk.dead, ABlk.vec (w8s (partP r ys j)) T.uint8 1]).set M (.map ((col ++ [j]).map (entE fun x => if x = j then AVal.slc (H.length + 2) 0 (partP r ys j).length 1 else val x))))[M]? = some (.map ((col ++ [j]).map (entE fun x => if x = j then AVal.slc (H.length + 2) 0 (partP r ys j).length 1 else val x))) := List.getElem?_set_self (by simp; omega)
  have g2 : ∀ b, ((H ++ [B, ABlk.dead, ABlk.vec (w8s (partP r ys j)) T.uint8 1]).set M b)[H.length + 2]? = some (ABlk.vec (w8s (partP r ys j)) T.uint8 1) := fun b => by
    rw [List.getElem?_set_ne (by omega)]; exact at_k
  have gB : ∀ b, ((H ++ [B, ABlk.dead, ABlk.vec (w8s (partP r ys j)) T.uint8 1]).set M b)[H.length]? = some B := fun b => by
    rw [List.getElem?_set_ne (by omega)]; exact at_0
  have glen : ∀ b, ((H ++ [B, ABlk.dead, ABlk.vec (w8s (partP r ys j)) T.uint8 1]).set M b).length = H.length + 3 := fun b => by simp
  generalize hval : (fun x => if x = j then AVal.slc (H.length + 2) 0 (partP r ys j).length 1 else val x) = val' at *
  have h0 := fun x hx h2 => g0 x hx h2 (.map ((col ++ [j]).map (entE val')))
  replace gs := gs (.map ((col ++ [j]).map (entE val')))
  replace g2 := g2 (.map ((col ++ [j]).map (entE val')))
  replace gB := gB (.map ((col ++ [j]).map (entE val')))
  replace glen := glen (.map ((col ++ [j]).map (entE val')))
  generalize (H ++ [B, ABlk.dead, ABlk.vec (w8s (partP r ys j)) T.uint8 1]).set M (.map ((col ++ [j]).map (entE val'))) = H1 at *
  rw [← hB] at gB
  simp (disch := first | omega | (simp only [lnx]; omega)) only [stdh, stdx, ↓reduceIte, seval, slot_Slot_Put.d5, gs, gB]
  have hcast : ((sumC c (fun j => (partP r ys j).length) k : Nat) : Int) + ((partP r ys j).length : Nat) = ((sumC (addC c j) (fun j => (partP r ys j).length) k : Nat) : Int) := by rw [hsum]; omega
  rw [hcast]
  refine hq _ val' ⟨List.getElem?_set_self (by omega), ?_, ?_, ?_, ?_⟩ (by rw [List.length_set]; omega) ?_
  · rw [List.getElem?_set_ne hSM]; exact g3
  · intro x hx
    rw [List.mem_append, List.mem_singleton] at hx
    by_cases hxj : x = j
    · subst hxj
      refine ⟨H.length + 2, by rw [← hval]; simp, ?_⟩
      rw [List.getElem?_set_ne (by omega)]; exact g2
    · have hxc : x ∈ col := by
        rcases hx with hx | hx
        · exact hx
        · exact absurd hx hxj
      obtain ⟨b, v1, v2⟩ := hs.v x hxc
      have hb1 : b ≠ S := fun e => by rw [e, hs.s] at v2; cases v2
      have hb2 : b ≠ M := fun e => by rw [e, hs.m] at v2; cases v2
      refine ⟨b, by rw [← hval]; simp [hxj, v1], ?_⟩
      rw [List.getElem?_set_ne (fun e => hb1 e.symm), h0 b (List.getElem?_eq_some_iff.1 v2).1 hb2]
      exact v2
  · intro x
    rw [List.mem_append, List.mem_singleton, hs.is x]
    simp only [addC, Bool.or_eq_true, decide_eq_true_eq]
    constructor
    · rintro (⟨a, b⟩ | rfl)
      · exact ⟨a, .inr b⟩
      · exact ⟨hj, .inl rfl⟩
    · rintro ⟨a, rfl | b⟩
      · exact .inr rfl
      · exact .inl ⟨a, b⟩
  · rw [List.length_append, hs.n, hone]; rfl
  · intro x h1 h2 h3
    rw [List.getElem?_set_ne (fun e => h2 e.symm)]
    exact h0 x h1 h3
end
end Go.Proofs.Ytchijhlfccedfaa

namespace Go.Proofs.Ytchijhlfccedfaa
open Go Go.Am
set_option linter.unusedSimpArgs false
set_option linter.unusedVariables false

abbrev sbC : Ctx := ⟨F.slot_Slot_Bytes, 28, [.tmp 2, .tmp 3], none⟩

section
variable {H0 : AHeap} {S M : Nat} {h : Hd} {r : Nat} {ys : List Nat} {k : Nat} {c : Nat → Bool} {col : List Nat} {val : Nat → AVal}

set_option maxHeartbeats 4000000 in
theorem sb_loop (hs : SlotAt H0 S M h r ys k c col val) (hys : ys.length ≤ 192) (hkl : k ≤ 192) (hfull : ∀ j, j < k → c j = true) (K : List AItem) (Q : AVal → AHeap → Prop)
    (hQ : ∀ rr H a, Keeps H0 H → Own 1 T.uint8 H0.length H a (partsP r ys k).flatten.length (w8s (partsP r ys k).flatten) → rget rr 4 = a → Run Try.prog sbC K rr H Q) :
    ∀ (z i : Nat) (H : AHeap) (a : AVal), k - i = z → i ≤ k → Keeps H0 H → Own 1 T.uint8 H0.length H a (partsP r ys i).flatten.length (w8s (partsP r ys i).flatten) →
    Rounds Try.prog sbC slot_Slot_Bytes.b0 [.inBlock 0] K [(0, .ptr S 0), (4, a), (14, .int .i64 (k : Nat)), (15, .int .i64 (i : Nat))] H Q
  | z, i, H, a, h1, h2, hk, ho => by
    refine loop_V 100 slot_Slot_Bytes.b0.eq_1 ?_
    have sx := hk.get hs.s
    have mx := hk.get hs.m
    by_cases hi : i < k
    · have hmem : i ∈ col := (hs.is i).2 ⟨hi, hfull i hi⟩
      have hf : find (.int .i64 (i : Nat)) (col.map (entE val)) = some (val i) := by rw [find_ent, if_pos hmem]
      have hko := key_ent (val := val) (j := i) (col := col)
      obtain ⟨b, v1, v2⟩ := hs.v i hmem
      have vx := hk.get v2
      have hlen : (partsP r ys i).flatten.length + (partP r ys i).length ≤ 192 := by
        have e : (partsP r ys (i + 1)).flatten.length = (partsP r ys i).flatten.length + (partP r ys i).length := by rw [partsP_succ]; simp
        rw [← e, partsP_flat, List.length_take]; omega
      obtain ⟨w, H3, p, a1, hp, ho3, hk3⟩ := Own.append ho (x := .slc b 0 (partP r ys i).length 1) (k := (partP r ys i).length) (ys := w8s (partP r ys i)) 1 (H0 := H0) hk rfl (by simp [srcCells, view, vx, content, w8s, List.take_of_length_le]) (by simp [w8s]) (by omega) (by omega) (by omega) (w8s_cellish _)
      have hcast : (i : Int) + 1 = ((i + 1 : Nat) : Int) := by omega
      simp (disch := first | omega | (simp only [lnx]; omega)) only [stdh, stdx, ↓reduceIte, seval, sx, mx, hf, hko, kindA, v1, Option.getD_some, a1, hp]
      rw [hcast]
      refine sb_loop hs hys hkl hfull K Q hQ _ (i + 1) H3 w rfl (by omega) hk3 ?_
      rw [partsP_succ, List.flatten_append, List.length_append, w8s_append]
      simpa using ho3
    · simp (disch := first | omega | (simp only [lnx]; omega)) only [stdh, stdx, ↓reduceIte, seval]
      rw [show i = k by omega] at ho
      exact hQ _ H a hk ho rfl
  termination_by z => z

theorem bytes_ok {H : AHeap} (hs : SlotAt H S M h r ys k c col val) (hys : ys.length ≤ 192) (hkl : k ≤ 192) (hcnt : sumC c (fun _ => 1) k = k) (hflat : (partsP r ys k).flatten = ys) (Q : AVal → AHeap → Prop) (hq : Q (.tup [nums .u8 false ys, .bool true]) H) : FunOK Try.prog F.slot_Slot_Bytes [.ptr S 0] H Q := by
  refine fun_iced slot_Slot_Bytes_code fun _ => ?_
  refine fun_V 60 slot_Slot_Bytes_code rfl ?_
  simp (disch := first | omega | (simp only [lnx]; omega)) only [stdh, stdx, ↓reduceIte, seval, slot_Slot_Bytes, slot_Slot_Bytes.body]
  refine callK_fn (full_ok hs _ ?_)
  rw [decide_eq_true hcnt]
  refine runL_V 60 ?_
  simp (disch := first | omega | (simp only [lnx]; omega)) only [stdh, stdx, ↓reduceIte, seval, hs.s]
  refine sb_loop hs hys hkl (sumC_full hcnt) _ _ ?_ _ 0 _ .nils rfl (Nat.zero_le _) (Keeps.refl _) Own.nil
  intro rr H3 a hk3 ho hr
  refine run_V0 60 ?_
  simp (disch := first | omega | (simp only [lnx]; omega)) only [stdh, stdx, ↓reduceIte, seval, hr]
  rw [hflat] at ho
  refine ice_tup [(a, nums .u8 false ys), (.bool true, .bool true)] hk3 ?_ hq
  intro q hq'
  simp only [List.mem_cons, List.not_mem_nil, or_false] at hq'
  rcases hq' with rfl | rfl
  · exact Fin.own ho (closeds_ints _ _)
  · exact Fin.same trivial
end
end Go.Proofs.Ytchijhlfccedfaa

namespace Go.Proofs.Ytchijhlfccedfaa
open Go Go.Am
set_option linter.unusedSimpArgs false
set_option linter.unusedVariables false

abbrev soC : Ctx := ⟨F.cuneiformlaw13_SlotOrder, 175, [.tmp 8], none⟩

theorem wrap_nat (o : Int) : ∃ u : Nat, IntKind.u64.wrap o = (u : Int) := by
  refine ⟨(IntKind.u64.wrap o).toNat, ?_⟩
  have : 0 ≤ IntKind.u64.wrap o := by
    simp only [IntKind.wrap, IntKind.signed, IntKind.bits]
    simp
    omega
  omega

def comeL (c : Nat → Bool) (k : Nat) : List AVal := (List.range k).map fun j => .bool (c j)
theorem comeL_len (c : Nat → Bool) (k : Nat) : (comeL c k).length = k := by simp [comeL]
theorem comeL_get {c : Nat → Bool} {k j : Nat} (h : j < k) : (comeL c k).getD j .junk = .bool (c j) := by simp [comeL, List.getD_eq_getElem?_getD, h]
theorem comeL_set {c : Nat → Bool} {k j : Nat} (h : j < k) : (comeL c k).set j (.bool true) = comeL (addC c j) k := by
  apply List.ext_getElem?
  intro x
  by_cases hx : x < k
  · by_cases hxj : j = x
    · subst hxj
      rw [List.getElem?_set_self (by simp [comeL, hx])]
      simp [comeL, hx, addC]
    · rw [List.getElem?_set_ne hxj]
      simp [comeL, hx, addC, show ¬ x = j from fun e => hxj e.symm]
  · rw [List.getElem?_eq_none (by simp [comeL]; omega), List.getElem?_eq_none (by simp [comeL]; omega)]
theorem sumC_none {f : Nat → Nat} : ∀ k, sumC (fun _ => false) f k = 0
  | 0 => rfl
  | k + 1 => by rw [sumC, sumC_none k]; rfl
theorem come_load {H : AHeap} {C k j : Nat} {c : Nat → Bool} (hC : H[C]? = some (.vec (comeL c k) T.bool 1)) (hj : j < k) : loadA H none (.sptr (.slc C 0 k 1) j) = some (True, .bool (c j)) := by
  have ho : Own 1 T.bool 0 H (.slc C 0 k 1) k (comeL c k) := ⟨by simp [comeL], .inr ⟨C, Nat.zero_le _, rfl, hC⟩⟩
  rw [ho.load (by rw [comeL_len]; exact hj), comeL_get hj]
theorem come_store {H : AHeap} {C k j : Nat} {c : Nat → Bool} (hC : H[C]? = some (.vec (comeL c k) T.bool 1)) (hj : j < k) : ∃ P : Prop, storeA H 1 (.sptr (.slc C 0 k 1) j) (.bool true) = some (P, H.set C (.vec (comeL (addC c j) k) T.bool 1)) ∧ P := by
  have hf : fillAt (comeL c k) (0 + j) (AVal.bool true).cells = comeL (addC c j) k := by
    rw [← comeL_set hj, Nat.zero_add]
    show fillAt (comeL c k) j [AVal.bool true] = _
    simp [fillAt, List.set_eq_take_append_cons_drop, comeL_len, hj]
  refine ⟨_, by simp only [storeA, hC, hf]; rfl, ?_⟩
  exact ⟨by omega, by omega, by rw [comeL_len]; omega, rfl, rfl⟩
theorem come_view {H : AHeap} {C k : Nat} {c : Nat → Bool} (hC : H[C]? = some (.vec (comeL c k) T.bool 1)) : (view H (.slc C 0 k 1)).isSome = true := by
  simp [view, hC, content, comeL_len]

theorem SlotAt.setC {H : AHeap} {S M C : Nat} {h : Hd} {r : Nat} {ys : List Nat} {k : Nat} {c : Nat → Bool} {col : List Nat} {val : Nat → AVal} (hs : SlotAt H S M h r ys k c col val) {xs : List AVal} (hC : H[C]? = some (.vec xs T.bool 1)) (h1 : C ≠ S) (h2 : C ≠ M) (b : ABlk) : SlotAt (H.set C b) S M h r ys k c col val where
  s := by rw [List.getElem?_set_ne h1]; exact hs.s
  m := by rw [List.getElem?_set_ne h2]; exact hs.m
  v := fun j hj => by
    obtain ⟨q, q1, q2⟩ := hs.v j hj
    refine ⟨q, q1, ?_⟩
    have hne : C ≠ q := fun e => by
      rw [← e, hC] at q2
      injection q2 with q3
      injection q3 with _ q4 _
      exact absurd q4 (by decide)
    rw [List.getElem?_set_ne hne]; exact q2
  is := hs.is
  n := hs.n

/-- The first one that lacks. -/
theorem so_first (K : List AItem) {H : AHeap} (Q : AVal → AHeap → Prop) {S C k n i : Nat} {c : Nat → Bool} {b o l : AVal} (hk : k ≤ 192) (hC : H[C]? = some (.vec (comeL c k) T.bool 1)) (hlack : ∃ j, j < k ∧ c j = false)
    (hK : ∀ j, j < k → c j = false → Run Try.prog soC K [(1, b), (3, o), (9, l), (11, .ptr S 0), (13, .slc C 0 k 1), (14, .int .i64 (n : Nat)), (15, .int .i64 (i : Nat)), (16, .int .i64 (j : Nat)), (112, .bool false)] H Q) :
    ∀ (z j : Nat) (L : Regs), k - j = z → (∀ x, x < j → c x = true) → Rounds Try.prog soC cuneiformlaw13_SlotOrder.b0 [.inBlock 2] K ((1, b) :: (3, o) :: (9, l) :: (11, .ptr S 0) :: (13, .slc C 0 k 1) :: (14, .int .i64 (n : Nat)) :: (15, .int .i64 (i : Nat)) :: (16, .int .i64 (j : Nat)) :: L) H Q
  | z, j, L, h1, h2 => by
    have hj : j < k := by
      obtain ⟨x, x1, x2⟩ := hlack
      refine Classical.byContradiction fun hh => ?_
      rw [h2 x (by omega)] at x2; cases x2
    refine loop_V 60 cuneiformlaw13_SlotOrder.b0.eq_1 ?_
    have hld := come_load hC hj
    have hv := come_view hC
    by_cases hc : c j = true
    · rw [hc] at hld
      simp (disch := first | omega | (simp only [lnx]; omega)) only [stdh, stdx, ↓reduceIte, seval, hld, hv]
      rw [show (j : Int) + 1 = ((j + 1 : Nat) : Int) by omega]
      exact so_first K Q hk hC hlack hK _ (j + 1) [] rfl fun x hx => by
        by_cases hxj : x = j
        · rw [hxj]; exact hc
        · exact h2 x (by omega)
    · have hc : c j = false := by simpa using hc
      rw [hc] at hld
      simp (disch := first | omega | (simp only [lnx]; omega)) only [stdh, stdx, ↓reduceIte, seval, hld, hv]
      exact hK j hj hc
  termination_by z => z

set_option maxRecDepth 10000 in
set_option maxHeartbeats 8000000 in
theorem so_loop {S M C r k : Nat} {h : Hd} {ys : List Nat} {t : Bool} {order : List Int} (hys : ys.length ≤ 192) (hr : 0 < r) (hk : k = cntP ys.length r) (hk0 : 0 < k) (hol : order.length ≤ 9223372036854775807) (K : List AItem) (Q : AVal → AHeap → Prop)
    (hQ : ∀ rr H c col val, SlotAt H S M h r ys k c col val → sumC c (fun _ => 1) k = k → rget rr 1 = nums .u8 t ys → rget rr 11 = .ptr S 0 → Run Try.prog soC K rr H Q) :
    ∀ (z i n : Nat) (H : AHeap) (c : Nat → Bool) (col : List Nat) (val : Nat → AVal), (min order.length 300 - i) + (k - n) = z → i ≤ 300 + n → n = sumC c (fun _ => 1) k → SlotAt H S M h r ys k c col val → H[C]? = some (.vec (comeL c k) T.bool 1) → C ≠ S → C ≠ M →
    Rounds Try.prog soC cuneiformlaw13_SlotOrder.b1 [.inBlock 0] K [(1, nums .u8 t ys), (3, ints false order), (9, recs encFr false (framesN h ys r k)), (11, .ptr S 0), (13, .slc C 0 k 1), (14, .int .i64 (n : Nat)), (15, .int .i64 (i : Nat))] H Q
  | z, i, n, H, c, col, val, h1, h2, h3, hs, hC, hCS, hCM => by
    have hn := sumC_one (c := c) k
    have hkl : k ≤ ys.length := by rw [hk]; exact cntP_le hr
    have hfl : (framesN h ys r k).length = k := framesN_len
    have hCl : C < H.length := (List.getElem?_eq_some_iff.1 hC).1
    have hfrj : ∀ j, j < k → ∀ H, loadA H (some 6) (.sptr (recs encFr false (framesN h ys r k)) (j * 6)) = some (True, .agg (encFr ⟨hdAt h (j : Nat) (k : Nat), partP r ys j⟩)) := fun j hj H => by
      have e : (framesN h ys r k).getD j default = ⟨hdAt h (j : Nat) (k : Nat), partP r ys j⟩ := by
        have e2 : (framesN h ys r k).getD j default = frAt h ys r j := by simp [framesN, List.getD_eq_getElem?_getD, hj]
        rw [e2, frAt, ← hk]
      rw [← e]; exact load_recs (enc := encFr) (t := false) encFr_len (by omega)
    have hne : ∀ j, j < k → 0 < (partP r ys j).length := fun j hj => by
      have := (cntP_lt (n := ys.length) hr).1 (hk ▸ hj)
      rw [partP_len]; omega
    refine loop_V 100 cuneiformlaw13_SlotOrder.b1.eq_1 ?_
    have key : (i < order.length ∧ i < 300) ∨ (¬ (i < order.length ∧ i < 300) ∧ n < k) ∨ (¬ (i < order.length ∧ i < 300) ∧ ¬ n < k) := by omega
    have hcond : ∀ {G : Prop}, ¬ (i < order.length ∧ i < 300) → (decide ((i : Int) < (order.length : Int)) = false → G) → (decide ((i : Int) < (order.length : Int)) = true → decide ((i : Int) < 300) = false → G) → G := fun hno g1 g2 => by
      by_cases h1 : i < order.length
      · exact g2 (decide_eq_true (by omega)) (decide_eq_false (by omega))
      · exact g1 (decide_eq_false (by omega))
    rcases key with hA | ⟨hA, hB⟩ | ⟨hA, hB⟩
    case inr.inr =>
      have d3 : decide ((n : Int) < (k : Int)) = false := decide_eq_false (by omega)
      have fin : sumC c (fun _ => 1) k = k := by omega
      refine hcond hA (fun d1 => ?_) (fun d1 d2 => ?_)
      · simp (disch := first | omega | (simp only [lnx]; omega)) only [stdh, stdx, ↓reduceIte, seval, d1, d3, hfl]
        exact hQ _ H c col val hs fin rfl rfl
      · simp (disch := first | omega | (simp only [lnx]; omega)) only [stdh, stdx, ↓reduceIte, seval, d1, d2, d3, hfl]
        exact hQ _ H c col val hs fin rfl rfl
    case' inl =>
      have d1 : decide ((i : Int) < (order.length : Int)) = true := decide_eq_true (by omega)
      have d2 : decide ((i : Int) < 300) = true := decide_eq_true (by omega)
      obtain ⟨u, hu⟩ := wrap_nat (order.getD i 0)
      have hlo : loadA H none (.sptr (ints false order) i) = some (True, .int .i64 (order.getD i 0)) := load_ints hA.1
      obtain ⟨j, hrem, hjk⟩ : ∃ j : Nat, (u : Int).tmod (k : Int) = (j : Int) ∧ j < k := ⟨u % k, by rw [Int.tmod_eq_emod_of_nonneg (by omega)]; rfl, Nat.mod_lt _ hk0⟩
      have hm1 : c j = true → (min order.length 300 - (i + 1)) + (k - n) < z ∧ i + 1 ≤ 300 + n := fun _ => by omega
      have hm2 : c j = false → (min order.length 300 - (i + 1)) + (k - (n + 1)) < z ∧ i + 1 ≤ 300 + (n + 1) := fun _ => by omega
      simp (disch := first | omega | (simp only [lnx]; omega)) only [stdh, stdx, ↓reduceIte, seval, d1, d2, hfl, hlo, hu, hrem, hfrj j hjk]
    case' inr.inl =>
      have hlack := sumC_lack (c := c) (k := k) (by omega)
      have d3 : decide ((n : Int) < (k : Int)) = true := decide_eq_true (by omega)
      refine hcond hA (fun d1 => ?_) (fun d1 d2 => ?_)
    case' inr.inl.refine_1 => simp (disch := first | omega | (simp only [lnx]; omega)) only [stdh, stdx, ↓reduceIte, seval, d1, d3, hfl]
    case' inr.inl.refine_2 => simp (disch := first | omega | (simp only [lnx]; omega)) only [stdh, stdx, ↓reduceIte, seval, d1, d2, d3, hfl]
    case' inr.inl.refine_1 | inr.inl.refine_2 =>
      refine so_first _ _ (by omega) hC hlack ?_ _ 0 [(98, .bool false)] rfl (fun x hx => by omega)
      intro j hjk hcj
      have hm1 : c j = true → (min order.length 300 - (i + 1)) + (k - n) < z ∧ i + 1 ≤ 300 + n := fun hh => by rw [hcj] at hh; cases hh
      have hm2 : c j = false → (min order.length 300 - (i + 1)) + (k - (n + 1)) < z ∧ i + 1 ≤ 300 + (n + 1) := fun _ => by omega
      refine run_V0 100 ?_
      simp (disch := first | omega | (simp only [lnx]; omega)) only [stdh, stdx, ↓reduceIte, seval, hfl, hfrj j hjk]
    all_goals
      have hcast : (i : Int) + 1 = ((i + 1 : Nat) : Int) := by omega
      by_cases hcj' : c j = true
      · first
        | exact absurd hcj' (by rw [hcj]; exact Bool.false_ne_true)
        | (obtain ⟨m1, m2⟩ := hm1 hcj'
           refine callK_fn (put_twice hs hjk hcj' (hne j hjk) _ ?_)
           have l := come_load hC hjk
           rw [hcj'] at l
           refine runL_V 120 ?_
           simp (disch := first | omega | (simp only [lnx]; omega)) only [stdh, stdx, ↓reduceIte, seval, l, come_view hC, eqA]
           refine callK_fn (full_ok hs _ ?_)
           rw [← h3]
           refine runL_V 60 ?_
           have dn : decide ((n : Int) = (k : Int)) = decide (n = k) := by by_cases hh : n = k <;> simp [hh]; omega
           have dd : decide (decide (n = k) = decide (n = k)) = true := decide_eq_true rfl
           have db : (decide (n = k) == decide (n = k)) = true := beq_self_eq_true _
           simp (disch := first | omega | (simp only [lnx]; omega)) only [stdh, stdx, ↓reduceIte, seval, hfl, dn, dd, db, eqA]
           refine callK_fn (have_ok hs _ ?_)
           rw [← h3]
           refine runL_V 60 ?_
           have dnn : decide ((n : Int) = (n : Int)) = true := decide_eq_true rfl
           simp (disch := first | omega | (simp only [lnx]; omega)) only [stdh, stdx, ↓reduceIte, seval, dnn]
           rw [hcast]
           try rw [List.append_nil]
           exact so_loop hys hr hk hk0 hol K Q hQ _ (i + 1) n H c col val rfl m2 h3 hs hC hCS hCM)
      · have hcf : c j = false := by simpa using hcj'
        obtain ⟨m1, m2⟩ := hm2 hcf
        refine callK_fn (put_new hs hys hjk hcf (hne j hjk) _ fun H' val' hs' hle hkeep => ?_)
        have hC' := (hkeep C hCl hCS hCM).trans hC
        have l := come_load hC' hjk
        rw [hcf] at l
        obtain ⟨P, a1, hP⟩ := come_store hC' hjk
        have hs2 := hs'.setC hC' hCS hCM (.vec (comeL (addC c j) k) T.bool 1)
        have hC2 : (H'.set C (.vec (comeL (addC c j) k) T.bool 1))[C]? = some (.vec (comeL (addC c j) k) T.bool 1) := List.getElem?_set_self (by omega)
        have hn2 : n + 1 = sumC (addC c j) (fun _ => 1) k := by rw [sumC_add hcf hjk, h3]
        refine runL_V 120 ?_
        simp (disch := first | omega | (simp only [lnx]; omega)) only [stdh, stdx, ↓reduceIte, seval, l, come_view hC', eqA, a1, hP]
        have e14 : (n : Int) + 1 = ((n + 1 : Nat) : Int) := by omega
        rw [e14]
        refine callK_fn (full_ok hs2 _ ?_)
        rw [← hn2]
        refine runL_V 60 ?_
        have dn : decide (((n + 1 : Nat) : Int) = (k : Int)) = decide (n + 1 = k) := by by_cases hh : n + 1 = k <;> simp [hh]; omega
        have dd : decide (decide (n + 1 = k) = decide (n + 1 = k)) = true := decide_eq_true rfl
        have db : (decide (n + 1 = k) == decide (n + 1 = k)) = true := beq_self_eq_true _
        simp (disch := first | omega | (simp only [lnx]; omega)) only [stdh, stdx, ↓reduceIte, seval, hfl, dn, dd, db, eqA]
        refine callK_fn (have_ok hs2 _ ?_)
        rw [← hn2]
        refine runL_V 60 ?_
        have dnn : decide (((n + 1 : Nat) : Int) = ((n + 1 : Nat) : Int)) = true := decide_eq_true rfl
        simp (disch := first | omega | (simp only [lnx]; omega)) only [stdh, stdx, ↓reduceIte, seval, dnn]
        rw [hcast]
        try rw [List.append_nil]
        exact so_loop hys hr hk hk0 hol K Q hQ _ (i + 1) (n + 1) _ (addC c j) (col ++ [j]) val' rfl m2 hn2 hs2 hC2 hCS hCM
  termination_by z => z
set_option linter.unusedSimpArgs false
set_option linter.unusedVariables false

theorem known13_ok (H : AHeap) (Q : AVal → AHeap → Prop) (h : Q (.bool true) H) : FunOK Try.prog F.cuneiformlaw13_known [] H Q := fun_reck codes_ok 100000 (.bool true) (by kernel_rfl) rfl rfl H Q h

theorem frameErr_bad {h : Hd} {ys : List Nat} {r : Nat} (hys : ys.length ≤ 192) (hr : 1 ≤ r ∧ r ≤ 242) (he : frameErr h ys (r : Int) ≠ 0) : ys.length = 0 ∨ frameErr h ys (r : Int) = 10 ∨ frameErr h ys (r : Int) = 9 := by
  unfold frameErr at he ⊢
  by_cases h0 : ys.length = 0
  · exact .inl h0
  rw [if_neg h0, if_neg (by omega), if_neg (by omega)] at he ⊢
  have c1 := cntP_pos (n := ys.length) (r := r) (by omega)
  have c2 := cntP_le (n := ys.length) (r := r) (by omega)
  rw [Int.toNat_natCast] at he ⊢
  generalize cntP ys.length r = c at *
  have q2 : bads (hdAt h 0 (c : Nat)) 2 = false := by rw [bads, if_neg (by omega), if_neg (by omega)]; exact decide_eq_false (by simp only [hdAt]; omega)
  unfold checkOf at he ⊢
  rw [q2] at he ⊢
  split
  · exact .inr (.inl rfl)
  split
  · exact .inr (.inr rfl)
  · rename_i g1 g2
    rw [if_neg g1, if_neg g2] at he
    exact absurd rfl he

set_option maxRecDepth 10000 in
set_option maxHeartbeats 8000000 in
theorem slotorder_ok {h : Hd} {bs : List Nat} (hb : ∀ b ∈ bs, b < 256) (hlen : bs.length ≤ 9223372036854775807) {room : Int} {order : List Int} (hol : order.length ≤ 9223372036854775807) : FunOK Try.prog F.cuneiformlaw13_SlotOrder [.agg (encHd h), nums .u8 false bs, .int .i64 room, ints false order] [] fun av _ => av = .bool true := by
  refine fun_V 60 cuneiformlaw13_SlotOrder_code rfl ?_
  obtain ⟨u, hu⟩ := wrap_nat room
  obtain ⟨r0, hrem, hr0⟩ : ∃ j : Nat, (u : Int).tmod 242 = (j : Int) ∧ j < 242 := ⟨u % 242, by rw [Int.tmod_eq_emod_of_nonneg (by omega)]; rfl, Nat.mod_lt _ (by omega)⟩
  simp (disch := first | omega | (simp only [lnx]; omega)) only [stdh, stdx, ↓reduceIte, seval, cuneiformlaw13_SlotOrder, cuneiformlaw13_SlotOrder.body, encHd, hu, hrem]
  obtain ⟨ys, hys⟩ : ∃ ys, ys = bs.take (if (192 : Int) < (bs.length : Int) then 192 else (bs.length : Int)).toNat := ⟨_, rfl⟩
  have hyl : ys.length ≤ 192 := by
    rw [hys, List.length_take]
    split <;> omega
  rw [← hys]
  clear hys
  rw [show (1 : Int) + (r0 : Int) = ((r0 + 1 : Nat) : Int) by omega]
  obtain ⟨r, hr⟩ : ∃ r : Nat, r = r0 + 1 := ⟨_, rfl⟩
  rw [← hr]
  refine callK_fn (frames_ok _ h (by omega) (by omega) _ ?_)
  refine runL_V 60 ?_
  by_cases he : frameErr h ys (r : Int) = 0
  case neg =>
    have hd : decide ((frameErr h ys (r : Int) : Int) = 0) = false := decide_eq_false (by omega)
    have hbad := frameErr_bad hyl (by omega) he
    simp (disch := first | omega | (simp only [lnx]; omega)) only [stdh, stdx, ↓reduceIte, seval, hd]
    refine callK_fn (known13_ok _ _ ?_)
    refine runL_V 60 ?_
    by_cases h0 : ys.length = 0
    · have d0 : decide ((ys.length : Int) = 0) = true := decide_eq_true (by omega)
      simp (disch := first | omega | (simp only [lnx]; omega)) only [stdh, stdx, ↓reduceIte, seval, d0]
    · have d0 : decide ((ys.length : Int) = 0) = false := decide_eq_false (by omega)
      rcases hbad with hz | hz | hz
      · exact absurd hz h0
      · rw [hz]; simp (disch := first | omega | (simp only [lnx]; omega)) only [stdh, stdx, ↓reduceIte, seval, d0]
      · rw [hz]; simp (disch := first | omega | (simp only [lnx]; omega)) only [stdh, stdx, ↓reduceIte, seval, d0]
  have hpos : 0 < ys.length := Nat.pos_of_ne_zero fun hz => by
    unfold frameErr at he
    rw [if_pos hz] at he; omega
  obtain ⟨k, hk⟩ : ∃ k, k = cntP ys.length r := ⟨_, rfl⟩
  have hk0 : 0 < k := by rw [hk]; exact cntP_pos hpos
  have hkl : k ≤ ys.length := by rw [hk]; exact cntP_le (by omega)
  have hfo : framesOf h ys (r : Int) = framesN h ys r k := by rw [framesOf, if_pos he, Int.toNat_natCast, hk]
  have hchk : checkOf (hdAt h 0 (k : Nat)) = 0 := by
    have := he
    unfold frameErr at this
    rw [if_neg (by omega), if_neg (by omega), if_neg (by omega), Int.toNat_natCast, ← hk] at this
    exact this
  have hfl : (framesN h ys r k).length = k := framesN_len
  have hkz : decide ((k : Int) = 0) = false := decide_eq_false (by omega)
  have hl0 : ∀ H, loadA H (some 5) (.sptr (recs encFr false (framesN h ys r k)) 0) = some (True, .agg (encHd (hdAt h 0 (k : Nat)))) := fun H => by
    have := (frs_recs (H := H) (t := false) (fs := framesN h ys r k)).loadN (j := 0) (o := 0) (n := 5) (by omega) (by omega)
    have e2 : (framesN h ys r k).getD 0 default = frAt h ys r 0 := by simp [framesN, List.getD_eq_getElem?_getD, hk0]
    rw [e2, frAt, ← hk] at this
    simpa [encFr, encHd] using this
  rw [he, hfo]
  simp (disch := first | omega | (simp only [lnx]; omega)) only [stdh, stdx, ↓reduceIte, seval, hfl, hkz, hl0]
  refine callK_fn (snewslot_ok _ (hdAt h 0 (k : Nat)) hchk _ ?_)
  refine runL_V 60 ?_
  simp (disch := first | omega | (simp only [lnx]; omega)) only [stdh, stdx, ↓reduceIte, seval, eqA, hfl]
  have hcome : (List.replicate k [AVal.bool false]).flatten = comeL (fun _ => false) k := by
    simp [comeL, List.map_const']
  rw [hcome]
  refine so_loop (S := 3) (M := 2) (C := 4) (r := r) (k := k) (h := h) (ys := ys) hyl (by omega) hk hk0 hol _ _ ?_ _ 0 0 _ (fun _ => false) [] (fun _ => .nils) rfl (by omega) (sumC_none k).symm ⟨by rw [sumC_none]; rfl, rfl, fun j hj => (by cases hj), fun j => (by simp), (sumC_none k).symm⟩ rfl (by omega) (by omega)
  intro rr H' c col val hs hcnt r1 r11
  have hflat : (partsP r ys k).flatten = ys := by rw [hk]; exact partsP_whole (by omega)
  refine run_V0 60 ?_
  simp (disch := first | omega | (simp only [lnx]; omega)) only [stdh, stdx, ↓reduceIte, seval, r1, r11]
  refine callK_fn (bytes_ok hs hyl (by omega) hcnt hflat _ ?_)
  refine runL_V 60 ?_
  simp (disch := first | omega | (simp only [lnx]; omega)) only [stdh, stdx, ↓reduceIte, seval, r1, r11]
  refine callK_fn (known13_ok _ _ ?_)
  refine runL_V 60 ?_
  simp (disch := first | omega | (simp only [lnx]; omega)) only [stdh, stdx, ↓reduceIte, seval, r1]
  refine callK_fn (same_ok _ (nums_nats .u8 _ _ _) (nums_nats .u8 _ _ _) (by omega) _ ?_)
  rw [decide_eq_true rfl]
  refine runL_V 60 ?_
  simp (disch := first | omega | (simp only [lnx]; omega)) only [stdh, stdx, ↓reduceIte, seval]
end Go.Proofs.Ytchijhlfccedfaa
