/-
  Lemmas on the way to the statements of this seat. By an AI agent. No person has read it.
-/
import Derived.Test.YtamcfgdnhgmkpaaTABA
set_option linter.unusedSimpArgs false
set_option linter.unusedVariables false

namespace Go.Proofs.Ytamcfgdnhgmkpaa
open Go Go.Am
set_option linter.unusedSimpArgs false
set_option linter.unusedVariables false

/-! A slot: its head, and the frames that came, in their order. -/

def entF (f : Fr) : AVal × AVal := (.int .i64 f.h.i, nums .u8 false f.b)
def sizeFs (fs : List Fr) : Nat := (fs.map fun f => f.b.length).sum
/-- The payload at a place. -/
def atF : List Fr → Int → Option (List Nat)
  | [], _ => none
  | f :: fs, i => if i = f.h.i then some f.b else atF fs i
def hasF (fs : List Fr) (i : Int) : Bool := (atF fs i).isSome

theorem find_entF (i : Int) : ∀ (fs : List Fr), find (.int .i64 i) (fs.map entF) = (atF fs i).map (nums .u8 false)
  | [] => rfl
  | f :: fs => by
    simp only [List.map_cons, find, entF, keyEq, atF]
    by_cases h : i = f.h.i
    · simp [h]
    · simp only [h, decide_false, Bool.false_eq_true, if_false]
      exact find_entF i fs
theorem key_entF {i : Int} {fs : List Fr} : keyOk (.int .i64 i) (fs.map entF) := by
  simp only [keyOk]
  intro p hp
  obtain ⟨f, _, rfl⟩ := List.mem_map.1 hp
  exact ⟨f.h.i, rfl⟩
theorem upd_entF {i : Int} {a : AVal} : ∀ {fs : List Fr}, atF fs i = none → upd (.int .i64 i) a (fs.map entF) = fs.map entF ++ [(.int .i64 i, a)]
  | [], _ => rfl
  | f :: fs, h => by
    rw [atF] at h
    split at h
    · cases h
    · rename_i hi
      simp only [List.map_cons, upd, entF, keyEq, hi, decide_false, Bool.false_eq_true, if_false]
      rw [upd_entF h]
      rfl
theorem sizeFs_append (fs : List Fr) (f : Fr) : sizeFs (fs ++ [f]) = sizeFs fs + f.b.length := by simp [sizeFs]
theorem atF_append (fs : List Fr) (f : Fr) (i : Int) : atF (fs ++ [f]) i = (atF fs i).or (if i = f.h.i then some f.b else none) := by
  induction fs with
  | nil => simp [atF]
  | cons g fs ih =>
    rw [List.cons_append, atF, atF, ih]
    split <;> simp

theorem closed_entF (L : Nat) (fs : List Fr) : closedEs L (fs.map entF) := by
  intro p hp
  obtain ⟨f, _, rfl⟩ := List.mem_map.1 hp
  exact ⟨trivial, closed_nums _ _ _⟩

structure SlotS (H : AHeap) (S M : Nat) (h : Hd) (fs : List Fr) : Prop where
  s : H[S]? = some (.cells [.int .i64 h.v, .int .i64 h.k, .int .u32 h.s, .int .i64 h.i, .int .i64 h.c, .mapv M, .int .i64 (sizeFs fs : Nat)] T.slot_Slot)
  m : H[M]? = some (.map (fs.map entF))
theorem SlotS.keep {H H' : AHeap} {S M : Nat} {h : Hd} {fs : List Fr} (hs : SlotS H S M h fs) (hk : Keeps H H') : SlotS H' S M h fs := ⟨hk.get hs.s, hk.get hs.m⟩
theorem SlotS.ne {H : AHeap} {S M : Nat} {h : Hd} {fs : List Fr} (hs : SlotS H S M h fs) : S ≠ M := fun e => by have := hs.s; rw [e, hs.m] at this; cases this
theorem SlotS.lt {H : AHeap} {S M : Nat} {h : Hd} {fs : List Fr} (hs : SlotS H S M h fs) : S < H.length ∧ M < H.length := ⟨(List.getElem?_eq_some_iff.1 hs.s).1, (List.getElem?_eq_some_iff.1 hs.m).1⟩

/-- What may be in a slot. -/
structure SlotW (h : Hd) (fs : List Fr) : Prop where
  c : checkOf h = 0
  i : h.i = 0
  size : sizeFs fs ≤ 192
  at' : ∀ f ∈ fs, 0 ≤ f.h.i ∧ f.h.i < h.c ∧ f.b ≠ []
  dis : fs.Pairwise fun f g => f.h.i ≠ g.h.i

/-- What Put answers. -/
def putE (h : Hd) (fs : List Fr) (f : Fr) : Nat :=
  if mates f.h h = false then 17 else if f.h.i < 0 ∨ h.c ≤ f.h.i then 3 else if f.b = [] then 13 else if hasF fs f.h.i = true then 16 else if 192 < sizeFs fs + f.b.length then 6 else 0
def putFs (h : Hd) (fs : List Fr) (f : Fr) : List Fr := if putE h fs f = 0 then fs ++ [f] else fs

theorem putE_zero {h : Hd} {fs : List Fr} {f : Fr} (he : putE h fs f = 0) : mates f.h h = true ∧ 0 ≤ f.h.i ∧ f.h.i < h.c ∧ f.b ≠ [] ∧ atF fs f.h.i = none ∧ sizeFs fs + f.b.length ≤ 192 := by
  unfold putE at he
  by_cases h1 : mates f.h h = false
  · simp [h1] at he
  by_cases h2 : f.h.i < 0 ∨ h.c ≤ f.h.i
  · simp [h1, h2] at he
  by_cases h3 : f.b = []
  · simp [h1, h2, h3] at he
  by_cases h4 : hasF fs f.h.i = true
  · simp [h1, h2, h3, h4] at he
  by_cases h5 : 192 < sizeFs fs + f.b.length
  · simp [h1, h2, h3, h4, h5] at he
  refine ⟨by simpa using h1, by omega, by omega, h3, ?_, by omega⟩
  unfold hasF at h4
  cases ha : atF fs f.h.i with
  | none => rfl
  | some b => simp [ha] at h4
theorem atF_none {fs : List Fr} {i : Int} : atF fs i = none ↔ ∀ f ∈ fs, f.h.i ≠ i := by
  induction fs with
  | nil => simp [atF]
  | cons f fs ih =>
    rw [atF]
    by_cases h : i = f.h.i
    · simp [h]
    · rw [if_neg h, ih]
      simp only [List.mem_cons, forall_eq_or_imp]
      exact ⟨fun h2 => ⟨fun e => h e.symm, h2⟩, fun h2 => h2.2⟩
theorem SlotW.put {h : Hd} {fs : List Fr} (hw : SlotW h fs) (f : Fr) : SlotW h (putFs h fs f) := by
  unfold putFs
  split
  · rename_i he
    obtain ⟨h1, h2, h3, h4, h5, h6⟩ := putE_zero he
    refine ⟨hw.c, hw.i, by rw [sizeFs_append]; exact h6, ?_, ?_⟩
    · intro g hg
      rw [List.mem_append, List.mem_singleton] at hg
      rcases hg with hg | rfl
      · exact hw.at' g hg
      · exact ⟨h2, h3, h4⟩
    · rw [List.pairwise_append]
      refine ⟨hw.dis, List.pairwise_singleton _ _, fun a ha b hb => ?_⟩
      rw [List.mem_singleton] at hb
      subst hb
      exact atF_none.1 h5 a ha
  · exact hw
set_option linter.unusedSimpArgs false
set_option linter.unusedVariables false

theorem fun_closed {P : Program} {f : FuncId} {fn : AFun} {args : List AVal} {H : AHeap} {Q : AVal → AHeap → Prop} (hf : okFun P f fn = true) (h : ClosedH H → FunOK P f args H Q) : FunOK P f args H Q :=
  ⟨callable_of hf, fun ρ vs w h1 h2 h3 => (h (hrel_closed h3)).2 ρ vs w h1 h2 h3⟩
theorem mvEs_append (f : Nat → To) : ∀ (a b : List (AVal × AVal)), mvEs f (a ++ b) = mvEs f a ++ mvEs f b
  | [], b => rfl
  | p :: a, b => by simp only [List.cons_append, mvEs, mvEs_append f a b]
theorem mvEs_id {L : Nat} {f : Nat → To} (hf : ∀ n, n < L → f n = .keep n) : ∀ (es : List (AVal × AVal)), closedEs L es → mvEs f es = es
  | [], _ => rfl
  | p :: es, h => by
    have h1 := h p (by simp)
    simp only [mvEs, mv_id hf _ h1.1, mv_id hf _ h1.2, mvEs_id hf es fun q hq => h q (by simp [hq])]

section
variable {H : AHeap} {S M : Nat} {h : Hd} {fs : List Fr}

set_option maxRecDepth 10000 in
set_option maxHeartbeats 8000000 in
/-- A frame that a slot refuses. -/
theorem sput_no (hs : SlotS H S M h fs) (f : Fr) (hfl : f.b.length ≤ 1000) (hsz : sizeFs fs ≤ 192) (he : putE h fs f ≠ 0) (Q : AVal → AHeap → Prop) (hq : Q (.int .i64 (putE h fs f : Nat)) H) : FunOK Try.prog F.slot_Slot_Put [.ptr S 0, .agg (encFr f)] H Q := by
  refine fun_iced slot_Slot_Put_code fun _ => ?_
  refine fun_V 100 slot_Slot_Put_code rfl ?_
  have sx : ∀ L, (H ++ L)[S]? = some (.cells [.int .i64 h.v, .int .i64 h.k, .int .u32 h.s, .int .i64 h.i, .int .i64 h.c, .mapv M, .int .i64 (sizeFs fs : Nat)] T.slot_Slot) := fun L => (at_low hs.lt.1).trans hs.s
  have mx : ∀ L, (H ++ L)[M]? = some (.map (fs.map entF)) := fun L => (at_low hs.lt.2).trans hs.m
  have hf := find_entF f.h.i fs
  have hko := key_entF (i := f.h.i) (fs := fs)
  simp (disch := first | omega | (simp only [lnx]; omega)) only [stdh, stdx, ↓reduceIte, seval, slot_Slot_Put, slot_Slot_Put.body, slot_Slot_Put.d0, slot_Slot_Put.d1, encFr, eqA, sx, mx, hf, hko, kindA]
  refine callD_fn (mates_ok _ f.h h _ ?_)
  refine ⟨by simp (disch := first | omega | (simp only [lnx]; omega)) only [stdh, stdx, ↓reduceIte, seval], ?_⟩
  refine runD_V 100 ?_
  unfold putE at he hq
  by_cases h1 : mates f.h h = false
  · rw [if_pos h1] at hq
    simp (disch := first | omega | (simp only [lnx]; omega)) only [stdh, stdx, ↓reduceIte, seval, h1]
    exact ice_none trivial hq
  rw [if_neg h1] at he hq
  have h1' : mates f.h h = true := by simpa using h1
  by_cases h2 : f.h.i < 0 ∨ h.c ≤ f.h.i
  · rw [if_pos h2] at hq
    by_cases h2a : f.h.i < 0
    · have d1 : decide (f.h.i < 0) = true := decide_eq_true h2a
      simp (disch := first | omega | (simp only [lnx]; omega)) only [stdh, stdx, ↓reduceIte, seval, h1', slot_Slot_Put.d2, sx, d1]
      exact ice_none trivial hq
    · have d1 : decide (f.h.i < 0) = false := decide_eq_false h2a
      have d2 : decide (f.h.i ≥ h.c) = true := decide_eq_true (by omega)
      have d3 : decide (h.c ≤ f.h.i) = true := decide_eq_true (by omega)
      simp (disch := first | omega | (simp only [lnx]; omega)) only [stdh, stdx, ↓reduceIte, seval, h1', slot_Slot_Put.d2, sx, d1, d2, d3]
      exact ice_none trivial hq
  rw [if_neg h2] at he hq
  have d1 : decide (f.h.i < 0) = false := decide_eq_false (by omega)
  have d2 : decide (h.c ≤ f.h.i) = false := decide_eq_false (by omega)
  by_cases h3 : f.b = []
  · rw [if_pos h3] at hq
    have d3 : decide ((f.b.length : Int) = 0) = true := decide_eq_true (by rw [h3]; rfl)
    simp (disch := first | omega | (simp only [lnx]; omega)) only [stdh, stdx, ↓reduceIte, seval, h1', slot_Slot_Put.d2, sx, d1, d2, d3]
    exact ice_none trivial hq
  rw [if_neg h3] at he hq
  have h3' : 0 < f.b.length := List.length_pos_iff.2 h3
  have d3 : decide ((f.b.length : Int) = 0) = false := decide_eq_false (by omega)
  by_cases h4 : hasF fs f.h.i = true
  · rw [if_pos h4] at hq
    have h4' : (atF fs f.h.i).isSome = true := h4
    simp (disch := first | omega | (simp only [lnx]; omega)) only [stdh, stdx, ↓reduceIte, seval, h1', slot_Slot_Put.d2, sx, d1, d2, d3, Option.isSome_map, h4']
    exact ice_none trivial hq
  rw [if_neg h4] at he hq
  have h4' : (atF fs f.h.i).isSome = false := by simpa [hasF] using h4
  by_cases h5 : 192 < sizeFs fs + f.b.length
  · rw [if_pos h5] at hq
    have d4 : decide ((192 : Int) - (sizeFs fs : Nat) < (f.b.length : Int)) = true := decide_eq_true (by omega)
    simp (disch := first | omega | (simp only [lnx]; omega)) only [stdh, stdx, ↓reduceIte, seval, h1', slot_Slot_Put.d2, slot_Slot_Put.d3, sx, d1, d2, d3, Option.isSome_map, h4', d4]
    exact ice_none trivial hq
  · rw [if_neg h5] at he
    exact absurd rfl he

set_option maxRecDepth 10000 in
set_option maxHeartbeats 8000000 in
/-- A frame that a slot takes. -/
theorem sput_yes (hs : SlotS H S M h fs) (f : Fr) (hsz : sizeFs fs ≤ 192) (he : putE h fs f = 0) (Q : AVal → AHeap → Prop)
    (hq : ∀ H', H'.length = H.length → (∀ x, x ≠ S → x ≠ M → H'[x]? = H[x]?) → SlotS H' S M h (fs ++ [f]) → Q (.int .i64 0) H') : FunOK Try.prog F.slot_Slot_Put [.ptr S 0, .agg (encFr f)] H Q := by
  refine fun_closed slot_Slot_Put_code fun hcH => ?_
  refine fun_trim slot_Slot_Put_code fun _ => ?_
  refine fun_V 100 slot_Slot_Put_code rfl ?_
  obtain ⟨h1, h2, h3, h4, h5, h6⟩ := putE_zero he
  have hSl := hs.lt.1
  have hMl := hs.lt.2
  have hSM := hs.ne
  have sx : ∀ L, (H ++ L)[S]? = some (.cells [.int .i64 h.v, .int .i64 h.k, .int .u32 h.s, .int .i64 h.i, .int .i64 h.c, .mapv M, .int .i64 (sizeFs fs : Nat)] T.slot_Slot) := fun L => (at_low hs.lt.1).trans hs.s
  have mx : ∀ L, (H ++ L)[M]? = some (.map (fs.map entF)) := fun L => (at_low hs.lt.2).trans hs.m
  have hf : find (.int .i64 f.h.i) (fs.map entF) = none := by rw [find_entF, h5]; rfl
  have hko := key_entF (i := f.h.i) (fs := fs)
  have h3' : 0 < f.b.length := List.length_pos_iff.2 h4
  have d1 : decide (f.h.i < 0) = false := decide_eq_false (by omega)
  have d2 : decide (h.c ≤ f.h.i) = false := decide_eq_false (by omega)
  have d3 : decide ((f.b.length : Int) = 0) = false := decide_eq_false (by omega)
  have d4 : decide ((192 : Int) - (sizeFs fs : Nat) < (f.b.length : Int)) = false := decide_eq_false (by omega)
  simp (disch := first | omega | (simp only [lnx]; omega)) only [stdh, stdx, ↓reduceIte, seval, slot_Slot_Put, slot_Slot_Put.body, slot_Slot_Put.d0, slot_Slot_Put.d1, encFr, eqA, sx, mx, hf, hko, kindA]
  refine callD_fn (mates_ok _ f.h h _ ?_)
  refine ⟨by simp (disch := first | omega | (simp only [lnx]; omega)) only [stdh, stdx, ↓reduceIte, seval], ?_⟩
  refine runD_V 60 ?_
  simp (disch := first | omega | (simp only [lnx]; omega)) only [stdh, stdx, ↓reduceIte, seval, h1, slot_Slot_Put.d2, slot_Slot_Put.d3, sx, d1, d2, d3, d4]
  intro s hs2
  obtain rfl : s = [0, 1, 2, 3, 4, 5, 6, 8, 9, 7, 10, 11] := by simpa using hs2
  have happ : ∀ b, ∃ P : Prop, appendA (H ++ [b, ABlk.vec [] T.uint8 1]) T.uint8 1 1 (.slc (H.length + 1) 0 0 1) (nums .u8 false f.b) = some (P, .slc (H.length + 2) 0 f.b.length 1, H ++ [b, .dead, .vec (w8s f.b) T.uint8 1]) ∧ P := fun b => by
    have ho : Own 1 T.uint8 0 (H ++ [b, ABlk.vec [] T.uint8 1]) (.slc (H.length + 1) 0 0 1) 0 [] := ⟨rfl, .inr ⟨H.length + 1, Nat.zero_le _, rfl, at_k⟩⟩
    obtain ⟨p, a1, hp⟩ := Own.append3 ho (x := nums .u8 false f.b) (k := f.b.length) (ys := w8s f.b) 1 rfl rfl (by simp [w8s]) (by omega) (by omega) (by omega) (w8s_cellish _)
    refine ⟨p, ?_, hp⟩
    rw [a1, Nat.zero_add]
    simp [killA, set_k]
  obtain ⟨P, a1, hP⟩ := happ (ABlk.cells (encFr f) T.frame_Frame)
  have hu := upd_entF (a := .slc (H.length + 2) 0 f.b.length 1) h5
  simp only [encFr] at a1
  refine runD_V 13 ?_
  simp (disch := first | omega | (simp only [lnx]; omega)) only [stdh, stdx, ↓reduceIte, seval, slot_Slot_Put.d4, encFr, sx, mx, a1, hP, hu, kindA, hko]
  refine run_iceAt (m := H.length + 2) (L := H.length) (el := T.uint8) (w := 1) (cs := w8s f.b) (H2 := (H ++ [ABlk.cells (encFr f) T.frame_Frame, .dead, .dead]).set M (.map ((fs ++ [f]).map entF))) ?_ (closeds_ints _ _) (by omega) (by intro n hn; cases hn) (by simp) ?_ ?_ ?_
  · rw [List.getElem?_set_ne (by omega)]; exact at_k
  · rw [List.getElem?_set_ne (by omega)]; exact at_k
  · intro _ n c hne hc
    by_cases hnM : n = M
    · subst hnM
      rw [List.getElem?_set_self (by simp; omega)] at hc
      cases hc
      refine ⟨_, List.getElem?_set_self (by simp; omega), .inl ?_⟩
      simp only [mvBlk, List.map_append, List.map_cons, List.map_nil]
      congr 1
      rw [mvEs_append, mvEs_id (L := H.length) (fun n hn => iceF_low (by omega)) _ (closed_entF _ _)]
      simp only [mvEs, mv, iceF_at, mvSlc, entF, List.drop_zero, Nat.mul_one]
      rw [List.take_of_length_le (by simp [w8s])]
      rfl
    · rw [List.getElem?_set_ne (fun e => hnM e.symm)] at hc
      by_cases hn : n < H.length
      · rw [at_low hn] at hc
        refine ⟨c, by rw [List.getElem?_set_ne (fun e => hnM e.symm), at_low hn]; exact hc, mv_blk (L := H.length) (fun n hn => iceF_low (by omega)) (hcH n c hc)⟩
      · have hlt := (List.getElem?_eq_some_iff.1 hc).1
        simp at hlt
        obtain rfl | rfl : n = H.length ∨ n = H.length + 1 := by omega
        · rw [at_0] at hc
          cases hc
          exact ⟨_, by rw [List.getElem?_set_ne (by omega)]; exact at_0, mv_blk (L := H.length) (fun n hn => iceF_low (by omega)) (by simp [closedB, closeds, closed, closed_nums])⟩
        · rw [at_k] at hc
          cases hc
          exact ⟨_, by rw [List.getElem?_set_ne (by omega)]; exact at_k, .inl rfl⟩
  rw [show mvRegs (iceF (H.length + 2) (w8s f.b)) [(0, .ptr S 0), (3, .ptr H.length 0)] = [(0, .ptr S 0), (3, .ptr H.length 0)] by simp only [mvRegs, mv, iceF_ne (show S ≠ H.length + 2 by omega), iceF_ne (show H.length ≠ H.length + 2 by omega), mvPtr]]
  have gs : ((H ++ [ABlk.cells (encFr f) T.frame_Frame, .dead, .dead]).set M (.map ((fs ++ [f]).map entF)))[S]? = some (.cells [.int .i64 h.v, .int .i64 h.k, .int .u32 h.s, .int .i64 h.i, .int .i64 h.c, .mapv M, .int .i64 (sizeFs fs : Nat)] T.slot_Slot) := by
    rw [List.getElem?_set_ne (fun e => hSM e.symm)]; exact sx _
  have gB : ((H ++ [ABlk.cells (encFr f) T.frame_Frame, .dead, .dead]).set M (.map ((fs ++ [f]).map entF)))[H.length]? = some (.cells [.int .i64 f.h.v, .int .i64 f.h.k, .int .u32 f.h.s, .int .i64 f.h.i, .int .i64 f.h.c, nums .u8 false f.b] T.frame_Frame) := by
    rw [List.getElem?_set_ne (by omega)]; exact at_0
  obtain ⟨G, hG⟩ : ∃ G, G = (H ++ [ABlk.cells (encFr f) T.frame_Frame, .dead, .dead]).set M (.map ((fs ++ [f]).map entF)) := ⟨_, rfl⟩
  rw [← hG] at gs gB ⊢
  refine run_V0 60 ?_
  simp (disch := first | omega | (simp only [lnx]; omega)) only [stdh, stdx, ↓reduceIte, seval, slot_Slot_Put.d5, gs, gB]
  have hcast : ((sizeFs fs : Nat) : Int) + (f.b.length : Nat) = ((sizeFs (fs ++ [f]) : Nat) : Int) := by rw [sizeFs_append]; omega
  rw [hcast, hG]
  have hH2 : ((H.set M (.map ((fs ++ [f]).map entF))).set S (.cells [.int .i64 h.v, .int .i64 h.k, .int .u32 h.s, .int .i64 h.i, .int .i64 h.c, .mapv M, .int .i64 (sizeFs (fs ++ [f]) : Nat)] T.slot_Slot)).length = H.length := by simp
  refine trim_flat ((H.set M (.map ((fs ++ [f]).map entF))).set S (.cells [.int .i64 h.v, .int .i64 h.k, .int .u32 h.s, .int .i64 h.i, .int .i64 h.c, .mapv M, .int .i64 (sizeFs (fs ++ [f]) : Nat)] T.slot_Slot)) hH2 (by simp) ?_ ?_ trivial (hq _ hH2 ?_ ⟨?_, ?_⟩)
  · intro n hn
    rw [List.set_append_left _ _ hMl, List.set_append_left _ _ (by simpa using hSl), List.getElem?_append_left (by simpa using hn)]
  · intro n c hn hc
    by_cases hnS : n = S
    · subst hnS
      rw [List.getElem?_set_self (by simpa using hSl)] at hc
      cases hc
      right
      simp [closedB, closeds, closed]
      omega
    · rw [List.getElem?_set_ne (fun e => hnS e.symm)] at hc
      by_cases hnM : n = M
      · subst hnM
        rw [List.getElem?_set_self hMl] at hc
        cases hc
        exact .inr (closed_entF _ _)
      · rw [List.getElem?_set_ne (fun e => hnM e.symm)] at hc
        exact .inl hc
  · intro x h1 h2
    rw [List.getElem?_set_ne (fun e => h1 e.symm), List.getElem?_set_ne (fun e => h2 e.symm)]
  · exact List.getElem?_set_self (by simpa using hSl)
  · rw [List.getElem?_set_ne hSM]; exact List.getElem?_set_self hMl
end
end Go.Proofs.Ytamcfgdnhgmkpaa

namespace Go.Proofs.Ytamcfgdnhgmkpaa
open Go Go.Am
set_option linter.unusedSimpArgs false
set_option linter.unusedVariables false

def bytesTo (fs : List Fr) : Nat → List Nat
  | 0 => []
  | k + 1 => bytesTo fs k ++ (atF fs (k : Nat)).getD []
theorem bytesTo_cons (f : Fr) (fs : List Fr) : ∀ k : Nat, (bytesTo (f :: fs) k).length ≤ (if 0 ≤ f.h.i ∧ f.h.i < (k : Int) then f.b.length else 0) + (bytesTo fs k).length
  | 0 => by simp [bytesTo]
  | k + 1 => by
    have ih := bytesTo_cons f fs k
    rw [bytesTo, bytesTo, List.length_append, List.length_append, atF]
    by_cases h : (k : Int) = f.h.i
    · rw [if_pos h, if_pos (by omega)]
      rw [if_neg (by omega)] at ih
      simp only [Option.getD_some]
      omega
    · rw [if_neg h]
      by_cases h2 : 0 ≤ f.h.i ∧ f.h.i < (k : Int)
      · rw [if_pos h2] at ih
        rw [if_pos (by omega)]
        omega
      · rw [if_neg h2] at ih
        omega
theorem bytesTo_le : ∀ (fs : List Fr) (k : Nat), (bytesTo fs k).length ≤ sizeFs fs
  | [], k => by
    have : bytesTo [] k = [] := by
      induction k with
      | zero => rfl
      | succ k ih => rw [bytesTo, ih]; rfl
    rw [this]; exact Nat.zero_le _
  | f :: fs, k => by
    have h1 := bytesTo_cons f fs k
    have h2 := bytesTo_le fs k
    have h3 : sizeFs (f :: fs) = f.b.length + sizeFs fs := by simp [sizeFs]
    split at h1 <;> omega
theorem bytesTo_mem {fs : List Fr} {b : Nat} : ∀ {k : Nat}, b ∈ bytesTo fs k → ∃ f ∈ fs, b ∈ f.b
  | 0, h => by simp [bytesTo] at h
  | k + 1, h => by
    rw [bytesTo, List.mem_append] at h
    rcases h with h | h
    · exact bytesTo_mem h
    · cases ha : atF fs (k : Nat) with
      | none => rw [ha] at h; simp at h
      | some x =>
        rw [ha] at h
        have : ∃ f ∈ fs, x = f.b := by
          clear h
          induction fs with
          | nil => cases ha
          | cons f fs ih =>
            rw [atF] at ha
            split at ha
            · cases ha; exact ⟨f, by simp, rfl⟩
            · obtain ⟨g, h1, h2⟩ := ih ha
              exact ⟨g, by simp [h1], h2⟩
        obtain ⟨f, h1, rfl⟩ := this
        exact ⟨f, h1, h⟩

abbrev slbC : Ctx := ⟨F.slot_Slot_Bytes, 28, [.tmp 2, .tmp 3], none⟩

section
variable {H : AHeap} {S M : Nat} {h : Hd} {fs : List Fr}

theorem shave_ok (hs : SlotS H S M h fs) (Q : AVal → AHeap → Prop) (hq : Q (.int .i64 (fs.length : Nat)) H) : FunOK Try.prog F.slot_Slot_Have [.ptr S 0] H Q := by
  refine fun_V 60 slot_Slot_Have_code rfl ?_
  simp (disch := first | omega | (simp only [lnx]; omega)) only [stdh, stdx, ↓reduceIte, seval, slot_Slot_Have, slot_Slot_Have.body, eqA, hs.s, hs.m, List.length_map]
  exact hq
theorem ssize_ok (hs : SlotS H S M h fs) (Q : AVal → AHeap → Prop) (hq : Q (.int .i64 (sizeFs fs : Nat)) H) : FunOK Try.prog F.slot_Slot_Size [.ptr S 0] H Q := by
  refine fun_V 60 slot_Slot_Size_code rfl ?_
  simp (disch := first | omega | (simp only [lnx]; omega)) only [stdh, stdx, ↓reduceIte, seval, slot_Slot_Size, slot_Slot_Size.body, eqA, hs.s, hs.m]
  exact hq
theorem shead_ok (hs : SlotS H S M h fs) (Q : AVal → AHeap → Prop) (hq : Q (.agg (encHd h)) H) : FunOK Try.prog F.slot_Slot_Head [.ptr S 0] H Q := by
  refine fun_iced slot_Slot_Head_code fun _ => ?_
  refine fun_V 60 slot_Slot_Head_code rfl ?_
  have sx : ∀ L, (H ++ L)[S]? = some (.cells [.int .i64 h.v, .int .i64 h.k, .int .u32 h.s, .int .i64 h.i, .int .i64 h.c, .mapv M, .int .i64 (sizeFs fs : Nat)] T.slot_Slot) := fun L => (at_low hs.lt.1).trans hs.s
  simp (disch := first | omega | (simp only [lnx]; omega)) only [stdh, stdx, ↓reduceIte, seval, slot_Slot_Head, slot_Slot_Head.body, eqA, sx]
  exact ice_keeps (keeps_append _ _) (by simp [closed, closeds]) hq
theorem sfull_ok (hs : SlotS H S M h fs) (Q : AVal → AHeap → Prop) (hq : Q (.bool (decide ((fs.length : Int) = h.c))) H) : FunOK Try.prog F.slot_Slot_Full [.ptr S 0] H Q := by
  refine fun_V 60 slot_Slot_Full_code rfl ?_
  simp (disch := first | omega | (simp only [lnx]; omega)) only [stdh, stdx, ↓reduceIte, seval, slot_Slot_Full, slot_Slot_Full.body, slot_Slot_Full.d0, eqA, hs.s, hs.m, List.length_map]
  try exact hq

theorem src_at (H : AHeap) (fs : List Fr) (i : Int) : srcLen (((atF fs i).map (nums .u8 false)).getD .nils) = some ((atF fs i).getD []).length ∧ srcCells H (((atF fs i).map (nums .u8 false)).getD .nils) = some (w8s ((atF fs i).getD [])) := by
  cases atF fs i <;> exact ⟨rfl, rfl⟩

set_option maxHeartbeats 4000000 in
theorem slb_loop {H0 : AHeap} (hs : SlotS H0 S M h fs) (hsz : sizeFs fs ≤ 192) {k : Nat} (hkl : k ≤ 1000) (K : List AItem) (Q : AVal → AHeap → Prop)
    (hQ : ∀ rr H a, Keeps H0 H → Own 1 T.uint8 H0.length H a (bytesTo fs k).length (w8s (bytesTo fs k)) → rget rr 4 = a → Run Try.prog slbC K rr H Q) :
    ∀ (z i : Nat) (H : AHeap) (a : AVal), k - i = z → i ≤ k → Keeps H0 H → Own 1 T.uint8 H0.length H a (bytesTo fs i).length (w8s (bytesTo fs i)) →
    Rounds Try.prog slbC slot_Slot_Bytes.b0 [.inBlock 0] K [(0, .ptr S 0), (4, a), (14, .int .i64 (k : Nat)), (15, .int .i64 (i : Nat))] H Q
  | z, i, H, a, h1, h2, hk, ho => by
    refine loop_V 100 slot_Slot_Bytes.b0.eq_1 ?_
    have sx := hk.get hs.s
    have mx := hk.get hs.m
    by_cases hi : i < k
    · have hf := find_entF (i : Int) fs
      have hko := key_entF (i := (i : Int)) (fs := fs)
      have hle := bytesTo_le fs (i + 1)
      rw [bytesTo, List.length_append] at hle
      obtain ⟨w, H3, p, a1, hp, ho3, hk3⟩ := Own.append ho (x := ((atF fs (i : Int)).map (nums .u8 false)).getD .nils) (k := ((atF fs (i : Int)).getD []).length) (ys := w8s ((atF fs (i : Int)).getD [])) 1 (H0 := H0) hk (src_at H fs i).1 (src_at H fs i).2 (by simp [w8s]) (by omega) (by omega) (by omega) (w8s_cellish _)
      have hcast : (i : Int) + 1 = ((i + 1 : Nat) : Int) := by omega
      simp (disch := first | omega | (simp only [lnx]; omega)) only [stdh, stdx, ↓reduceIte, seval, sx, mx, hf, hko, kindA, a1, hp]
      rw [hcast]
      refine slb_loop hs hsz hkl K Q hQ _ (i + 1) H3 w rfl (by omega) hk3 ?_
      rw [bytesTo, List.length_append, w8s_append]
      simpa using ho3
    · simp (disch := first | omega | (simp only [lnx]; omega)) only [stdh, stdx, ↓reduceIte, seval]
      rw [show i = k by omega] at ho
      exact hQ _ H a hk ho rfl
  termination_by z => z

theorem sbytes_yes (hs : SlotS H S M h fs) (hsz : sizeFs fs ≤ 192) {k : Nat} (hc : h.c = (k : Nat)) (hkl : k ≤ 1000) (hf : fs.length = k) (Q : AVal → AHeap → Prop) (hq : Q (.tup [nums .u8 false (bytesTo fs k), .bool true]) H) : FunOK Try.prog F.slot_Slot_Bytes [.ptr S 0] H Q := by
  refine fun_iced slot_Slot_Bytes_code fun _ => ?_
  refine fun_V 60 slot_Slot_Bytes_code rfl ?_
  simp (disch := first | omega | (simp only [lnx]; omega)) only [stdh, stdx, ↓reduceIte, seval, slot_Slot_Bytes, slot_Slot_Bytes.body]
  refine callK_fn (sfull_ok hs _ ?_)
  rw [decide_eq_true (by omega)]
  refine runL_V 60 ?_
  have hss := hs.s
  rw [hc] at hss
  simp (disch := first | omega | (simp only [lnx]; omega)) only [stdh, stdx, ↓reduceIte, seval, hss]
  refine slb_loop hs hsz hkl _ _ ?_ _ 0 _ .nils rfl (Nat.zero_le _) (Keeps.refl _) Own.nil
  intro rr H3 a hk3 ho hr
  refine run_V0 60 ?_
  simp (disch := first | omega | (simp only [lnx]; omega)) only [stdh, stdx, ↓reduceIte, seval, hr]
  refine ice_tup [(a, nums .u8 false (bytesTo fs k)), (.bool true, .bool true)] hk3 ?_ hq
  intro q hq'
  simp only [List.mem_cons, List.not_mem_nil, or_false] at hq'
  rcases hq' with rfl | rfl
  · exact Fin.own ho (closeds_ints _ _)
  · exact Fin.same trivial
theorem sbytes_no (hs : SlotS H S M h fs) (hf : (fs.length : Int) ≠ h.c) (Q : AVal → AHeap → Prop) (hq : Q (.tup [.nils, .bool false]) H) : FunOK Try.prog F.slot_Slot_Bytes [.ptr S 0] H Q := by
  refine fun_V 60 slot_Slot_Bytes_code rfl ?_
  simp (disch := first | omega | (simp only [lnx]; omega)) only [stdh, stdx, ↓reduceIte, seval, slot_Slot_Bytes, slot_Slot_Bytes.body]
  refine callK_fn (sfull_ok hs _ ?_)
  rw [decide_eq_false hf]
  refine runL_V 60 ?_
  simp (disch := first | omega | (simp only [lnx]; omega)) only [stdh, stdx, ↓reduceIte, seval]
  try exact hq

theorem snew_ok (H : AHeap) (h : Hd) (hk : checkOf h = 0) (Q : AVal → AHeap → Prop) (hq : ∀ H' S M, Keeps H H' → H.length ≤ S → H.length ≤ M → SlotS H' S M { h with i := 0 } [] → Q (.tup [.ptr S 0, .int .i64 0]) H') : FunOK Try.prog F.slot_New [.agg (encHd h)] H Q := by
  refine fun_V 60 slot_New_code rfl ?_
  simp (disch := first | omega | (simp only [lnx]; omega)) only [stdh, stdx, ↓reduceIte, seval, slot_New, slot_New.body, encHd]
  refine callK_fn (check_ok _ h _ ?_)
  rw [hk]
  refine runL_V 60 ?_
  simp (disch := first | omega | (simp only [lnx]; omega)) only [stdh, stdx, ↓reduceIte, seval, List.getElem?_set_self]
  exact hq _ _ (H.length + 1) (by simpa using keeps_append _ _) (by omega) (by omega) ⟨by simp [sizeFs], by simp⟩
theorem snew_bad (H : AHeap) (h : Hd) (hk : checkOf h ≠ 0) (Q : AVal → AHeap → Prop) (hq : Q (.tup [.nilp, .int .i64 (checkOf h : Nat)]) H) : FunOK Try.prog F.slot_New [.agg (encHd h)] H Q := by
  refine fun_iced slot_New_code fun _ => ?_
  refine fun_V 60 slot_New_code rfl ?_
  simp (disch := first | omega | (simp only [lnx]; omega)) only [stdh, stdx, ↓reduceIte, seval, slot_New, slot_New.body, encHd]
  refine callK_fn (check_ok _ h _ ?_)
  refine runL_V 60 ?_
  have d : decide ((checkOf h : Int) = 0) = false := decide_eq_false (by omega)
  simp (disch := first | omega | (simp only [lnx]; omega)) only [stdh, stdx, ↓reduceIte, seval, List.getElem?_set_self, d]
  exact ice_keeps (keeps_append _ _) (by simp [closed, closeds]) hq

theorem scopy_ok (hs : SlotS H S M h fs) (Q : AVal → AHeap → Prop) (hq : ∀ H' S' M', Keeps H H' → H.length ≤ S' → H.length ≤ M' → SlotS H' S' M' h fs → Q (.ptr S' 0) H') : FunOK Try.prog F.slot_Slot_Copy [.ptr S 0] H Q := by
  refine fun_V 60 slot_Slot_Copy_code rfl ?_
  simp (disch := first | omega | (simp only [lnx]; omega)) only [stdh, stdx, ↓reduceIte, seval, slot_Slot_Copy, slot_Slot_Copy.body, slot_Slot_Copy.d0, eqA, hs.s]
  refine callD_fn (clone_ok lclo0 hs.m ?_)
  have sx : ∀ L, (H ++ L)[S]? = some (.cells [.int .i64 h.v, .int .i64 h.k, .int .u32 h.s, .int .i64 h.i, .int .i64 h.c, .mapv M, .int .i64 (sizeFs fs : Nat)] T.slot_Slot) := fun L => (at_low hs.lt.1).trans hs.s
  refine ⟨by simp (disch := first | omega | (simp only [lnx]; omega)) only [stdh, stdx, ↓reduceIte, seval, sx, hs.s], ?_⟩
  refine runD_V 60 ?_
  simp (disch := first | omega | (simp only [lnx]; omega)) only [stdh, stdx, ↓reduceIte, seval]
  exact hq _ _ H.length (by simpa using keeps_append _ _) (by simp) (Nat.le_refl _) ⟨by simp, by simp⟩
end
end Go.Proofs.Ytamcfgdnhgmkpaa

namespace Go.Proofs.Ytamcfgdnhgmkpaa
open Go Go.Am
set_option linter.unusedSimpArgs false
set_option linter.unusedVariables false

/-- The places of a slot at which nothing came. -/
def missTo (fs : List Fr) : Nat → List Nat
  | 0 => []
  | i + 1 => if hasF fs (i : Nat) = true then missTo fs i else missTo fs i ++ [i]
theorem missTo_pre (fs : List Fr) {i : Nat} : ∀ {k : Nat}, i ≤ k → ∃ l, missTo fs k = missTo fs i ++ l
  | 0, h => ⟨[], by rw [show i = 0 by omega]; simp⟩
  | k + 1, h => by
    by_cases hk : i = k + 1
    · subst hk; exact ⟨[], by simp⟩
    · obtain ⟨l, hl⟩ := missTo_pre fs (i := i) (k := k) (by omega)
      rw [missTo]
      split
      · exact ⟨l, hl⟩
      · exact ⟨l ++ [k], by rw [hl, List.append_assoc]⟩
theorem missTo_get {fs : List Fr} {i k : Nat} (h : i < k) (hm : hasF fs (i : Nat) = false) : (missTo fs i).length < (missTo fs k).length ∧ (missTo fs k).getD (missTo fs i).length 0 = i ∧ (missTo fs (i + 1)).length = (missTo fs i).length + 1 := by
  obtain ⟨l, hl⟩ := missTo_pre fs (i := i + 1) (k := k) (by omega)
  have e : missTo fs (i + 1) = missTo fs i ++ [i] := by rw [missTo, if_neg (by simp [hm])]
  rw [hl, e]
  refine ⟨by simp, ?_, by simp⟩
  simp [List.getD_eq_getElem?_getD]

def missItem (fs : List Fr) (k : Nat) (j : Nat) : List AVal := [.int .i64 ((missTo fs k).getD j 0 : Nat)]

abbrev misC : Ctx := ⟨F.slot_Slot_Missing_1, 34, [], none⟩

section
variable {H0 : AHeap} {S M : Nat} {h : Hd} {fs : List Fr}

set_option maxHeartbeats 4000000 in
theorem miss_loop {n k : Nat} (hs : SlotS H0 S M h fs) (hc : h.c = (k : Nat)) (hkl : k ≤ 1000) {I : Bool → Nat → List Nat → AHeap → Prop} (hI : Fed Try.prog n (missItem fs k) (missTo fs k).length I) (K : List AItem) (Q : AVal → AHeap → Prop) {fp0 : List Nat} (hS : S ∉ fp0) (hM : M ∉ fp0)
    (hQ : ∀ b j fp H, H0.length ≤ H.length → (∀ m, m < H0.length → m ∉ fp0 → H[m]? = H0[m]?) → (b = true → j = (missTo fs k).length) → I b j fp H → ∀ r, Run Try.prog misC K r H Q) :
    ∀ (z i : Nat) (H : AHeap) (fp : List Nat), k - i = z → i ≤ k → Touches fp0 H0 fp H → I true (missTo fs i).length fp H →
    Rounds Try.prog misC slot_Slot_Missing_1.b0 [.inBlock 0] K [(0, .yld n), (1, cell (.ptr S 0)), (3, .int .i64 (i : Nat))] H Q
  | z, i, H, fp, h1, h2, ht, hi => by
    refine loop_V 100 slot_Slot_Missing_1.b0.eq_1 ?_
    have sx := (ht.kept S hs.lt.1 hS).trans hs.s
    have mx := (ht.kept M hs.lt.2 hM).trans hs.m
    rw [hc] at sx
    have hcast : (i : Int) + 1 = ((i + 1 : Nat) : Int) := by omega
    by_cases hik : i < k
    · have hf := find_entF (i : Int) fs
      have hko := key_entF (i := (i : Int)) (fs := fs)
      by_cases hm : hasF fs (i : Nat) = true
      · have hm' : (atF fs (i : Int)).isSome = true := hm
        simp (disch := first | omega | (simp only [lnx]; omega)) only [stdh, stdx, ↓reduceIte, seval, eqA, sx, mx, hf, hko, kindA, Option.isSome_map, hm']
        rw [hcast]
        exact miss_loop hs hc hkl hI K Q hS hM hQ _ (i + 1) H fp rfl (by omega) ht (by rw [missTo, if_pos hm]; exact hi)
      · have hm' : (atF fs (i : Int)).isSome = false := by simpa [hasF] using hm
        obtain ⟨e1, e2, e3⟩ := missTo_get hik (by simpa using hm)
        simp (disch := first | omega | (simp only [lnx]; omega)) only [stdh, stdx, ↓reduceIte, seval, eqA, sx, mx, hf, hko, kindA, Option.isSome_map, hm']
        have harg : [AVal.int .i64 (i : Int)] = missItem fs k (missTo fs i).length := by rw [missItem, e2]
        rw [harg]
        refine CallV.mono (hI.step _ fp _ e1 hi) fun av H1 hh => ?_
        obtain ⟨fp', ht1, hh⟩ := hh
        have ht2 := ht.trans ht1
        refine runL_V 60 ?_
        rcases hh with ⟨rfl, hi1⟩ | ⟨rfl, hi1⟩
        · simp (disch := first | omega | (simp only [lnx]; omega)) only [stdh, stdx, ↓reduceIte, seval]
          rw [hcast]
          exact miss_loop hs hc hkl hI K Q hS hM hQ _ (i + 1) H1 fp' rfl (by omega) ht2 (by rw [e3]; exact hi1)
        · simp (disch := first | omega | (simp only [lnx]; omega)) only [stdh, stdx, ↓reduceIte, seval]
          exact hQ false _ fp' H1 ht2.le ht2.kept (fun e => by cases e) hi1 _
    · simp (disch := first | omega | (simp only [lnx]; omega)) only [stdh, stdx, ↓reduceIte, seval, eqA, sx]
      rw [show i = k by omega] at hi
      exact hQ true _ fp H ht.le ht.kept (fun _ => rfl) hi _
  termination_by z => z

theorem miss_iter {n k : Nat} (hs : SlotS H0 S M h fs) (hc : h.c = (k : Nat)) (hkl : k ≤ 1000) : Iter Try.prog F.slot_Slot_Missing_1 [.yld n, cell (.ptr S 0)] n (missItem fs k) (missTo fs k).length [S, M] H0 := by
  intro I hI fp hi hown
  refine fun_V 100 slot_Slot_Missing_1_code rfl ?_
  simp (disch := first | omega | (simp only [lnx]; omega)) only [stdh, stdx, ↓reduceIte, seval, slot_Slot_Missing_1, slot_Slot_Missing_1.body]
  refine miss_loop hs hc hkl hI _ _ (hown S (by simp)) (hown M (by simp)) ?_ _ 0 H0 fp rfl (Nat.zero_le _) (Touches.refl _ _) hi
  intro b j fp' H' h1 h2 h3 h4 r
  refine run_V0 60 ?_
  simp (disch := first | omega | (simp only [lnx]; omega)) only [stdh, stdx, ↓reduceIte, seval]
  refine run_fin rfl rfl trivial ?_
  exact ⟨b, j, fp', h1, h2, h3, h4⟩

theorem missing_ok {H : AHeap} (hs : SlotS H S M h fs) (Q : AVal → AHeap → Prop) (hq : Q (.fn F.slot_Slot_Missing_1 [] [cell (.ptr S 0)]) H) : FunOK Try.prog F.slot_Slot_Missing [.ptr S 0] H Q := by
  refine fun_iced slot_Slot_Missing_code fun _ => ?_
  refine fun_V 40 slot_Slot_Missing_code rfl ?_
  simp (disch := first | omega | (simp only [lnx]; omega)) only [stdh, stdx, ↓reduceIte, seval, slot_Slot_Missing, slot_Slot_Missing.body]
  exact ice_clo1 (by simpa [closed] using hs.lt.1) hq
end
end Go.Proofs.Ytamcfgdnhgmkpaa

namespace Go.Proofs.Ytamcfgdnhgmkpaa
open Go Go.Am
set_option linter.unusedSimpArgs false
set_option linter.unusedVariables false

/-! The document's slot. -/

theorem own_lower {w : Nat} {el : TypeId} {B B' : Nat} {H : AHeap} {a : AVal} {n : Nat} {cs : List AVal} (h : Own w el B H a n cs) (hb : B' ≤ B) : Own w el B' H a n cs := by
  refine ⟨h.len, ?_⟩
  rcases h.is with h | ⟨m, h1, h2⟩
  · exact .inl h
  · exact .inr ⟨m, Nat.le_trans hb h1, h2⟩

def encS (h : Hd) (fs : List Fr) : List AVal := [.int .i64 h.v, .int .i64 h.k, .int .u32 h.s, .int .i64 h.i, .int .i64 h.c, recs encFr false fs]

theorem atF_drop {fs : List Fr} {i : Int} : ∀ {j : Nat}, (∀ m, m < j → m < fs.length → (fs.getD m default).h.i ≠ i) → atF fs i = atF (fs.drop j) i
  | 0, _ => by simp
  | j + 1, hh => by
    rw [atF_drop (j := j) fun m h1 h2 => hh m (by omega) h2]
    by_cases hj : j < fs.length
    · rw [List.drop_eq_getElem_cons hj, atF]
      have := hh j (by omega) hj
      rw [show fs.getD j default = fs[j] by simp [List.getD_eq_getElem?_getD, hj]] at this
      rw [if_neg (fun e => this e.symm)]
    · rw [List.drop_eq_nil_of_le (by omega), List.drop_eq_nil_of_le (by omega)]

/-- What Has tells. -/
def HasR (fs : List Fr) (i r : Int) : Prop := (r = -1 ∧ atF fs i = none) ∨ ∃ j : Nat, r = (j : Int) ∧ j < fs.length ∧ atF fs i = some (fs.getD j default).b
theorem HasR.iff {fs : List Fr} {i r : Int} (h : HasR fs i r) : decide (r ≥ 0) = hasF fs i ∧ decide (0 ≤ r) = hasF fs i := by
  unfold hasF
  rcases h with ⟨rfl, h⟩ | ⟨j, rfl, _, h⟩
  · rw [h]; exact ⟨rfl, rfl⟩
  · rw [h]; exact ⟨decide_eq_true (by omega), decide_eq_true (by omega)⟩

abbrev rhC : Ctx := ⟨F.cuneiformref13_Has, 23, [.tmp 4], none⟩
abbrev rsC : Ctx := ⟨F.cuneiformref13_Size, 22, [.tmp 2], none⟩
abbrev rbC : Ctx := ⟨F.cuneiformref13_Bytes, 27, [.tmp 2], none⟩

section
variable {h : Hd} {fs : List Fr}

theorem rhas_loop {i : Int} (hlen : fs.length ≤ 1000) (K : List AItem) (Q : AVal → AHeap → Prop) {p : Nat} (H : AHeap) (hp : H[p]? = some (.cells (encS h fs) T.cuneiformref13_S)) (hq : ∀ r, HasR fs i r → r ≠ -1 → Q (.int .i64 r) H) (hK : atF fs i = none → ∀ r, Run Try.prog rhC K r H Q) :
    ∀ (z j : Nat), fs.length - j = z → j ≤ fs.length → (∀ m, m < j → m < fs.length → (fs.getD m default).h.i ≠ i) →
    Rounds Try.prog rhC cuneiformref13_Has.b0 [.inBlock 0] K [(1, .int .i64 i), (2, .ptr p 0), (5, .int .i64 (j : Nat))] H Q
  | z, j, h1, h2, hh => by
    refine loop_V 100 cuneiformref13_Has.b0.eq_1 ?_
    have hp' := hp
    simp only [encS] at hp'
    have hcast : (j : Int) + 1 = ((j + 1 : Nat) : Int) := by omega
    by_cases hj : j < fs.length
    · have hld := (frs_recs (H := H) (t := false) (fs := fs)).load1 hj (show 3 < 6 by omega)
      simp only [encFr, List.getD_cons_succ, List.getD_cons_zero] at hld
      by_cases he : (fs.getD j default).h.i = i
      · have d : decide ((fs.getD j default).h.i = i) = true := decide_eq_true he
        simp (disch := first | omega | (simp only [lnx]; omega)) only [stdh, stdx, ↓reduceIte, seval, hp', hld, d]
        refine hq _ (.inr ⟨j, rfl, hj, ?_⟩) (by omega)
        rw [atF_drop hh, List.drop_eq_getElem_cons hj, atF]
        rw [show fs.getD j default = fs[j] by simp [List.getD_eq_getElem?_getD, hj]] at he ⊢
        rw [if_pos he.symm]
      · have d : decide ((fs.getD j default).h.i = i) = false := decide_eq_false he
        simp (disch := first | omega | (simp only [lnx]; omega)) only [stdh, stdx, ↓reduceIte, seval, hp', hld, d]
        rw [hcast]
        exact rhas_loop hlen K Q H hp hq hK _ (j + 1) rfl (by omega) fun m h3 h4 => by
          by_cases hm : m = j
          · subst hm; exact he
          · exact hh m (by omega) h4
    · simp (disch := first | omega | (simp only [lnx]; omega)) only [stdh, stdx, ↓reduceIte, seval, hp']
      refine hK ?_ _
      rw [atF_drop hh, List.drop_eq_nil_of_le (by omega)]; rfl
  termination_by z => z

theorem rhas_ok (H : AHeap) {i : Int} (hlen : fs.length ≤ 1000) (Q : AVal → AHeap → Prop) (hq : ∀ r, HasR fs i r → Q (.int .i64 r) H) : FunOK Try.prog F.cuneiformref13_Has [.agg (encS h fs), .int .i64 i] H Q := by
  refine fun_iced cuneiformref13_Has_code fun _ => ?_
  refine fun_V 60 cuneiformref13_Has_code rfl ?_
  simp (disch := first | omega | (simp only [lnx]; omega)) only [stdh, stdx, ↓reduceIte, seval, cuneiformref13_Has, cuneiformref13_Has.body, encS]
  refine rhas_loop hlen _ _ _ (p := H.length) at_0 (fun r hr _ => ice_none trivial (hq r hr)) ?_ _ 0 rfl (Nat.zero_le _) (by omega)
  intro hn r
  refine run_V0 60 ?_
  simp (disch := first | omega | (simp only [lnx]; omega)) only [stdh, stdx, ↓reduceIte, seval]
  exact ice_none trivial (hq _ (.inl ⟨rfl, hn⟩))

theorem sizeFs_take {j : Nat} (hj : j < fs.length) : sizeFs (fs.take (j + 1)) = sizeFs (fs.take j) + (fs.getD j default).b.length := by
  rw [List.take_succ_eq_append_getElem hj, sizeFs_append, show fs.getD j default = fs[j] by simp [List.getD_eq_getElem?_getD, hj]]
theorem sizeFs_le (j : Nat) : sizeFs (fs.take j) ≤ sizeFs fs := by
  have : sizeFs fs = sizeFs (fs.take j) + sizeFs (fs.drop j) := by
    conv => lhs; rw [← List.take_append_drop j fs]
    simp [sizeFs, - List.take_append_drop]
  omega

theorem rsize_loop (hlen : fs.length ≤ 1000) (hsz : sizeFs fs ≤ 1000) (K : List AItem) (Q : AVal → AHeap → Prop) {p : Nat} (H : AHeap) (hp : H[p]? = some (.cells (encS h fs) T.cuneiformref13_S)) (hK : ∀ r, rget r 3 = .int .i64 (sizeFs fs : Nat) → Run Try.prog rsC K r H Q) :
    ∀ (z j : Nat), fs.length - j = z → j ≤ fs.length →
    Rounds Try.prog rsC cuneiformref13_Size.b0 [.inBlock 0] K [(1, .ptr p 0), (3, .int .i64 (sizeFs (fs.take j) : Nat)), (4, .int .i64 (j : Nat))] H Q
  | z, j, h1, h2 => by
    refine loop_V 100 cuneiformref13_Size.b0.eq_1 ?_
    have hp' := hp
    simp only [encS] at hp'
    have hcast : (j : Int) + 1 = ((j + 1 : Nat) : Int) := by omega
    by_cases hj : j < fs.length
    · have hld := (frs_recs (H := H) (t := false) (fs := fs)).load1 hj (show 5 < 6 by omega)
      simp only [encFr, List.getD_cons_succ, List.getD_cons_zero] at hld
      have hst := sizeFs_take hj
      have hsl := sizeFs_le (fs := fs) (j + 1)
      simp (disch := first | omega | (simp only [lnx]; omega)) only [stdh, stdx, ↓reduceIte, seval, hp', hld]
      rw [hcast, show ((sizeFs (fs.take j) : Nat) : Int) + ((fs.getD j default).b.length : Nat) = ((sizeFs (fs.take (j + 1)) : Nat) : Int) by omega]
      exact rsize_loop hlen hsz K Q H hp hK _ (j + 1) rfl (by omega)
    · simp (disch := first | omega | (simp only [lnx]; omega)) only [stdh, stdx, ↓reduceIte, seval, hp']
      refine hK _ ?_
      rw [show j = fs.length by omega, List.take_length]
      rfl
  termination_by z => z

theorem rsize_ok (H : AHeap) (hlen : fs.length ≤ 1000) (hsz : sizeFs fs ≤ 1000) (Q : AVal → AHeap → Prop) (hq : Q (.int .i64 (sizeFs fs : Nat)) H) : FunOK Try.prog F.cuneiformref13_Size [.agg (encS h fs)] H Q := by
  refine fun_iced cuneiformref13_Size_code fun _ => ?_
  refine fun_V 60 cuneiformref13_Size_code rfl ?_
  simp (disch := first | omega | (simp only [lnx]; omega)) only [stdh, stdx, ↓reduceIte, seval, cuneiformref13_Size, cuneiformref13_Size.body, encS]
  refine rsize_loop hlen hsz _ _ _ (p := H.length) at_0 ?_ _ 0 rfl (Nat.zero_le _)
  intro r hr
  refine run_V0 60 ?_
  simp (disch := first | omega | (simp only [lnx]; omega)) only [stdh, stdx, ↓reduceIte, seval, hr]
  exact ice_none trivial hq

theorem rfull_ok (H : AHeap) (hc : 0 < h.c) (hlen : fs.length ≤ 1000) (Q : AVal → AHeap → Prop) (hq : Q (.bool (decide ((fs.length : Int) = h.c))) H) : FunOK Try.prog F.cuneiformref13_Full [.agg (encS h fs)] H Q := by
  refine fun_iced cuneiformref13_Full_code fun _ => ?_
  refine fun_V 60 cuneiformref13_Full_code rfl ?_
  have d : decide (h.c > 0) = true := decide_eq_true (by omega)
  have d' : decide (0 < h.c) = true := decide_eq_true (by omega)
  simp (disch := first | omega | (simp only [lnx]; omega)) only [stdh, stdx, ↓reduceIte, seval, cuneiformref13_Full, cuneiformref13_Full.body, encS, d, d']
  exact ice_none trivial hq

theorem rbytes_loop {H0 : AHeap} {k : Nat} (hc : h.c = (k : Nat)) (hkl : k ≤ 1000) (hlen : fs.length ≤ 1000) (hsz : sizeFs fs ≤ 192) (K : List AItem) (Q : AVal → AHeap → Prop) {p : Nat} (hp : H0[p]? = some (.cells (encS h fs) T.cuneiformref13_S))
    (hK : ∀ r H a, Keeps H0 H → Own 1 T.uint8 H0.length H a (bytesTo fs k).length (w8s (bytesTo fs k)) → rget r 3 = a → Run Try.prog rbC K r H Q) :
    ∀ (z i : Nat) (H : AHeap) (a : AVal), k - i = z → i ≤ k → Keeps H0 H → Own 1 T.uint8 H0.length H a (bytesTo fs i).length (w8s (bytesTo fs i)) →
    Rounds Try.prog rbC cuneiformref13_Bytes.b0 [.inBlock 0] K [(1, .ptr p 0), (3, a), (4, .int .i64 (i : Nat))] H Q
  | z, i, H, a, h1, h2, hk, ho => by
    refine loop_V 100 cuneiformref13_Bytes.b0.eq_1 ?_
    have hp' := hk.get hp
    simp only [encS] at hp'
    have hcast : (i : Int) + 1 = ((i + 1 : Nat) : Int) := by omega
    by_cases hi : i < k
    · have d : decide ((i : Int) < h.c) = true := decide_eq_true (by omega)
      simp (disch := first | omega | (simp only [lnx]; omega)) only [stdh, stdx, ↓reduceIte, seval, hp', d, encS]
      refine callK_fn (rhas_ok _ hlen _ fun r hr => ?_)
      refine runL_V 100 ?_
      rcases hr with ⟨rfl, hn⟩ | ⟨j, rfl, hj, hat⟩
      · simp (disch := first | omega | (simp only [lnx]; omega)) only [stdh, stdx, ↓reduceIte, seval]
        rw [hcast]
        refine rbytes_loop hc hkl hlen hsz K Q hp hK _ (i + 1) H a rfl (by omega) hk ?_
        rw [bytesTo, hn]
        simpa using ho
      · have hld := (frs_recs (H := H) (t := false) (fs := fs)).load1 hj (show 5 < 6 by omega)
        simp only [encFr, List.getD_cons_succ, List.getD_cons_zero] at hld
        have hle := bytesTo_le fs (i + 1)
        rw [bytesTo, List.length_append, hat, Option.getD_some] at hle
        obtain ⟨w, H3, pp, a1, hpp, ho3, hk3⟩ := Own.append ho (x := nums .u8 false (fs.getD j default).b) (k := (fs.getD j default).b.length) (ys := w8s (fs.getD j default).b) 1 (H0 := H0) hk rfl rfl (by simp [w8s]) (by omega) (by omega) (by omega) (w8s_cellish _)
        simp (disch := first | omega | (simp only [lnx]; omega)) only [stdh, stdx, ↓reduceIte, seval, hp', hld, a1, hpp]
        rw [hcast]
        refine rbytes_loop hc hkl hlen hsz K Q hp hK _ (i + 1) H3 w rfl (by omega) hk3 ?_
        rw [bytesTo, List.length_append, w8s_append, hat, Option.getD_some]
        simpa using ho3
    · have d : decide ((i : Int) < h.c) = false := decide_eq_false (by omega)
      simp (disch := first | omega | (simp only [lnx]; omega)) only [stdh, stdx, ↓reduceIte, seval, hp', d]
      rw [show i = k by omega] at ho
      exact hK _ H a hk ho rfl
  termination_by z => z

theorem rbytes_ok (H : AHeap) {k : Nat} (hc : h.c = (k : Nat)) (hkl : k ≤ 1000) (hlen : fs.length ≤ 1000) (hsz : sizeFs fs ≤ 192) (Q : AVal → AHeap → Prop) (hq : Q (nums .u8 false (bytesTo fs k)) H) : FunOK Try.prog F.cuneiformref13_Bytes [.agg (encS h fs)] H Q := by
  refine fun_iced cuneiformref13_Bytes_code fun _ => ?_
  refine fun_V 60 cuneiformref13_Bytes_code rfl ?_
  simp (disch := first | omega | (simp only [lnx]; omega)) only [stdh, stdx, ↓reduceIte, seval, cuneiformref13_Bytes, cuneiformref13_Bytes.body, encS]
  refine rbytes_loop hc hkl hlen hsz _ _ (p := H.length) at_0 ?_ _ 0 _ .nils rfl (Nat.zero_le _) (Keeps.refl _) Own.nil
  intro r H3 a hk3 ho hr
  refine run_V0 60 ?_
  simp (disch := first | omega | (simp only [lnx]; omega)) only [stdh, stdx, ↓reduceIte, seval, hr]
  exact ice_own ((keeps_append _ _).trans hk3) (own_lower ho (by simp)) (closeds_ints _ _) hq
end
end Go.Proofs.Ytamcfgdnhgmkpaa
