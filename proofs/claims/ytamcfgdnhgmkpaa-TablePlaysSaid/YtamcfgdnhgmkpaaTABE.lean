/-
  Lemmas on the way to the statements of this seat. By an AI agent. No person has read it.
-/
import Derived.Test.YtamcfgdnhgmkpaaTABD
import Derived.Test.YtamcfgdnhgmkpaaTABC
set_option linter.unusedSimpArgs false
set_option linter.unusedVariables false

namespace Go.Proofs.Ytamcfgdnhgmkpaa
open Go Go.Am
set_option linter.unusedSimpArgs false
set_option linter.unusedVariables false

/-! What a table makes of a frame. -/

abbrev Ts := List (Hd × List Fr)
def tsOf (sl : List Sl) : Ts := sl.map fun x => (x.h, x.fs)
def seqsT (ts : Ts) : List Int := ts.map fun t => t.1.s
def hasT (ts : Ts) (q : Int) : Bool := ts.any fun t => decide (t.1.s = q)
def dropT (ts : Ts) (q : Int) : Ts := ts.filter fun t => !decide (t.1.s = q)
def getT (ts : Ts) (q : Int) : Hd × List Fr := (ts.find? fun t => decide (t.1.s = q)).getD default
def updTs (ts : Ts) (q : Int) (fs : List Fr) : Ts := ts.map fun t => if t.1.s = q then (t.1, fs) else t
structure OutT where
  body : List Nat := []
  whole : Bool := false
  ev : Bool := false
  old : Int := 0
def encOut (o : OutT) : List AVal := [if o.whole = true then nums .u8 false o.body else .nils, .bool o.whole, .bool o.ev, .int .u32 o.old]
def takeT (ts : Ts) (o : OutT) (f : Fr) : Ts × OutT × Nat :=
  if putE (getT ts f.h.s).1 (getT ts f.h.s).2 f ≠ 0 then (ts, {}, putE (getT ts f.h.s).1 (getT ts f.h.s).2 f)
  else if (((getT ts f.h.s).2.length + 1 : Nat) : Int) = (getT ts f.h.s).1.c then (dropT ts f.h.s, { o with body := bytesTo ((getT ts f.h.s).2 ++ [f]) (getT ts f.h.s).1.c.toNat, whole := true }, 0)
  else (updTs ts f.h.s ((getT ts f.h.s).2 ++ [f]), o, 0)
def putT (room : Nat) (ts : Ts) (f : Fr) : Ts × OutT × Nat :=
  if checkOf f.h ≠ 0 then (ts, {}, checkOf f.h)
  else if f.b = [] then (ts, {}, 13)
  else if hasT ts f.h.s = true then takeT ts {} f
  else if 192 < f.b.length then (ts, {}, 6)
  else if ts.length < room then takeT (ts ++ [({ f.h with i := 0 }, [])]) {} f
  else if aftI f.h.s (oldest (seqsT ts)) = false then (ts, {}, 18)
  else takeT (dropT ts (oldest (seqsT ts)) ++ [({ f.h with i := 0 }, [])]) { ev := true, old := oldest (seqsT ts) } f

theorem seqs_of (sl : List Sl) : seqsT (tsOf sl) = sl.map fun x => x.h.s := by simp [seqsT, tsOf]
theorem hasT_no {sl : List Sl} {q : Int} (h : hasT (tsOf sl) q = false) : ∀ x ∈ sl, x.h.s ≠ q := by
  simp only [hasT, tsOf, List.any_map, List.any_eq_false, Function.comp, decide_eq_true_eq] at h
  exact h
theorem hasT_yes {sl : List Sl} {q : Int} (h : hasT (tsOf sl) q = true) : ∃ a x b, sl = a ++ x :: b ∧ x.h.s = q := by
  simp only [hasT, tsOf, List.any_map, List.any_eq_true, Function.comp, decide_eq_true_eq] at h
  obtain ⟨x, hx, e⟩ := h
  obtain ⟨a, b, rfl⟩ := List.append_of_mem hx
  exact ⟨a, x, b, rfl, e⟩
theorem mem_split {sl : List Sl} {q : Int} (h : q ∈ sl.map fun x => x.h.s) : ∃ a x b, sl = a ++ x :: b ∧ x.h.s = q := by
  obtain ⟨x, hx, e⟩ := List.mem_map.1 h
  obtain ⟨a, b, rfl⟩ := List.append_of_mem hx
  exact ⟨a, x, b, rfl, e⟩

section
variable {a b : List Sl} {x : Sl} {q : Int}
theorem nodup_ne (h : ((a ++ x :: b).map fun x => x.h.s).Nodup) : ∀ y, y ∈ a ∨ y ∈ b → y.h.s ≠ x.h.s := by
  rw [List.map_append, List.map_cons, List.nodup_append] at h
  obtain ⟨h1, h2, h3⟩ := h
  rintro y (hy | hy)
  · exact h3 _ (List.mem_map.2 ⟨y, hy, rfl⟩) _ (by simp)
  · intro e
    exact (List.nodup_cons.1 h2).1 (e ▸ List.mem_map.2 ⟨y, hy, rfl⟩)
theorem getT_mid (h : ((a ++ x :: b).map fun x => x.h.s).Nodup) (hx : x.h.s = q) : getT (tsOf (a ++ x :: b)) q = (x.h, x.fs) := by
  subst hx
  have hn := nodup_ne h
  unfold getT tsOf
  rw [List.find?_map, List.find?_append]
  rw [List.find?_eq_none.2 (fun y hy => by simpa using hn y (.inl hy))]
  simp
theorem dropT_mid (h : ((a ++ x :: b).map fun x => x.h.s).Nodup) (hx : x.h.s = q) : dropT (tsOf (a ++ x :: b)) q = tsOf (a ++ b) := by
  subst hx
  have hn := nodup_ne h
  unfold dropT tsOf
  rw [List.map_append, List.map_cons, List.filter_append, List.filter_cons, List.map_append]
  rw [List.filter_eq_self.2 (fun y hy => by obtain ⟨z, hz, rfl⟩ := List.mem_map.1 hy; simpa using hn z (.inl hz)), List.filter_eq_self.2 (fun y hy => by obtain ⟨z, hz, rfl⟩ := List.mem_map.1 hy; simpa using hn z (.inr hz))]
  simp
theorem updTs_mid (h : ((a ++ x :: b).map fun x => x.h.s).Nodup) (hx : x.h.s = q) (fs : List Fr) : updTs (tsOf (a ++ x :: b)) q fs = tsOf (a ++ { x with fs := fs } :: b) := by
  subst hx
  have hn := nodup_ne h
  unfold updTs tsOf
  rw [List.map_map, List.map_append, List.map_append, List.map_cons, List.map_cons]
  congr 1
  · refine List.map_congr_left fun y hy => ?_
    simp [hn y (.inl hy)]
  · congr 1
    · simp
    · refine List.map_congr_left fun y hy => ?_
      simp [hn y (.inr hy)]
end

/-- A slot that has changed. -/
theorem TabS.slot {H H' : AHeap} {P M room : Nat} {ord : AVal} {a b : List Sl} {x : Sl} (h : TabS H P M room ord (a ++ x :: b)) {fs : List Fr} (hs : SlotS H' x.s x.m x.h fs) (hw : SlotW x.h fs) (hk : ∀ m ∈ tabF P M ord (a ++ x :: b), m ≠ x.s → m ≠ x.m → H'[m]? = H[m]?) :
    TabS H' P M room ord (a ++ { x with fs := fs } :: b) ∧ tabF P M ord (a ++ { x with fs := fs } :: b) = tabF P M ord (a ++ x :: b) := by
  have hF : slF (a ++ { x with fs := fs } :: b) = slF (a ++ x :: b) := by simp [slF]
  obtain ⟨ap1, ap2, ap3⟩ := h.apart
  have hxs : x.s ∈ slF (a ++ x :: b) := slF_mem.2 ⟨x, by simp, .inl rfl⟩
  have hxm : x.m ∈ slF (a ++ x :: b) := slF_mem.2 ⟨x, by simp, .inr rfl⟩
  refine ⟨⟨?_, ?_, ?_, ?_, ?_, ?_, ?_⟩, by simp [tabF, hF]⟩
  · exact (hk P (by simp [tabF]) (fun e => ap2 (e ▸ hxs)) (fun e => ap2 (e ▸ hxm))).trans h.p
  · have : (a ++ { x with fs := fs } :: b).map entT = (a ++ x :: b).map entT := by simp [entT]
    rw [this]
    exact (hk M (by simp [tabF]) (fun e => ap3 (e ▸ hxs)) (fun e => ap3 (e ▸ hxm))).trans h.m
  · have e1 : seqV (a ++ { x with fs := fs } :: b) = seqV (a ++ x :: b) := by simp [seqV]
    have e2 : (a ++ { x with fs := fs } :: b).length = (a ++ x :: b).length := by simp
    rw [e1, e2]
    refine ⟨h.o.len, ?_⟩
    rcases h.o.is with hn | ⟨k, h1, h2, h3⟩
    · exact .inl hn
    · have hkn : k ∈ ord.names := by rw [h2]; simp [AVal.names]
      refine .inr ⟨k, h1, h2, (hk k (by simp [tabF, hkn]) (fun e => (ap1 k hkn).2.2 (e ▸ hxs)) (fun e => (ap1 k hkn).2.2 (e ▸ hxm))).trans h3⟩
  · intro y hy
    have hd := h.d
    have hy' : y = { x with fs := fs } ∨ y ∈ a ∨ y ∈ b := by
      rw [List.mem_append, List.mem_cons] at hy
      rcases hy with h | h | h
      · exact .inr (.inl h)
      · exact .inl h
      · exact .inr (.inr h)
    rcases hy' with rfl | hy2
    · exact ⟨hs, hw, (h.s x (by simp)).2.2⟩
    · have hym : y ∈ a ++ x :: b := by rcases hy2 with h | h <;> simp [h]
      obtain ⟨s1, s2⟩ := h.s y hym
      have hdis : ∀ m, m = y.s ∨ m = y.m → m ≠ x.s ∧ m ≠ x.m := by
        have hd2 := (List.nodup_cons.1 hd).2
        rw [slF_append, show slF (x :: b) = [x.s, x.m] ++ slF b from rfl, List.nodup_append] at hd2
        obtain ⟨d1, d2, d3⟩ := hd2
        rw [List.nodup_append] at d2
        intro m hm
        rcases hy2 with hh | hh
        · have hma : m ∈ slF a := slF_mem.2 ⟨y, hh, hm⟩
          exact ⟨d3 m hma x.s (by simp), d3 m hma x.m (by simp)⟩
        · have hmb : m ∈ slF b := slF_mem.2 ⟨y, hh, hm⟩
          exact ⟨fun e => d2.2.2 x.s (by simp) m hmb e.symm, fun e => d2.2.2 x.m (by simp) m hmb e.symm⟩
      have mem : ∀ m, m = y.s ∨ m = y.m → m ∈ tabF P M ord (a ++ x :: b) := fun m hm => by
        simp only [tabF, List.mem_cons, List.mem_append]
        exact .inr (.inr (.inr (slF_mem.2 ⟨y, hym, hm⟩)))
      exact ⟨⟨(hk _ (mem _ (.inl rfl)) (hdis _ (.inl rfl)).1 (hdis _ (.inl rfl)).2).trans s1.s, (hk _ (mem _ (.inr rfl)) (hdis _ (.inr rfl)).1 (hdis _ (.inr rfl)).2).trans s1.m⟩, s2⟩
  · rw [hF]; exact h.d
  · have : (a ++ { x with fs := fs } :: b).map (fun x => x.h.s) = (a ++ x :: b).map fun x => x.h.s := by simp
    rw [this]; exact h.n
  · have := h.r
    simp only [List.length_append, List.length_cons] at this ⊢
    exact this
end Go.Proofs.Ytamcfgdnhgmkpaa

namespace Go.Proofs.Ytamcfgdnhgmkpaa
open Go Go.Am
set_option linter.unusedSimpArgs false
set_option linter.unusedVariables false

abbrev ptC : Ctx := ⟨F.table_Table_Put, 83, [.cell 4 (some 4), .tmp 5], none⟩

set_option maxRecDepth 10000 in
set_option maxHeartbeats 8000000 in
theorem ptail {G : AHeap} {P M room : Nat} {o1 : AVal} {a b : List Sl} {x : Sl} (h : TabS G P M room o1 (a ++ x :: b)) (f : Fr) (hx : x.h.s = f.h.s) (hfl : f.b.length ≤ 1000) {B : Nat} {ev : Bool} {old : Int} {rs : Regs} (r0 : rget rs 0 = .ptr P 0) (r3 : rget rs 3 = .ptr B 0) (r4 : rget rs 4 = .ptr (B + 1) 0) (r7 : rget rs 7 = .ptr (B + 2) 0) (r8 : rget rs 8 = .int .u32 f.h.s)
    (gB : G[B]? = some (.cells (encFr f) T.frame_Frame)) (gO : G[B + 1]? = some (.cells [.nils, .bool false, .bool false, .int .u32 0] T.table_Out)) (gV : G[B + 2]? = some (.cells [.nils, .bool false, .bool ev, .int .u32 old] T.table_Out))
    (b1 : B ∉ tabF P M o1 (a ++ x :: b)) (b2 : B + 1 ∉ tabF P M o1 (a ++ x :: b)) (b3 : B + 2 ∉ tabF P M o1 (a ++ x :: b)) (Q : AVal → AHeap → Prop)
    (hq : ∀ H' ord' sl', G.length ≤ H'.length → (∀ m, m < G.length → m ∉ tabF P M o1 (a ++ x :: b) → m ≠ B + 1 → m ≠ B + 2 → H'[m]? = G[m]?) → (∀ m ∈ tabF P M ord' sl', m ∈ tabF P M o1 (a ++ x :: b) ∨ G.length ≤ m) →
      TabS H' P M room ord' sl' → tsOf sl' = (takeT (tsOf (a ++ x :: b)) { ev := ev, old := old } f).1 → Q (.tup [.agg (encOut (takeT (tsOf (a ++ x :: b)) { ev := ev, old := old } f).2.1), .int .i64 ((takeT (tsOf (a ++ x :: b)) { ev := ev, old := old } f).2.2 : Nat)]) H') :
    Run Try.prog ptC [.code (.seq (.seq (.draw table_Table_Put.d0 table_Table_Put.d0b [[0, 1, 2, 3, 4, 5, 6, 7, 8]] [] [0, 4, 7, 8, 9])
  (.seq (.region [⟨(some 61), .mov (.tmp 9), none⟩,
    ⟨(some 62), .bin .neq (.tmp 61) (.const (.int .i64 0)), none⟩] [0, 4, 7, 8, 9, 62])
  (.cond (.tmp 62) (.seq (.region [⟨(some 63), .build [.nils, (.bool false), (.bool false), (.int .u32 0)] [], none⟩,
    ⟨(some 64), .mov (.tmp 9), none⟩,
    ⟨none, .store 4 (.tmp 4) (.tmp 63), none⟩,
    ⟨(some 5), .mov (.tmp 64), none⟩] [4, 5])
  (.ret)) (.skip))))
  (.seq (.seq (.region [⟨(some 66), .mov (.tmp 0), none⟩,
    ⟨(some 67), .nilc (.tmp 66), none⟩,
    ⟨(some 68), .field 2 (.tmp 67), none⟩,
    ⟨(some 69), .load none (.tmp 68), none⟩,
    ⟨(some 70), .mov (.tmp 8), none⟩,
    ⟨(some 71), .lookup .int .nilp false (.tmp 69) (.tmp 70), none⟩,
    ⟨(some 72), .call (.const (.fn F.slot_Slot_Bytes [] [])) [(.tmp 71)], none⟩,
    ⟨(some 65), .mov (.tmp 72), none⟩,
    ⟨(some 73), .extract (.tmp 65) 0, none⟩,
    ⟨(some 74), .extract (.tmp 65) 1, none⟩,
    ⟨(some 75), .field 0 (.tmp 7), none⟩,
    ⟨none, .store 1 (.tmp 75) (.tmp 73), none⟩,
    ⟨(some 76), .field 1 (.tmp 7), none⟩,
    ⟨none, .store 1 (.tmp 76) (.tmp 74), none⟩] [0, 4, 7, 8])
  (.seq (.region [⟨(some 77), .field 1 (.tmp 7), none⟩,
    ⟨(some 78), .load none (.tmp 77), none⟩] [0, 4, 7, 8, 78])
  (.cond (.tmp 78) (.region [⟨(some 79), .mov (.tmp 0), none⟩,
    ⟨(some 80), .mov (.tmp 8), none⟩,
    ⟨(some 81), .call (.const (.fn F.table_Table_Drop [] [])) [(.tmp 79), (.tmp 80)], none⟩] [4, 7]) (.skip))))
  (.seq (.region [⟨(some 82), .load (some 4) (.tmp 7), none⟩,
    ⟨none, .store 4 (.tmp 4) (.tmp 82), none⟩,
    ⟨(some 5), .mov (.const (.int .i64 0)), none⟩] [4, 5])
  (.ret))))]
      rs G Q := by
  have hn : ∀ y ∈ a, y.h.s ≠ f.h.s := fun y hy => by rw [← hx]; exact nodup_ne h.n y (.inl hy)
  have hf := findT_yes (b := b) hx hn
  have hko := keyT (q := f.h.s) (sl := a ++ x :: b)
  have hg := getT_mid h.n hx
  have hdm := dropT_mid h.n hx
  have hum := updTs_mid h.n hx (x.fs ++ [f])
  obtain ⟨hs, hw, his⟩ := h.s x (by simp)
  have hft := h.foot
  have hPl := hft P (by simp [tabF])
  have hMl := hft M (by simp [tabF])
  obtain ⟨ap1, ap2, ap3⟩ := h.apart
  have hxs : x.s ∈ slF (a ++ x :: b) := slF_mem.2 ⟨x, by simp, .inl rfl⟩
  have hxm : x.m ∈ slF (a ++ x :: b) := slF_mem.2 ⟨x, by simp, .inr rfl⟩
  have nin : ∀ m, m ∉ tabF P M o1 (a ++ x :: b) → m ≠ x.s ∧ m ≠ x.m := fun m hm => by
    simp only [tabF, List.mem_cons, List.mem_append, not_or] at hm
    exact ⟨fun e => hm.2.2.2 (e ▸ hxs), fun e => hm.2.2.2 (e ▸ hxm)⟩
  have nP : P ≠ x.s ∧ P ≠ x.m := ⟨fun e => ap2 (e ▸ hxs), fun e => ap2 (e ▸ hxm)⟩
  have nM : M ≠ x.s ∧ M ≠ x.m := ⟨fun e => ap3 (e ▸ hxs), fun e => ap3 (e ▸ hxm)⟩
  have gB' := gB
  simp only [encFr] at gB'
  have hBl : B < G.length := (List.getElem?_eq_some_iff.1 gB).1
  have hOl : B + 1 < G.length := (List.getElem?_eq_some_iff.1 gO).1
  have hVl : B + 2 < G.length := (List.getElem?_eq_some_iff.1 gV).1
  refine run_V0 60 ?_
  simp (disch := first | omega | (simp only [lnx]; omega)) only [stdh, stdx, ↓reduceIte, seval, table_Table_Put.d0, r0, r3, r4, r7, r8, h.p, h.m, hf, hko, kindA, gB']
  refine callD_fn (sput_ok hs hw f hfl _ ?_)
  intro G1 l1 k1 s1
  have hw1 := hw.put f
  have tb := h.slot s1 hw1 (fun m _ h1 h2 => k1 m h1 h2)
  have gP1 := (k1 P nP.1 nP.2).trans h.p
  have gM1 := (k1 M nM.1 nM.2).trans h.m
  have gB1 := (k1 B (nin B b1).1 (nin B b1).2).trans gB'
  have gO1 := (k1 (B + 1) (nin _ b2).1 (nin _ b2).2).trans gO
  have gV1 := (k1 (B + 2) (nin _ b3).1 (nin _ b3).2).trans gV
  refine ⟨by simp (disch := first | omega | (simp only [lnx]; omega)) only [stdh, stdx, ↓reduceIte, seval, r0, r3, r4, r7, r8, h.p, h.m, hf, hko, kindA, gB', gP1, gM1, gB1], ?_⟩
  refine runD_V 60 ?_
  by_cases he : putE x.h x.fs f = 0
  case neg =>
    have d : decide ((putE x.h x.fs f : Int) = 0) = false := decide_eq_false (by omega)
    have hp : putFs x.h x.fs f = x.fs := by rw [putFs, if_neg he]
    have ht : takeT (tsOf (a ++ x :: b)) { ev := ev, old := old } f = (tsOf (a ++ x :: b), {}, putE x.h x.fs f) := by rw [takeT, hg, if_pos he]
    rw [ht] at hq
    rw [hp] at tb
    simp (disch := first | omega | (simp only [lnx]; omega)) only [stdh, stdx, ↓reduceIte, seval, r0, r3, r4, r7, r8, d, gO1, List.getElem?_set_self]
    refine hq (G1.set (B + 1) _) o1 (a ++ x :: b) (by simp; omega) (fun m h1 h2 h3 h4 => ?_) (fun m hm => .inl hm) ?_ rfl
    · rw [List.getElem?_set_ne (fun e => h3 e.symm), k1 m (nin m h2).1 (nin m h2).2]
    · exact tb.1.keep fun m hm => List.getElem?_set_ne fun e => b2 (by rw [e]; exact hm)
  obtain ⟨c, hc, hc0, hcl⟩ := hw.count
  have hp : putFs x.h x.fs f = x.fs ++ [f] := by rw [putFs, if_pos he]
  rw [hp] at tb hw1 s1
  have hct : x.h.c.toNat = c := by omega
  rw [he]
  simp (disch := first | omega | (simp only [lnx]; omega)) only [stdh, stdx, ↓reduceIte, seval, r0, r3, r4, r7, r8, gP1, gM1, hf, hko, kindA]
  have hlx : (x.fs ++ [f]).length = x.fs.length + 1 := by simp
  obtain ⟨ht1, ht2⟩ := tb
  have nB2 : B + 2 ∉ tabF P M o1 (a ++ { x with fs := x.fs ++ [f] } :: b) := by rw [ht2]; exact b3
  by_cases hfull : x.fs.length + 1 = c
  · have ht : takeT (tsOf (a ++ x :: b)) { ev := ev, old := old } f = (tsOf (a ++ b), { body := bytesTo (x.fs ++ [f]) c, whole := true, ev := ev, old := old }, 0) := by rw [takeT, hg, if_neg (by simpa using he), if_pos (by show ((x.fs.length + 1 : Nat) : Int) = x.h.c; omega), hdm, hct]
    rw [ht] at hq
    refine callK_fn (sbytes_yes s1 hw1.size hc (by omega) (by omega) _ ?_)
    refine runL_V 60 ?_
    simp (disch := first | omega | (simp only [lnx]; omega)) only [stdh, stdx, ↓reduceIte, seval, gV1, List.getElem?_set_self]
    have hk2 : ∀ (c1 c2 : ABlk) m, m ≠ B + 2 → ((G1.set (B + 2) c1).set (B + 2) c2)[m]? = G1[m]? := fun c1 c2 m hm => by rw [List.getElem?_set_ne (fun e => hm e.symm), List.getElem?_set_ne (fun e => hm e.symm)]
    have hv2 : ∀ (c1 c2 : ABlk), ((G1.set (B + 2) c1).set (B + 2) c2)[B + 2]? = some c2 := fun c1 c2 => List.getElem?_set_self (by simp; omega)
    have hl2 : ∀ (c1 c2 : ABlk), ((G1.set (B + 2) c1).set (B + 2) c2).length = G.length := fun c1 c2 => by simp; omega
    obtain ⟨G2, hG2⟩ : ∃ G2, G2 = (G1.set (B + 2) (.cells [nums .u8 false (bytesTo (x.fs ++ [f]) c), .bool false, .bool ev, .int .u32 old] T.table_Out)).set (B + 2) (.cells [nums .u8 false (bytesTo (x.fs ++ [f]) c), .bool true, .bool ev, .int .u32 old] T.table_Out) := ⟨_, rfl⟩
    have k2 : ∀ m, m ≠ B + 2 → G2[m]? = G1[m]? := by rw [hG2]; exact hk2 _ _
    have gV2 : G2[B + 2]? = some (.cells [nums .u8 false (bytesTo (x.fs ++ [f]) c), .bool true, .bool ev, .int .u32 old] T.table_Out) := by rw [hG2]; exact hv2 _ _
    have l2 : G2.length = G.length := by rw [hG2]; exact hl2 _ _
    rw [← hG2]
    have h2 : TabS G2 P M room o1 (a ++ { x with fs := x.fs ++ [f] } :: b) := ht1.keep fun m hm => k2 m fun e => nB2 (by rw [← e]; exact hm)
    refine callK_fn (dropT_yes h2 hx _ ?_)
    intro G3 ord3 tt h3
    rw [ht2] at tt
    have gO2 := (k2 (B + 1) (by omega)).trans gO1
    have gO3 := (tt.kept (B + 1) (by omega) b2).trans gO2
    have gV3 := (tt.kept (B + 2) (by omega) b3).trans gV2
    have hl3 := tt.le
    refine runL_V 60 ?_
    simp (disch := first | omega | (simp only [lnx]; omega)) only [stdh, stdx, ↓reduceIte, seval, gV3, gO3, List.getElem?_set_self, List.getElem?_set_ne]
    refine hq (G3.set (B + 1) _) ord3 (a ++ b) (by simp; omega) (fun m m1 m2 m3 m4 => ?_) (fun m hm => ?_) ?_ rfl
    · rw [List.getElem?_set_ne (fun e => m3 e.symm), tt.kept m (by omega) m2, k2 m m4, k1 m (nin m m2).1 (nin m m2).2]
    · rcases tt.feet m hm with h | h
      · exact .inl h
      · exact .inr (by omega)
    · refine h3.keep fun m hm => List.getElem?_set_ne fun e => ?_
      rcases tt.feet m hm with h | h
      · exact b2 (by rw [e]; exact h)
      · omega
  · have ht : takeT (tsOf (a ++ x :: b)) { ev := ev, old := old } f = (tsOf (a ++ { x with fs := x.fs ++ [f] } :: b), { ev := ev, old := old }, 0) := by rw [takeT, hg, if_neg (by simpa using he), if_neg (by show ¬ ((x.fs.length + 1 : Nat) : Int) = x.h.c; omega), hum]
    rw [ht] at hq
    refine callK_fn (sbytes_no s1 (by omega) _ ?_)
    refine runL_V 60 ?_
    simp (disch := first | omega | (simp only [lnx]; omega)) only [stdh, stdx, ↓reduceIte, seval, gV1, gO1, List.getElem?_set_self, List.getElem?_set_ne]
    refine hq (((G1.set (B + 2) _).set (B + 2) _).set (B + 1) _) o1 (a ++ { x with fs := x.fs ++ [f] } :: b) (by simp; omega) (fun m m1 m2 m3 m4 => ?_) (fun m hm => ?_) ?_ rfl
    · rw [List.getElem?_set_ne (fun e => m3 e.symm), List.getElem?_set_ne (fun e => m4 e.symm), List.getElem?_set_ne (fun e => m4 e.symm), k1 m (nin m m2).1 (nin m m2).2]
    · rw [ht2] at hm; exact .inl hm
    · refine ht1.keep fun m hm => ?_
      rw [ht2] at hm
      rw [List.getElem?_set_ne (fun e => b2 (by rw [e]; exact hm)), List.getElem?_set_ne (fun e => b3 (by rw [e]; exact hm)), List.getElem?_set_ne (fun e => b3 (by rw [e]; exact hm))]

theorem slotW_new {h : Hd} (hk : checkOf h = 0) : SlotW { h with i := 0 } [] := by
  refine ⟨?_, rfl, by simp [sizeFs], by simp, List.Pairwise.nil⟩
  unfold checkOf bads at hk ⊢
  simp at hk ⊢
  split at hk
  · omega
  split at hk
  · omega
  split at hk
  · omega
  rename_i h1 h2 h3
  rw [if_neg h1, if_neg h2, if_neg (by omega)]

section
variable {H : AHeap} {P M room : Nat} {ord : AVal} {sl : List Sl}
set_option maxRecDepth 10000 in
set_option maxHeartbeats 8000000 in
theorem tput_ok (h : TabS H P M room ord sl) (f : Fr) (his : is32 f.h.s) (hfl : f.b.length ≤ 1000) (hroom : 1 ≤ room) (Q : AVal → AHeap → Prop)
    (hq : ∀ H' ord' sl', Touches (tabF P M ord sl) H (tabF P M ord' sl') H' → TabS H' P M room ord' sl' → tsOf sl' = (putT room (tsOf sl) f).1 → Q (.tup [.agg (encOut (putT room (tsOf sl) f).2.1), .int .i64 ((putT room (tsOf sl) f).2.2 : Nat)]) H') :
    FunOK Try.prog F.table_Table_Put [.ptr P 0, .agg (encFr f)] H Q := by
  have hpl := (List.getElem?_eq_some_iff.1 h.p).1
  have hml := (List.getElem?_eq_some_iff.1 h.m).1
  have hft := h.foot
  have nin : ∀ m, H.length ≤ m → m ∉ tabF P M ord sl := fun m hm hh => by have := hft m hh; omega
  have px : ∀ X, (H ++ X)[P]? = _ := fun X => (at_low hpl).trans h.p
  have mx : ∀ X, (H ++ X)[M]? = _ := fun X => (at_low hml).trans h.m
  -- refused at once
  have bad : ∀ (e : Nat) (X : AHeap), putT room (tsOf sl) f = (tsOf sl, {}, e) → Q (.tup [.agg [.nils, .bool false, .bool false, .int .u32 0], .int .i64 (e : Nat)]) (H ++ X) := fun e X he => by
    have := hq (H ++ X) ord sl ⟨by simp, fun m hm => .inl hm, fun m hm _ => at_low hm⟩ (h.keeps (keeps_append _ _)) (by rw [he])
    rw [he] at this
    exact this
  refine fun_V 100 table_Table_Put_code rfl ?_
  simp (disch := first | omega | (simp only [lnx]; omega)) only [stdh, stdx, ↓reduceIte, seval, table_Table_Put, table_Table_Put.body, encFr, eqA]
  refine callK_fn (check_ok _ f.h _ ?_)
  refine runL_V 46 ?_
  by_cases hc : checkOf f.h = 0
  case neg =>
    have d : decide ((checkOf f.h : Int) = 0) = false := decide_eq_false (by omega)
    simp (disch := first | omega | (simp only [lnx]; omega)) only [stdh, stdx, ↓reduceIte, seval, d]
    exact bad _ _ (by rw [putT, if_pos hc])
  rw [hc]
  by_cases hb : f.b = []
  · have d : decide ((f.b.length : Int) = 0) = true := decide_eq_true (by rw [hb]; rfl)
    simp (disch := first | omega | (simp only [lnx]; omega)) only [stdh, stdx, ↓reduceIte, seval, d]
    exact bad 13 _ (by rw [putT, if_neg (by omega), if_pos hb])
  have hbl : 0 < f.b.length := List.length_pos_iff.2 hb
  have d0 : decide ((f.b.length : Int) = 0) = false := decide_eq_false (by omega)
  have hko := keyT (q := f.h.s) (sl := sl)
  by_cases hh : hasT (tsOf sl) f.h.s = true
  · obtain ⟨a, x, b, rfl, hx⟩ := hasT_yes hh
    have hn : ∀ y ∈ a, y.h.s ≠ f.h.s := fun y hy => by rw [← hx]; exact nodup_ne h.n y (.inl hy)
    have hf := findT_yes (b := b) hx hn
    have hpt : putT room (tsOf (a ++ x :: b)) f = takeT (tsOf (a ++ x :: b)) {} f := by rw [putT, if_neg (by omega), if_neg hb, if_pos hh]
    rw [hpt] at hq
    simp (disch := first | omega | (simp only [lnx]; omega)) only [stdh, stdx, ↓reduceIte, seval, d0, px, mx, hf, hko, kindA, eqA]
    refine ptail (h.keeps (keeps_append _ _)) f hx hfl rfl rfl rfl rfl rfl at_0 at_k at_k (nin _ (by omega)) (nin _ (by omega)) (nin _ (by omega)) Q ?_
    intro H' ord' sl' q1 q2 q3 q4 q5
    rw [List.length_append] at q1
    refine hq H' ord' sl' ⟨by omega, fun m hm => ?_, fun m m1 m2 => ?_⟩ q4 q5
    · rcases q3 m hm with h | h
      · exact .inl h
      · exact .inr (by rw [List.length_append] at h; omega)
    · rw [q2 m (by rw [List.length_append]; omega) m2 (by omega) (by omega), at_low m1]
  have hh' : hasT (tsOf sl) f.h.s = false := by simpa using hh
  have hno := hasT_no hh'
  have hfn := findT_no hno
  by_cases h192 : 192 < f.b.length
  · have d1 : decide ((192 : Int) < (f.b.length : Nat)) = true := decide_eq_true (by omega)
    have d2 : decide (((f.b.length : Nat) : Int) > 192) = true := decide_eq_true (by omega)
    simp (disch := first | omega | (simp only [lnx]; omega)) only [stdh, stdx, ↓reduceIte, seval, d0, px, mx, hfn, hko, kindA, eqA, d1, d2]
    refine run_V0 60 ?_
    simp (disch := first | omega | (simp only [lnx]; omega)) only [stdh, stdx, ↓reduceIte, seval, d1, d2]
    exact bad 6 _ (by rw [putT, if_neg (by omega), if_neg hb, if_neg hh, if_pos h192])
  have d1 : decide ((192 : Int) < (f.b.length : Nat)) = false := decide_eq_false (by omega)
  have d2 : decide (((f.b.length : Nat) : Int) > 192) = false := decide_eq_false (by omega)
  have hw0 : SlotW { f.h with i := 0 } [] := slotW_new hc
  simp (disch := first | omega | (simp only [lnx]; omega)) only [stdh, stdx, ↓reduceIte, seval, d0, px, mx, hfn, hko, kindA, eqA, d1, d2]
  refine run_V0 60 ?_
  simp (disch := first | omega | (simp only [lnx]; omega)) only [stdh, stdx, ↓reduceIte, seval, d1, d2]
  have htl : (tsOf sl).length = sl.length := by simp [tsOf]
  have hX : ∀ X, TabS (H ++ X) P M room ord sl := fun X => h.keeps (keeps_append _ _)
  by_cases hfree : sl.length < room
  · have hpt : putT room (tsOf sl) f = takeT (tsOf sl ++ [({ f.h with i := 0 }, [])]) {} f := by rw [putT, if_neg (by omega), if_neg hb, if_neg hh, if_neg h192, if_pos (by omega)]
    rw [hpt] at hq
    refine callK_fn (fresh_new (hX _) his hc hw0 hfree hno _ ?_)
    intro G ord1 S2 M2 tt h1
    have gl := tt.le
    simp only [List.length_append, List.length_cons, List.length_nil] at gl
    have gB := (tt.kept H.length (by (first | omega | (simp only [lnx]; omega))) (nin _ (by omega))).trans at_0
    have gO := (tt.kept (H.length + 1) (by (first | omega | (simp only [lnx]; omega))) (nin _ (by omega))).trans at_k
    have gV := (tt.kept (H.length + 2) (by (first | omega | (simp only [lnx]; omega))) (nin _ (by omega))).trans at_k
    refine runL_V 13 ?_
    simp (disch := first | omega | (simp only [lnx]; omega)) only [stdh, stdx, ↓reduceIte, seval, gV]
    have hkk : ∀ m, m ≠ H.length + 2 → (G.set (H.length + 2) (.cells [.nils, .bool false, .bool false, .int .u32 0] T.table_Out))[m]? = G[m]? := fun m hm => List.getElem?_set_ne (fun e => hm e.symm)
    have nin1 : ∀ m, H.length ≤ m → m < H.length + 3 → m ∉ tabF P M ord1 (sl ++ [⟨S2, M2, { f.h with i := 0 }, []⟩]) := fun m m1 m2 hm => by
      rcases tt.feet m hm with h | h
      · exact nin m m1 h
      · simp only [List.length_append, List.length_cons, List.length_nil] at h
        omega
    have h2 : TabS (G.set (H.length + 2) (.cells [.nils, .bool false, .bool false, .int .u32 0] T.table_Out)) P M room ord1 (sl ++ [⟨S2, M2, { f.h with i := 0 }, []⟩]) := h1.keep fun m hm => hkk m fun e => nin1 m (by omega) (by omega) hm
    have hts : tsOf (sl ++ [⟨S2, M2, { f.h with i := 0 }, []⟩]) = tsOf (sl) ++ [({ f.h with i := 0 }, [])] := by simp [tsOf]
    refine ptail h2 f rfl hfl rfl rfl rfl rfl rfl ((hkk _ (by omega)).trans gB) ((hkk _ (by omega)).trans gO) (List.getElem?_set_self (by omega)) (nin1 _ (by omega) (by omega)) (nin1 _ (by omega) (by omega)) (nin1 _ (by omega) (by omega)) Q ?_
    rw [hts]
    intro H' ord' sl' q1 q2 q3 q4 q5
    rw [List.length_set] at q1 q2 q3
    refine hq H' ord' sl' ⟨by omega, fun m hm => ?_, fun m m1 m2 => ?_⟩ q4 q5
    · rcases q3 m hm with h | h
      · rcases tt.feet m h with h | h
        · exact .inl h
        · simp only [List.length_append, List.length_cons, List.length_nil] at h
          exact .inr (by omega)
      · exact .inr (by omega)
    · have hm1 : m ∉ tabF P M ord1 (sl ++ [⟨S2, M2, { f.h with i := 0 }, []⟩]) := fun hm => by
        rcases tt.feet m hm with h | h
        · exact m2 h
        · simp only [List.length_append, List.length_cons, List.length_nil] at h
          omega
      rw [q2 m (by omega) hm1 (by omega) (by omega), hkk m (by omega), tt.kept m (by (first | omega | (simp only [lnx]; omega))) m2, at_low m1]
  · have hrm := h.r
    have hln : sl ≠ [] := fun e => by rw [e] at hfree; simp at hfree; omega
    have hmem : oldest (sl.map fun x => x.h.s) ∈ sl.map fun x => x.h.s := oldest_mem (by simpa using hln)
    by_cases ha : aftI f.h.s (oldest (sl.map fun x => x.h.s)) = false
    · refine callK_fn (fresh_late (hX _) his (by omega) ha hln _ ?_)
      refine runL_V 60 ?_
      simp (disch := first | omega | (simp only [lnx]; omega)) only [stdh, stdx, ↓reduceIte, seval]
      exact bad 18 _ (by rw [putT, if_neg (by omega), if_neg hb, if_neg hh, if_neg h192, if_neg (by omega), seqs_of, if_pos ha])
    obtain ⟨a, x, b, rfl, hxo⟩ := mem_split hmem
    have hpt : putT room (tsOf (a ++ x :: b)) f = takeT (tsOf (a ++ b) ++ [({ f.h with i := 0 }, [])]) { ev := true, old := x.h.s } f := by
      rw [putT, if_neg (by omega), if_neg hb, if_neg hh, if_neg h192, if_neg (by omega), seqs_of, if_neg ha, ← hxo, dropT_mid h.n rfl]
    rw [hpt] at hq
    rw [← hxo, Bool.not_eq_false] at ha
    refine callK_fn (fresh_evict (hX _) his hc hw0 (by omega) hno hxo.symm ha _ ?_)
    intro G ord1 S2 M2 tt h1
    have gl := tt.le
    simp only [List.length_append, List.length_cons, List.length_nil] at gl
    have gB := (tt.kept H.length (by (first | omega | (simp only [lnx]; omega))) (nin _ (by omega))).trans at_0
    have gO := (tt.kept (H.length + 1) (by (first | omega | (simp only [lnx]; omega))) (nin _ (by omega))).trans at_k
    have gV := (tt.kept (H.length + 2) (by (first | omega | (simp only [lnx]; omega))) (nin _ (by omega))).trans at_k
    refine runL_V 13 ?_
    simp (disch := first | omega | (simp only [lnx]; omega)) only [stdh, stdx, ↓reduceIte, seval, gV]
    have hkk : ∀ m, m ≠ H.length + 2 → (G.set (H.length + 2) (.cells [.nils, .bool false, .bool true, .int .u32 x.h.s] T.table_Out))[m]? = G[m]? := fun m hm => List.getElem?_set_ne (fun e => hm e.symm)
    have nin1 : ∀ m, H.length ≤ m → m < H.length + 3 → m ∉ tabF P M ord1 (a ++ b ++ [⟨S2, M2, { f.h with i := 0 }, []⟩]) := fun m m1 m2 hm => by
      rcases tt.feet m hm with h | h
      · exact nin m m1 h
      · simp only [List.length_append, List.length_cons, List.length_nil] at h
        omega
    have h2 : TabS (G.set (H.length + 2) (.cells [.nils, .bool false, .bool true, .int .u32 x.h.s] T.table_Out)) P M room ord1 (a ++ b ++ [⟨S2, M2, { f.h with i := 0 }, []⟩]) := h1.keep fun m hm => hkk m fun e => nin1 m (by omega) (by omega) hm
    have hts : tsOf (a ++ b ++ [⟨S2, M2, { f.h with i := 0 }, []⟩]) = tsOf (a ++ b) ++ [({ f.h with i := 0 }, [])] := by simp [tsOf]
    refine ptail h2 f rfl hfl rfl rfl rfl rfl rfl ((hkk _ (by omega)).trans gB) ((hkk _ (by omega)).trans gO) (List.getElem?_set_self (by omega)) (nin1 _ (by omega) (by omega)) (nin1 _ (by omega) (by omega)) (nin1 _ (by omega) (by omega)) Q ?_
    rw [hts]
    intro H' ord' sl' q1 q2 q3 q4 q5
    rw [List.length_set] at q1 q2 q3
    refine hq H' ord' sl' ⟨by omega, fun m hm => ?_, fun m m1 m2 => ?_⟩ q4 q5
    · rcases q3 m hm with h | h
      · rcases tt.feet m h with h | h
        · exact .inl h
        · simp only [List.length_append, List.length_cons, List.length_nil] at h
          exact .inr (by omega)
      · exact .inr (by omega)
    · have hm1 : m ∉ tabF P M ord1 (a ++ b ++ [⟨S2, M2, { f.h with i := 0 }, []⟩]) := fun hm => by
        rcases tt.feet m hm with h | h
        · exact m2 h
        · simp only [List.length_append, List.length_cons, List.length_nil] at h
          omega
      rw [q2 m (by omega) hm1 (by omega) (by omega), hkk m (by omega), tt.kept m (by (first | omega | (simp only [lnx]; omega))) m2, at_low m1]
end
end Go.Proofs.Ytamcfgdnhgmkpaa

namespace Go.Am
open Go
set_option linter.unusedVariables false
set_option linter.unusedSimpArgs false
section
variable {P : Program} {c : Ctx} {k : List AItem} {r : Regs} {H : AHeap} {Q : AVal → AHeap → Prop}

theorem slc_nil {e : Nm} {n off l z : Nat} {v : Value} (h : VRel e (.slc n off l z) v) (ha : alive e.H n = true) : ∃ p i j, v = .slice p i j ∧ (p = none → l = 0) := by
  simp only [VRel] at h
  obtain ⟨_, a, cap, rfl, h1, h2⟩ := h
  refine ⟨a, l, cap, rfl, fun hn => ?_⟩
  rcases h2 ha with ⟨_, h, _⟩ | ⟨h, _⟩ | ⟨b, r, _, rfl, _⟩
  · omega
  · exact h
  · cases hn

theorem runO_slcnil {a : AOper} {os2 : List AOper} {neg : Bool} {x y : AOpd} (hop : a.op = .eq neg .slice x y) (hw : wants r a.guard = some true) {n off l z : Nat} (hx : geto r x = .slc n off l z) (hy : geto r y = .nils) (hal : alive H n = true)
    (h : ∀ b : Bool, (b = true → l = 0) → RunO P c os2 k (rput a.dst (.bool (if neg then !b else b)) r) H Q) : RunO P c (a :: os2) k r H Q := by
  refine runO_any hw (by rw [hop]; simp) (fun av H' => H' = H ∧ ∃ b : Bool, (b = true → l = 0) ∧ av = .bool (if neg then !b else b)) ?_ ?_
  · intro o ρ w tmps e4 hrr hh
    rw [hop] at e4
    obtain ⟨dst, op, ty, pos, aft, gd⟩ := o
    simp only at e4
    unfold okOp at e4
    split at e4 <;> first | (cases e4; done) | (rename_i e5; cases e5; done) | skip
    rename_i op' t' x' y' yt neg' k'' x'' y'' e5
    cases e5
    simp only [Bool.and_eq_true, decide_eq_true_eq] at e4
    obtain ⟨⟨⟨rfl, h1⟩, h2⟩, h3⟩ := e4
    simp only [eqKindOk] at h3
    split at h3 <;> first | (cases h3; done) | skip
    rename_i hd
    have ra := cOpd_rel h1 hrr
    have rb := cOpd_rel h2 hrr
    rw [hx] at ra
    rw [hy] at rb
    obtain ⟨p, i1, j1, ev, hp⟩ := slc_nil ra hal
    have ev2 : evalv tmps y' = .slice none 0 0 := by simpa [VRel] using rb
    refine ⟨_, H, ⟨rfl, p.isNone, fun hb => hp (by simpa using hb), rfl⟩, ?_⟩
    exact (eqnil_ok (P := P) hh (neg := neg) hd (X := x') (Y := y') p i1 j1).val fun v w' hh' => by
      simp only [execOp]
      rw [← ev, ← ev2] at hh'
      exact run_v hh'
  · rintro av H' ⟨rfl, b, hb, rfl⟩
    exact h b hb
theorem runL_slcnil {T : List AItem} {dst : Option Nat} {os : List AOper} {live : List Nat} {neg : Bool} {x y : AOpd} {n off l z : Nat} (hx : geto r x = .slc n off l z) (hy : geto r y = .nils) (hal : alive H n = true)
    (h : ∀ b : Bool, (b = true → l = 0) → RunL P c os live k T (rput dst (.bool (if neg then !b else b)) r) H Q) : RunL P c (⟨dst, .eq neg .slice x y, none⟩ :: os) live k T r H Q :=
  runO_slcnil (a := ⟨dst, .eq neg .slice x y, none⟩) rfl rfl hx hy hal h
end
theorem alive_vec {H : AHeap} {n w : Nat} {cs : List AVal} {el : TypeId} (h : H[n]? = some (.vec cs el w)) : alive H n = true := by simp [alive, h, ABlk.isLive]
end Go.Am
namespace Go.Proofs.Ytamcfgdnhgmkpaa
open Go Go.Am
set_option linter.unusedSimpArgs false
set_option linter.unusedVariables false

section
variable {H : AHeap} {P M room : Nat} {ord : AVal} {sl : List Sl}

theorem sclone_ok {n : Nat} {cs : List AVal} (ho : Own 1 T.uint32 0 H ord n cs) (hn : n ≤ 1000) (hc : cs.all AVal.cellish = true) (hcl : ∀ L, closeds L cs) (Q : AVal → AHeap → Prop) (hq : Q (.imm cs n false) H) : FunOK Try.prog F.slices_Clone_uint32_uint32 [ord] H Q := by
  have hcs := ho.len
  have none_ok : n = 0 → ∀ H', Keeps H H' → IceQ H Q .nils H' := fun h0 H' hk => by
    have : cs = [] := List.length_eq_zero_iff.1 (by omega)
    subst this h0
    exact ⟨hk, [], .imm [] 0 false, by simp, by simp only [mv]; exact Sees.nils false, hq⟩
  refine fun_iced slices_Clone_uint32_uint32_code fun _ => ?_
  rcases ho.is with ⟨rfl, h0⟩ | ⟨L, _, rfl, hL⟩
  · refine fun_V 60 slices_Clone_uint32_uint32_code rfl ?_
    simp (disch := first | omega | (simp only [lnx]; omega)) only [stdh, stdx, ↓reduceIte, seval, slices_Clone_uint32_uint32, slices_Clone_uint32_uint32.body, eqA]
    exact none_ok h0 _ (Keeps.refl _)
  · have hLl := (List.getElem?_eq_some_iff.1 hL).1
    refine fun_V 8 slices_Clone_uint32_uint32_code rfl ?_
    simp (disch := first | omega | (simp only [lnx]; omega)) only [stdh, stdx, ↓reduceIte, seval, slices_Clone_uint32_uint32, slices_Clone_uint32_uint32.body]
    refine runL_slcnil (n := L) (off := 0) (l := n) (z := 1) rfl rfl (alive_vec hL) fun b hb => ?_
    refine runL_V 60 ?_
    have hvw : ∀ X, srcCells (H ++ X) (.slc L 0 n 1) = some cs := fun X => by
      have := (at_low (L := X) hLl).trans hL
      simp [srcCells, view, this, content, hcs]
      first | exact List.take_of_length_le (by omega) | (rw [List.take_of_length_le (by omega)]; done)
    cases b
    · obtain ⟨p, a1, hp⟩ := Own.append3 (H := H ++ [ABlk.vec [] T.uint32 1]) (a := .slc H.length 0 0 1) (x := .slc L 0 n 1) (w := 1) (el := T.uint32) (B := 0) (n := 0) (cs := []) (k := n) (ys := cs) ⟨rfl, .inr ⟨_, Nat.zero_le _, rfl, at_0⟩⟩ 4 rfl (hvw _) hcs (by omega) (by omega) (by omega) hc
      simp (disch := first | omega | (simp only [lnx]; omega)) only [stdh, stdx, ↓reduceIte, seval, a1, hp, killA, set_0]
      exact ice_own (w := 1) (el := T.uint32) (keeps_append _ _) ⟨hcs, .inr ⟨H.length + 1, by omega, by simp, by simp⟩⟩ (hcl _) hq
    · simp (disch := first | omega | (simp only [lnx]; omega)) only [stdh, stdx, ↓reduceIte, seval]
      exact none_ok (hb rfl) _ (Keeps.refl _)

theorem seqV_all (sl : List Sl) : (seqV sl).all AVal.cellish = true := by
  rw [List.all_eq_true]
  intro x hx
  obtain ⟨q, _, rfl⟩ := List.mem_map.1 hx
  rfl
theorem seqV_closed (sl : List Sl) (L : Nat) : closeds L (seqV sl) := closeds_all fun x hx => by
  obtain ⟨q, _, rfl⟩ := List.mem_map.1 hx
  trivial
def qsV (qs : List Int) : AVal := .imm (qs.map (AVal.int .u32)) qs.length false
theorem tseqs_ok (h : TabS H P M room ord sl) (Q : AVal → AHeap → Prop) (hq : Q (qsV (seqsT (tsOf sl))) H) : FunOK Try.prog F.table_Table_Seqs [.ptr P 0] H Q := by
  have hr := h.r
  refine fun_V 60 table_Table_Seqs_code rfl ?_
  simp (disch := first | omega | (simp only [lnx]; omega)) only [stdh, stdx, ↓reduceIte, seval, table_Table_Seqs, table_Table_Seqs.body, eqA, h.p]
  refine callK_fn (sclone_ok h.o (by omega) (seqV_all sl) (seqV_closed sl) _ ?_)
  refine runL_V 60 ?_
  simp (disch := first | omega | (simp only [lnx]; omega)) only [stdh, stdx, ↓reduceIte, seval]
  have : qsV (seqsT (tsOf sl)) = .imm (seqV sl) sl.length false := by simp [qsV, seqs_of, seqV]
  rw [← this]; exact hq

/-! Numbers alike. -/
theorem load_qs {H : AHeap} {qs : List Int} {i : Nat} (hi : i < qs.length) : loadA H none (.sptr (qsV qs) i) = some (True, .int .u32 (qs.getD i 0)) := by
  simp [loadA, cellsAt, view, qsV, List.getD_eq_getElem?_getD, hi]
  omega

abbrev sqC : Ctx := ⟨F.cuneiformlaw14_seqs, 26, [.tmp 4], none⟩
theorem seqs_loop {qs ps : List Int} (hlen : qs.length = ps.length) (hl : qs.length ≤ 1000) (K : List AItem) (Q : AVal → AHeap → Prop) (hq : qs ≠ ps → Q (.bool false) H) (hK : qs = ps → ∀ r, Run Try.prog sqC K r H Q) :
    ∀ (z i : Nat), qs.length - i = z → i ≤ qs.length → (∀ j, j < i → qs.getD j 0 = ps.getD j 0) → Rounds Try.prog sqC cuneiformlaw14_seqs.b1 [.inBlock 0] K [(0, qsV qs), (1, qsV ps), (5, .int .i64 (i : Nat))] H Q
  | z, i, h1, h2, hh => by
    refine loop_V 60 cuneiformlaw14_seqs.b1.eq_1 ?_
    have hcast : (i : Int) + 1 = ((i + 1 : Nat) : Int) := by omega
    have s1 : slen (qsV qs) = some qs.length := rfl
    have s2 : slen (qsV ps) = some ps.length := rfl
    have w1 : (view H (qsV qs)).isSome = true := rfl
    have w2 : (view H (qsV ps)).isSome = true := rfl
    by_cases hi : i < qs.length
    · have l1 := load_qs (H := H) hi
      have l2 := load_qs (H := H) (qs := ps) (i := i) (by omega)
      by_cases he : qs.getD i 0 = ps.getD i 0
      · have d : decide (qs.getD i 0 = ps.getD i 0) = true := decide_eq_true he
        simp (disch := first | omega | (simp only [lnx]; omega)) only [stdh, stdx, ↓reduceIte, seval, s1, s2, l1, l2, d, cuneiformlaw14_seqs.d0, w1, w2]
        rw [hcast]
        exact seqs_loop hlen hl K Q hq hK _ (i + 1) rfl (by omega) fun j hj => by
          by_cases hji : j = i
          · subst hji; exact he
          · exact hh j (by omega)
      · have d : decide (qs.getD i 0 = ps.getD i 0) = false := decide_eq_false he
        simp (disch := first | omega | (simp only [lnx]; omega)) only [stdh, stdx, ↓reduceIte, seval, s1, s2, l1, l2, d, cuneiformlaw14_seqs.d0, w1, w2]
        exact hq fun e => he (by rw [e])
    · simp (disch := first | omega | (simp only [lnx]; omega)) only [stdh, stdx, ↓reduceIte, seval, s1, s2]
      refine hK ?_ _
      refine List.ext_getElem hlen fun j h3 h4 => ?_
      have := hh j (by omega)
      simpa [List.getD_eq_getElem?_getD, h3, h4] using this
  termination_by z => z
theorem seqs_ok (H : AHeap) {qs ps : List Int} (hl : qs.length ≤ 1000) (hl2 : ps.length ≤ 1000) (Q : AVal → AHeap → Prop) (hq : Q (.bool (decide (qs = ps))) H) : FunOK Try.prog F.cuneiformlaw14_seqs [qsV qs, qsV ps] H Q := by
  refine fun_V 60 cuneiformlaw14_seqs_code rfl ?_
  have s1 : slen (qsV qs) = some qs.length := rfl
  have s2 : slen (qsV ps) = some ps.length := rfl
  by_cases hlen : qs.length = ps.length
  · simp (disch := first | omega | (simp only [lnx]; omega)) only [stdh, stdx, ↓reduceIte, seval, cuneiformlaw14_seqs, cuneiformlaw14_seqs.body, s1, s2, hlen]
    refine seqs_loop hlen hl _ Q (fun h => by rwa [decide_eq_false h] at hq) (fun e r => ?_) _ 0 rfl (by omega) (fun j hj => by omega)
    refine run_V0 60 ?_
    simp (disch := first | omega | (simp only [lnx]; omega)) only [stdh, stdx, ↓reduceIte, seval]
    rwa [decide_eq_true e] at hq
  · have d : decide ((qs.length : Int) = (ps.length : Nat)) = false := decide_eq_false (by omega)
    simp (disch := first | omega | (simp only [lnx]; omega)) only [stdh, stdx, ↓reduceIte, seval, cuneiformlaw14_seqs, cuneiformlaw14_seqs.body, s1, s2, d]
    rwa [decide_eq_false (fun e => hlen (by rw [e]))] at hq
end
end Go.Proofs.Ytamcfgdnhgmkpaa

namespace Go.Proofs.Ytamcfgdnhgmkpaa
open Go Go.Am
set_option linter.unusedSimpArgs false
set_option linter.unusedVariables false

instance : Inhabited Sl := ⟨⟨0, 0, ⟨0, 0, 0, 0, 0⟩, []⟩⟩
def eachItem (sl : List Sl) (j : Nat) : List AVal := [.int .u32 (sl.getD j default).h.s, .ptr (sl.getD j default).s 0]
theorem sl_split {sl : List Sl} {j : Nat} (hj : j < sl.length) : ∃ a b, sl = a ++ sl.getD j default :: b ∧ a.length = j := by
  refine ⟨sl.take j, sl.drop (j + 1), ?_, by simp; omega⟩
  rw [show sl.getD j default = sl[j] by simp [List.getD_eq_getElem?_getD, hj]]
  rw [← List.drop_eq_getElem_cons hj, List.take_append_drop]
theorem seq_getD {sl : List Sl} {j : Nat} (hj : j < sl.length) : (sl.map fun x => x.h.s).getD j 0 = (sl.getD j default).h.s := by
  simp [List.getD_eq_getElem?_getD, hj]
theorem TabS.find {H : AHeap} {P M room : Nat} {ord : AVal} {sl : List Sl} (h : TabS H P M room ord sl) {j : Nat} (hj : j < sl.length) : Am.find (.int .u32 (sl.getD j default).h.s) (sl.map entT) = some (.ptr (sl.getD j default).s 0) := by
  obtain ⟨a, b, e, _⟩ := sl_split hj
  have hn := h.n
  generalize sl.getD j default = x at *
  subst e
  exact findT_yes rfl fun y hy => nodup_ne hn y (.inl hy)
theorem getD_mem {sl : List Sl} {j : Nat} (hj : j < sl.length) : sl.getD j default ∈ sl := by
  rw [show sl.getD j default = sl[j] by simp [List.getD_eq_getElem?_getD, hj]]
  exact List.getElem_mem hj

abbrev eaC : Ctx := ⟨F.table_Table_each_1, 27, [], none⟩

section
variable {H0 : AHeap} {P M room : Nat} {ord : AVal} {sl : List Sl}

theorem TabS.ord_slc {H : AHeap} (h : TabS H P M room ord sl) (h0 : 0 < sl.length) : ∃ L, ord = .slc L 0 sl.length 1 ∧ H[L]? = some (.vec (seqV sl) T.uint32 1) := by
  rcases h.o.is with ⟨_, hz⟩ | ⟨k, _, h2, h3⟩
  · omega
  · exact ⟨k, h2, h3⟩

set_option maxHeartbeats 4000000 in
theorem each_loop {n : Nat} (hs : TabS H0 P M room ord sl) {I : Bool → Nat → List Nat → AHeap → Prop} (hI : Fed Try.prog n (eachItem sl) sl.length I) (K : List AItem) (Q : AVal → AHeap → Prop) {fp0 : List Nat} (hown : ∀ m ∈ P :: M :: ord.names, m ∉ fp0)
    (hQ : ∀ b j fp H, H0.length ≤ H.length → (∀ m, m < H0.length → m ∉ fp0 → H[m]? = H0[m]?) → (b = true → j = sl.length) → I b j fp H → ∀ r, Run Try.prog eaC K r H Q) :
    ∀ (z i : Nat) (H : AHeap) (fp : List Nat), sl.length - i = z → i ≤ sl.length → Touches fp0 H0 fp H → I true i fp H →
    Rounds Try.prog eaC table_Table_each_1.b0 [.inBlock 0] K [(0, .yld n), (1, cell (.ptr P 0)), (10, ord), (11, .int .i64 (sl.length : Nat)), (12, .int .i64 (i : Nat))] H Q
  | z, i, H, fp, h1, h2, ht, hi => by
    refine loop_V 100 table_Table_each_1.b0.eq_1 ?_
    have hr := hs.r
    have hft := hs.foot
    have px := (ht.kept P (hft P (by simp [tabF])) (hown P (by simp))).trans hs.p
    have mx := (ht.kept M (hft M (by simp [tabF])) (hown M (by simp))).trans hs.m
    have hcast : (i : Int) + 1 = ((i + 1 : Nat) : Int) := by omega
    have hsl := hs.o.slen
    by_cases hik : i < sl.length
    · obtain ⟨L, hL, hLv⟩ := hs.ord_slc (by omega)
      have hLm : L ∈ ord.names := by rw [hL]; simp [AVal.names]
      have lx := (ht.kept L (hft L (by simp [tabF, hLm])) (hown L (by simp [hLm]))).trans hLv
      have hld := load_own (k := sl.length) lx (i := i) hik (by simp)
      rw [seq_getD hik] at hld
      have hvw := view_own (k := sl.length) lx (by simp)
      have hf := hs.find hik
      have hko := keyT (q := (sl.getD i default).h.s) (sl := sl)
      rw [hL] at px ⊢
      have harg : [AVal.int .u32 (sl.getD i default).h.s, .ptr (sl.getD i default).s 0] = eachItem sl i := rfl
      simp (disch := first | omega | (simp only [lnx]; omega)) only [stdh, stdx, ↓reduceIte, seval, hld, hvw, px, mx, hf, hko, kindA, eqA]
      rw [harg]
      refine CallV.mono (hI.step _ fp _ hik hi) fun av H1 hh => ?_
      obtain ⟨fp', ht1, hh⟩ := hh
      have ht2 := ht.trans ht1
      refine runL_V 60 ?_
      rcases hh with ⟨rfl, hi1⟩ | ⟨rfl, hi1⟩
      · simp (disch := first | omega | (simp only [lnx]; omega)) only [stdh, stdx, ↓reduceIte, seval]
        rw [hcast, ← hL]
        exact each_loop hs hI K Q hown hQ _ (i + 1) H1 fp' rfl (by omega) ht2 hi1
      · simp (disch := first | omega | (simp only [lnx]; omega)) only [stdh, stdx, ↓reduceIte, seval]
        exact hQ false _ fp' H1 ht2.le ht2.kept (fun e => by cases e) hi1 _
    · simp (disch := first | omega | (simp only [lnx]; omega)) only [stdh, stdx, ↓reduceIte, seval]
      rw [show i = sl.length by omega] at hi
      exact hQ true _ fp H ht.le ht.kept (fun _ => rfl) hi _
  termination_by z => z

theorem each_iter {n : Nat} (hs : TabS H0 P M room ord sl) : Iter Try.prog F.table_Table_each_1 [.yld n, cell (.ptr P 0)] n (eachItem sl) sl.length (P :: M :: ord.names) H0 := by
  intro I hI fp hi hown
  have hr := hs.r
  refine fun_V 100 table_Table_each_1_code rfl ?_
  simp (disch := first | omega | (simp only [lnx]; omega)) only [stdh, stdx, ↓reduceIte, seval, table_Table_each_1, table_Table_each_1.body, eqA, hs.p, hs.o.slen]
  refine each_loop hs hI _ _ hown ?_ _ 0 H0 fp rfl (Nat.zero_le _) (Touches.refl _ _) hi
  intro b j fp' H' h1 h2 h3 h4 r
  refine run_V0 60 ?_
  simp (disch := first | omega | (simp only [lnx]; omega)) only [stdh, stdx, ↓reduceIte, seval]
  refine run_fin rfl rfl trivial ?_
  exact ⟨b, j, fp', h1, h2, h3, h4⟩

theorem each_ok {H : AHeap} (hs : TabS H P M room ord sl) (Q : AVal → AHeap → Prop) (hq : Q (.fn F.table_Table_each_1 [] [cell (.ptr P 0)]) H) : FunOK Try.prog F.table_Table_each [.ptr P 0] H Q := by
  refine fun_iced table_Table_each_code fun _ => ?_
  refine fun_V 40 table_Table_each_code rfl ?_
  simp (disch := first | omega | (simp only [lnx]; omega)) only [stdh, stdx, ↓reduceIte, seval, table_Table_each, table_Table_each.body]
  exact ice_clo1 (by simpa [closed] using hs.foot P (by simp [tabF])) hq

/-! How many bytes there are. -/
def heldT (ts : Ts) : Nat := (ts.map fun t => sizeFs t.2).sum
theorem held_take {sl : List Sl} {j : Nat} (hj : j < sl.length) : heldT (tsOf (sl.take (j + 1))) = heldT (tsOf (sl.take j)) + sizeFs (sl.getD j default).fs := by
  rw [List.take_succ_eq_append_getElem hj, show sl.getD j default = sl[j] by simp [List.getD_eq_getElem?_getD, hj]]
  simp only [heldT, tsOf, List.map_append, List.map_cons, List.map_nil, List.sum_append, List.sum_cons, List.sum_nil, Nat.add_zero]
theorem held_le {H : AHeap} (h : TabS H P M room ord sl) (j : Nat) : heldT (tsOf (sl.take j)) ≤ 192 * min j sl.length := by
  have key : ∀ l : List Sl, (∀ x ∈ l, sizeFs x.fs ≤ 192) → heldT (tsOf l) ≤ 192 * l.length := by
    intro l
    induction l with
    | nil => intro _; simp [heldT, tsOf]
    | cons x l ih =>
      intro hl
      have h1 := ih fun y hy => hl y (by simp [hy])
      have h2 := hl x (by simp)
      simp only [heldT, tsOf, List.map_cons, List.sum_cons, List.length_cons] at h1 ⊢
      omega
  have := key (sl.take j) fun x hx => (h.s x (List.mem_of_mem_take hx)).2.1.size
  rwa [List.length_take] at this

set_option maxRecDepth 10000 in
set_option maxHeartbeats 8000000 in
theorem held_ok {H : AHeap} (h : TabS H P M room ord sl) (Q : AVal → AHeap → Prop) (hq : Q (.int .i64 (heldT (tsOf sl) : Nat)) H) : FunOK Try.prog F.table_Table_Held [.ptr P 0] H Q := by
  have hr := h.r
  have hft := h.foot
  refine fun_iced table_Table_Held_code fun _ => ?_
  refine fun_V 60 table_Table_Held_code rfl ?_
  simp (disch := first | omega | (simp only [lnx]; omega)) only [stdh, stdx, ↓reduceIte, seval, table_Table_Held, table_Table_Held.body]
  refine callK_fn (each_ok (h.keeps (keeps_append _ _)) _ ?_)
  refine runL_V 60 ?_
  simp (disch := first | omega | (simp only [lnx]; omega)) only [stdh, stdx, ↓reduceIte, seval]
  have hk2 : Keeps H (H ++ [ABlk.cells [.int .i64 0] T.int]) := keeps_append _ _
  have hl2 : (H ++ [ABlk.cells [.int .i64 0] T.int]).length = H.length + 1 := by simp
  have g0 : (H ++ [ABlk.cells [.int .i64 0] T.int])[H.length]? = some (.cells [.int .i64 (heldT (tsOf (sl.take 0)) : Nat)] T.int) := at_0
  generalize (H ++ [ABlk.cells [.int .i64 0] T.int]) = H2 at *
  have h2 := h.keeps hk2
  refine range_varsP (g := F.table_Table_each_1) (first := []) (captured := [cell (.ptr P 0)]) rfl (by intro n hn; cases hn) (item := eachItem sl) (len := sl.length) (fun j => rfl)
    [(H.length, T.int, fun j => [.int .i64 (heldT (tsOf (sl.take j)) : Nat)])] (fun _ => none) (varsN_cons g0 varsN_nil) (P :: M :: ord.names) (fun _ _ m => H2[m]?) (by
      intro m hm
      have : m ∈ tabF P M ord sl := by simp only [tabF, List.mem_cons, List.mem_append] at hm ⊢; rcases hm with h | h | h <;> simp [h]
      have := hft m this
      exact ⟨by omega, by simp; omega⟩) ?_ (fun H1 h1 h2' => iterP_of (by
        intro m hm
        have : m ∈ tabF P M ord sl := by simp only [tabF, List.mem_cons, List.mem_append] at hm ⊢; rcases hm with h | h | h <;> simp [h]
        have := hft m this
        exact ⟨by omega, h2' _ (by omega)⟩) (each_iter (h2.keep fun m hm => h2' m (by have := hft m hm; omega)))) ?_ (fun _ _ _ _ _ _ _ hh => by cases hh)
  · intro a' b' j H1 hj hst hl hkp hrec hv
    have q0 : H1[H.length]? = some (.cells [.int .i64 (heldT (tsOf (sl.take j)) : Nat)] T.int) := hv.get (c := H.length) (T := T.int) (f := fun j => [.int .i64 (heldT (tsOf (sl.take j)) : Nat)]) (by simp)
    have hle := held_le h j
    have hle2 := held_le h (j + 1)
    have e5 := held_take hj
    obtain ⟨ap1, ap2, ap3⟩ := h.apart
    have hxm := getD_mem hj
    have hs := (h2.s _ hxm).1
    have nx : ∀ m, m = (sl.getD j default).s ∨ m = (sl.getD j default).m → H1[m]? = H2[m]? := fun m hm => by
      have hms : m ∈ slF sl := slF_mem.2 ⟨_, hxm, hm⟩
      refine hkp m (by have := hft m (by simp [tabF, hms]); omega) (by simp; have := hft m (by simp [tabF, hms]); omega) ?_
      simp only [List.mem_cons, not_or]
      exact ⟨fun e => ap2 (e ▸ hms), fun e => ap3 (e ▸ hms), fun e => (ap1 m e).2.2 hms⟩
    have hs1 : SlotS H1 (sl.getD j default).s (sl.getD j default).m (sl.getD j default).h (sl.getD j default).fs := ⟨(nx _ (.inl rfl)).trans hs.s, (nx _ (.inr rfl)).trans hs.m⟩
    have hsl := (h.s _ hxm).1.lt
    have hit : eachItem sl j = [.int .u32 (sl.getD j default).h.s, .ptr (sl.getD j default).s 0] := rfl
    rw [hit]
    rw [hl2] at hrec hl ⊢
    have hs3 : ∀ X, SlotS (H1.set (H.length + 1) X) (sl.getD j default).s (sl.getD j default).m (sl.getD j default).h (sl.getD j default).fs := fun X => ⟨by rw [List.getElem?_set_ne (by omega)]; exact hs1.s, by rw [List.getElem?_set_ne (by omega)]; exact hs1.m⟩
    generalize sl.getD j default = x at *
    refine run_V0 60 ?_
    simp (disch := first | omega | (simp only [lnx]; omega)) only [stdh, stdx, ↓reduceIte, seval, table_Table_Held.a1, table_Table_Held.b1, table_Table_Held.d0, hrec, q0, List.zip_cons_cons, List.zip_nil_left, List.reverse_cons, List.reverse_nil, List.getElem?_set_self, List.getElem?_set_ne]
    refine callD_fn (ssize_ok (hs3 _) _ ?_)
    refine ⟨by simp (disch := first | omega | (simp only [lnx]; omega)) only [stdh, stdx, ↓reduceIte, seval, q0, List.getElem?_set_self, List.getElem?_set_ne], ?_⟩
    refine runD_V 60 ?_
    have hcast : ((heldT (tsOf (sl.take j)) : Nat) : Int) + (sizeFs x.fs : Nat) = (heldT (tsOf (sl.take (j + 1))) : Nat) := by omega
    simp (disch := first | omega | (simp only [lnx]; omega)) only [stdh, stdx, ↓reduceIte, seval, q0, List.getElem?_set_self, List.getElem?_set_ne]
    rw [hcast]
    refine round_fin (n := H.length + 1) rfl (by simp (disch := first | omega | (simp only [lnx]; omega)) only [List.getElem?_set_ne, List.getElem?_set_self, List.length_set, ne_eq, not_false_eq_true]; first | done | exact List.getElem?_set_self (by omega) | rfl) ?_
    refine varsNQ_mk rfl (by (first | omega | (simp only [lnx]; omega))) (fun m m1 m2 m3 => ?_) ?_ ?_
    · simp only [List.map_cons, List.map_nil, List.mem_cons, List.not_mem_nil, or_false, not_or] at m3
      rw [List.getElem?_set_ne (by omega), List.getElem?_set_ne (by omega), List.getElem?_set_ne (by omega)]
    · refine varsN_cons ?_ varsN_nil
      rw [List.getElem?_set_ne (by omega), List.getElem?_set_self (by (first | omega | (simp only [lnx]; omega)))]
    · rw [List.getElem?_set_self (by (first | omega | (simp only [lnx]; omega)))]
      rfl
  · intro H' hl hkp hcn _ hv
    have q0 : H'[H.length]? = some (.cells [.int .i64 (heldT (tsOf (sl.take sl.length)) : Nat)] T.int) := hv.get (c := H.length) (T := T.int) (f := fun j => [.int .i64 (heldT (tsOf (sl.take j)) : Nat)]) (by simp)
    rw [List.take_length] at q0
    have hkk : ∀ m, m < H.length → H'[m]? = H[m]? := fun m hm => by
      refine Eq.trans ?_ (hk2.2 m hm)
      by_cases hms : m ∈ P :: M :: ord.names
      · exact hcn m hms
      exact hkp m (by omega) (by simp; omega) hms
    refine run_V0 60 ?_
    simp (disch := first | omega | (simp only [lnx]; omega)) only [stdh, stdx, ↓reduceIte, seval, q0]
    exact ice_keeps ⟨by omega, hkk⟩ trivial hq
end
end Go.Proofs.Ytamcfgdnhgmkpaa

namespace Go.Proofs.Ytamcfgdnhgmkpaa
open Go Go.Am
set_option linter.unusedSimpArgs false
set_option linter.unusedVariables false

/-! What is so of every frame that comes. -/
theorem takeT_law (ts : Ts) (o : OutT) (f : Fr) (ho : o.whole = false) : ((takeT ts o f).2.2 ≠ 0 → (takeT ts o f).1 = ts ∧ (takeT ts o f).2.1 = {}) ∧ ((takeT ts o f).2.1.whole = true → (takeT ts o f).2.1.body.length ≤ 192) ∧ ((takeT ts o f).2.1.ev = true → o.ev = true) := by
  unfold takeT
  split
  · exact ⟨fun _ => ⟨rfl, rfl⟩, fun h => by simp at h, fun h => by simp at h⟩
  · rename_i he
    simp only [ne_eq, Decidable.not_not] at he
    obtain ⟨_, _, _, _, _, h6⟩ := putE_zero he
    split
    · refine ⟨fun h => absurd rfl h, fun _ => ?_, fun h => h⟩
      have := bytesTo_le ((getT ts f.h.s).2 ++ [f]) (getT ts f.h.s).1.c.toNat
      rw [sizeFs_append] at this
      simp only
      omega
    · exact ⟨fun h => absurd rfl h, fun h => by simp [ho] at h, fun h => h⟩
theorem getT_new {ts : Ts} {q : Int} (h : hasT ts q = false) {n : Hd × List Fr} (hn : n.1.s = q) : getT (ts ++ [n]) q = n := by
  unfold getT
  rw [List.find?_append, List.find?_eq_none.2 (fun t ht => by
    simp only [hasT, List.any_eq_false] at h
    exact h t ht)]
  simp [hn]
theorem hasT_drop {ts : Ts} {q p : Int} (h : hasT ts q = false) : hasT (dropT ts p) q = false := by
  simp only [hasT, List.any_eq_false, dropT] at h ⊢
  exact fun t ht => h t (List.mem_filter.1 ht).1
theorem check_idx {h : Hd} (hc : checkOf h = 0) : 0 ≤ h.i ∧ h.i < h.c := by
  unfold checkOf at hc
  have hb : bads h 2 = false := by
    refine Classical.byContradiction fun hh => ?_
    rw [Bool.not_eq_false] at hh
    rw [hh] at hc
    simp at hc
    split at hc <;> try split at hc
    all_goals omega
  simp [bads] at hb
  omega
theorem takeT_new {ts : Ts} {o : OutT} {f : Fr} (hno : hasT ts f.h.s = false) (hc : checkOf f.h = 0) (hb : f.b ≠ []) (h192 : f.b.length ≤ 192) : putE { f.h with i := 0 } [] f = 0 ∧ getT (ts ++ [({ f.h with i := 0 }, [])]) f.h.s = ({ f.h with i := 0 }, []) ∧ (takeT (ts ++ [({ f.h with i := 0 }, [])]) o f).2.2 = 0 := by
  have hg := getT_new hno (n := ({ f.h with i := 0 }, [])) rfl
  have hp : putE { f.h with i := 0 } [] f = 0 := by
    obtain ⟨h1, h2⟩ := check_idx hc
    unfold putE
    rw [if_neg (by simp [mates]), if_neg (by simp only; omega), if_neg hb, if_neg (by simp [hasF, atF]), if_neg (by simp [sizeFs]; omega)]
  refine ⟨hp, hg, ?_⟩
  unfold takeT
  rw [hg, if_neg (by simpa using hp)]
  split <;> rfl
theorem putT_law {room : Nat} {ts : Ts} (hl : ts.length ≤ room) (f : Fr) : ((putT room ts f).2.2 ≠ 0 → (putT room ts f).1 = ts ∧ (putT room ts f).2.1 = {}) ∧ ((putT room ts f).2.1.whole = true → (putT room ts f).2.1.body.length ≤ 192) ∧ ((putT room ts f).2.1.ev = true → ts.length = room) := by
  have triv : ∀ e : Nat, ((ts, ({} : OutT), e).2.2 ≠ 0 → (ts, ({} : OutT), e).1 = ts ∧ (ts, ({} : OutT), e).2.1 = {}) ∧ ((ts, ({} : OutT), e).2.1.whole = true → (ts, ({} : OutT), e).2.1.body.length ≤ 192) ∧ ((ts, ({} : OutT), e).2.1.ev = true → ts.length = room) := fun e => ⟨fun _ => ⟨rfl, rfl⟩, fun h => by simp at h, fun h => by simp at h⟩
  unfold putT
  by_cases h1 : checkOf f.h = 0
  case neg => rw [if_pos h1]; exact triv _
  rw [if_neg (by omega)]
  by_cases h2 : f.b = []
  · rw [if_pos h2]; exact triv _
  rw [if_neg h2]
  by_cases h3 : hasT ts f.h.s = true
  · rw [if_pos h3]
    obtain ⟨a, b, c⟩ := takeT_law ts {} f rfl
    exact ⟨a, b, fun h => by simpa using c h⟩
  rw [if_neg h3]
  have h3' : hasT ts f.h.s = false := by simpa using h3
  by_cases h4 : 192 < f.b.length
  · rw [if_pos h4]; exact triv _
  rw [if_neg h4]
  by_cases h5 : ts.length < room
  · rw [if_pos h5]
    obtain ⟨a, b, c⟩ := takeT_law (ts ++ [({ f.h with i := 0 }, [])]) {} f rfl
    have e := (takeT_new (o := {}) h3' h1 h2 (by omega)).2.2
    exact ⟨fun h => absurd e h, b, fun h => by simpa using c h⟩
  rw [if_neg h5]
  split
  · exact triv _
  · obtain ⟨a, b, c⟩ := takeT_law (dropT ts (oldest (seqsT ts)) ++ [({ f.h with i := 0 }, [])]) { ev := true, old := oldest (seqsT ts) } f rfl
    have e := (takeT_new (o := { ev := true, old := oldest (seqsT ts) }) (hasT_drop (p := oldest (seqsT ts)) h3') h1 h2 (by omega)).2.2
    exact ⟨fun h => absurd e h, b, fun _ => by omega⟩

theorem wrap_u64n (o : Int) : ∃ u : Nat, IntKind.u64.wrap o = (u : Int) := by
  refine ⟨(IntKind.u64.wrap o).toNat, ?_⟩
  have : 0 ≤ IntKind.u64.wrap o := by
    simp only [IntKind.wrap, IntKind.signed, IntKind.bits]
    simp
    omega
  omega

theorem known14_ok (H : AHeap) (Q : AVal → AHeap → Prop) (h : Q (.bool true) H) : FunOK Try.prog F.cuneiformlaw14_known [] H Q := fun_reck codes_ok 10000 (.bool true) (by kernel_rfl) rfl rfl H Q h
abbrev tbC : Ctx := ⟨F.cuneiformlaw14_TableBounds, 110, [.tmp 4], none⟩
set_option maxRecDepth 10000 in
set_option maxHeartbeats 16000000 in
theorem tb_loop {l : List Fr} (h32 : ∀ f ∈ l, is32 f.h.s) {P M room : Nat} (hroom : 1 ≤ room) (K : List AItem) (Q : AVal → AHeap → Prop) (hK : ∀ r H, Run Try.prog tbC K r H Q) :
    ∀ (z i : Nat) (H : AHeap) (ord : AVal) (sl : List Sl) (rs : Regs), min l.length 100 - i = z → i ≤ min l.length 100 → TabS H P M room ord sl → rget rs 0 = .int .i64 (room : Nat) → rget rs 1 = recs encFr false l → rget rs 5 = .ptr P 0 → rget rs 7 = .int .i64 (i : Nat) →
    Rounds Try.prog tbC cuneiformlaw14_TableBounds.b0 [.inBlock 0] K rs H Q
  | z, i, H, ord, sl, rs, h1, h2, h, r0, r1, r5, r7 => by
    refine loop_V 100 cuneiformlaw14_TableBounds.b0.eq_1 ?_
    have hcast : (i : Int) + 1 = ((i + 1 : Nat) : Int) := by omega
    by_cases hi : i < l.length ∧ i < 100
    · obtain ⟨hi1, hi2⟩ := hi
      have hld := fun H => (frs_recs (H := H) (t := false) (fs := l)).loadN hi1 (o := 0) (n := 6) (by omega)
      simp only [Nat.add_zero] at hld
      have e6 : ∀ f : Fr, (encFr f).take 6 = encFr f := fun _ => rfl
      simp only [List.drop_zero, e6] at hld
      have hf32 : is32 (l.getD i default).h.s := h32 _ (by rw [show l.getD i default = l[i] by simp [List.getD_eq_getElem?_getD, hi1]]; exact List.getElem_mem hi1)
      generalize l.getD i default = f0 at *
      simp (disch := first | omega | (simp only [lnx]; omega)) only [stdh, stdx, ↓reduceIte, seval, r0, r1, r5, r7, hld]
      refine callK_fn (tseqs_ok h _ ?_)
      refine runL_V 60 ?_
      simp (disch := first | omega | (simp only [lnx]; omega)) only [stdh, stdx, ↓reduceIte, seval]
      refine callK_fn (held_ok h _ ?_)
      refine runL_V 60 ?_
      simp (disch := first | omega | (simp only [lnx]; omega)) only [stdh, stdx, ↓reduceIte, seval, hld]
      refine callK_fn (cut_ok _ f0 _ ?_)
      have hfl := cutFr_len f0
      have hfs : is32 (cutFr f0).h.s := hf32
      generalize cutFr f0 = f at *
      refine runL_V 60 ?_
      simp (disch := first | omega | (simp only [lnx]; omega)) only [stdh, stdx, ↓reduceIte, seval]
      refine callK_fn (tput_ok h f hfs (by omega) hroom _ ?_)
      intro H1 ord1 sl1 tt h1' hts
      have htl : (tsOf sl).length ≤ room := by simpa [tsOf] using h.r.1
      obtain ⟨c1, c2, c3⟩ := putT_law htl f
      generalize putT room (tsOf sl) f = res at *
      obtain ⟨ts', ⟨body, whole, ev, old⟩, e⟩ := res
      simp only at hts c1 c2 c3
      refine runL_V 60 ?_
      have hbc : (if whole = true then nums .u8 false body else .nils).cellish = true := by cases whole <;> rfl
      have hbl : slen (if whole = true then nums .u8 false body else .nils) = some (if whole = true then body.length else 0) := by cases whole <;> simp [slen, nums]
      simp only [encOut]
      generalize (if whole = true then nums IntKind.u8 false body else AVal.nils) = bv at *
      have h2' : ∀ X, TabS (H1 ++ X) P M room ord1 sl1 := fun X => h1'.keeps (keeps_append _ _)
      have hr1 := h1'.r
      have hr0 := h.r
      have hh1 := held_le h1' sl1.length
      rw [List.take_length, Nat.min_self] at hh1
      have d1 : decide (((sl1.length : Nat) : Int) > (room : Nat)) = false := decide_eq_false (by omega)
      have d1' : decide (((room : Nat) : Int) < (sl1.length : Nat)) = false := decide_eq_false (by omega)
      have d2 : decide (((192 : Int) * (sl1.length : Nat)) < ((heldT (tsOf sl1) : Nat) : Int)) = false := decide_eq_false (by omega)
      have d2' : decide (((heldT (tsOf sl1) : Nat) : Int) > (192 : Int) * (sl1.length : Nat)) = false := decide_eq_false (by omega)
      simp (disch := first | omega | (simp only [lnx]; omega)) only [stdh, stdx, ↓reduceIte, seval, hbc]
      refine callK_fn (tlen_ok (h2' _) _ ?_)
      refine runL_V 60 ?_
      simp (disch := first | omega | (simp only [lnx]; omega)) only [stdh, stdx, ↓reduceIte, seval, d1, d1']
      refine callK_fn (held_ok (h2' _) _ ?_)
      refine runL_V 60 ?_
      simp (disch := first | omega | (simp only [lnx]; omega)) only [stdh, stdx, ↓reduceIte, seval]
      refine callK_fn (tlen_ok (h2' _) _ ?_)
      refine runL_V 60 ?_
      have hsl : (seqsT (tsOf sl)).length = sl.length := by simp [seqsT, tsOf]
      have hsl1 : (seqsT (tsOf sl1)).length = sl1.length := by simp [seqsT, tsOf]
      have hsq : slen (qsV (seqsT (tsOf sl))) = some sl.length := by rw [← hsl]; rfl
      have htsl : (tsOf sl).length = sl.length := by simp [tsOf]
      have hnext := fun rs => tb_loop h32 hroom K Q hK (min l.length 100 - (i + 1)) (i + 1) (H1 ++ [.cells [bv, .bool whole, .bool ev, .int .u32 old] T.table_Out]) ord1 sl1 rs rfl (by omega) (h2' _)
      by_cases he : e = 0
      · subst he
        cases whole
        · cases ev
          · simp (disch := first | omega | (simp only [lnx]; omega)) only [stdh, stdx, ↓reduceIte, seval, d2, d2']
            rw [hcast]
            exact hnext _ rfl rfl rfl rfl
          · have d3 : decide (((sl.length : Nat) : Int) = (room : Nat)) = true := decide_eq_true (by have := c3 rfl; omega)
            simp (disch := first | omega | (simp only [lnx]; omega)) only [stdh, stdx, ↓reduceIte, seval, d2, d2', hsq, d3]
            rw [hcast]
            exact hnext _ rfl rfl rfl rfl
        · have d4 : decide ((192 : Int) < (body.length : Nat)) = false := decide_eq_false (by have := c2 rfl; omega)
          have d4' : decide (((body.length : Nat) : Int) > 192) = false := decide_eq_false (by have := c2 rfl; omega)
          simp only [if_true] at hbl
          cases ev
          · simp (disch := first | omega | (simp only [lnx]; omega)) only [stdh, stdx, ↓reduceIte, seval, d2, d2', hbl, d4, d4']
            rw [hcast]
            exact hnext _ rfl rfl rfl rfl
          · have d3 : decide (((sl.length : Nat) : Int) = (room : Nat)) = true := decide_eq_true (by have := c3 rfl; omega)
            simp (disch := first | omega | (simp only [lnx]; omega)) only [stdh, stdx, ↓reduceIte, seval, d2, d2', hsq, d3, hbl, d4, d4']
            rw [hcast]
            exact hnext _ rfl rfl rfl rfl
      · obtain ⟨rfl, hO⟩ := c1 he
        cases hO
        have d5 : decide ((e : Int) = 0) = false := decide_eq_false (by omega)
        simp (disch := first | omega | (simp only [lnx]; omega)) only [stdh, stdx, ↓reduceIte, seval, d2, d2', d5]
        refine callK_fn (tseqs_ok (h2' _) _ ?_)
        refine runL_V 60 ?_
        simp (disch := first | omega | (simp only [lnx]; omega)) only [stdh, stdx, ↓reduceIte, seval]
        refine callK_fn (seqs_ok _ (by omega) (by omega) _ ?_)
        rw [hts, decide_eq_true rfl]
        refine runL_V 60 ?_
        simp (disch := first | omega | (simp only [lnx]; omega)) only [stdh, stdx, ↓reduceIte, seval]
        refine callK_fn (held_ok (h2' _) _ ?_)
        rw [hts]
        refine runL_V 60 ?_
        simp (disch := first | omega | (simp only [lnx]; omega)) only [stdh, stdx, ↓reduceIte, seval]
        rw [hcast]
        exact hnext _ rfl rfl rfl rfl
    · by_cases hi1 : i < l.length
      · simp (disch := first | omega | (simp only [lnx]; omega)) only [stdh, stdx, ↓reduceIte, seval, r0, r1, r5, r7]
        exact hK _ _
      · simp (disch := first | omega | (simp only [lnx]; omega)) only [stdh, stdx, ↓reduceIte, seval, r0, r1, r5, r7]
        exact hK _ _
  termination_by z => z

set_option maxRecDepth 10000 in
set_option maxHeartbeats 8000000 in
theorem tablebounds_ok {room : Int} {l : List Fr} (h32 : ∀ f ∈ l, is32 f.h.s) : FunOK Try.prog F.cuneiformlaw14_TableBounds [.int .i64 room, recs encFr false l] [] fun av _ => av = .bool true := by
  refine fun_V 60 cuneiformlaw14_TableBounds_code rfl ?_
  obtain ⟨u, hu⟩ := wrap_u64n room
  obtain ⟨r0, hrem, hr0⟩ : ∃ j : Nat, (u : Int).tmod 16 = (j : Int) ∧ j < 16 := ⟨u % 16, by rw [Int.tmod_eq_emod_of_nonneg (by omega)]; rfl, Nat.mod_lt _ (by omega)⟩
  simp (disch := first | omega | (simp only [lnx]; omega)) only [stdh, stdx, ↓reduceIte, seval, cuneiformlaw14_TableBounds, cuneiformlaw14_TableBounds.body, hu, hrem]
  rw [show (1 : Int) + (r0 : Int) = ((r0 + 1 : Nat) : Int) by omega]
  obtain ⟨r, hr⟩ : ∃ r : Nat, r = r0 + 1 := ⟨_, rfl⟩
  rw [← hr]
  refine callK_fn (tnew_ok _ r (by omega) _ ?_)
  intro H P M hk hP hM h
  refine runL_V 60 ?_
  simp (disch := first | omega | (simp only [lnx]; omega)) only [stdh, stdx, ↓reduceIte, seval, eqA]
  refine tb_loop h32 (by omega) _ _ ?_ _ 0 H _ [] _ rfl (by omega) h rfl rfl rfl rfl
  intro r' H'
  refine run_V0 60 ?_
  simp (disch := first | omega | (simp only [lnx]; omega)) only [stdh, stdx, ↓reduceIte, seval]
  refine callK_fn (known14_ok _ _ ?_)
  refine runL_V 60 ?_
  simp (disch := first | omega | (simp only [lnx]; omega)) only [stdh, stdx, ↓reduceIte, seval]
set_option linter.unusedSimpArgs false
set_option linter.unusedVariables false

theorem u32_wf {s : Int} (h : (Lit.int .u32 s).wf = true) : is32 s := by
  simp only [Lit.wf, Bool.and_eq_true, decide_eq_true_eq, IntKind.min, IntKind.max, IntKind.signed, IntKind.bits] at h
  simp at h
  exact ⟨by omega, by omega⟩

theorem fr_fits32 {g : List AVal} (h : Fits shFrame g) : ∃ x : Fr, SeesL g (encFr x) ∧ is32 x.h.s := by
  obtain ⟨l1, l2, rfl, h1, h2⟩ := h
  obtain ⟨l3, l4, rfl, h3, h4⟩ := h2
  have h4' : l4 = [] := h4
  subst h4'
  obtain ⟨_, _, rfl, ⟨v, rfl, b1⟩, h1⟩ := h1
  obtain ⟨_, _, rfl, ⟨k, rfl, b2⟩, h1⟩ := h1
  obtain ⟨_, _, rfl, ⟨s, rfl, b3⟩, h1⟩ := h1
  obtain ⟨_, _, rfl, ⟨i, rfl, b4⟩, h1⟩ := h1
  obtain ⟨_, _, rfl, ⟨c, rfl, b5⟩, h1⟩ := h1
  have h1' : _ = ([] : List AVal) := h1
  subst h1'
  obtain ⟨x, rfl, hx⟩ := slice_one h3
  obtain ⟨bs, q1, q2, q3⟩ := nums_fits (k := .u8) rfl (show FitsA (.slice (.int .u8)) x from hx)
  exact ⟨⟨⟨v, k, s, i, c⟩, bs⟩, SeesL.cons (Sees.refl _) (SeesL.cons (Sees.refl _) (SeesL.cons (Sees.refl _) (SeesL.cons (Sees.refl _) (SeesL.cons (Sees.refl _) (SeesL.cons q1 SeesL.nil))))), u32_wf b3⟩

theorem frs_fits32 {a : AVal} (h : FitsA (.slice shFrame) a) : ∃ fs : List Fr, Sees a (recs encFr false fs) ∧ ∀ f ∈ fs, is32 f.h.s := by
  rcases h with h | ⟨gs, t, hg, h, hl⟩
  · cases h
    exact ⟨[], Sees.nils false, by simp⟩
  · cases h
    have : ∃ fs : List Fr, SeesL gs.flatten (fs.flatMap encFr) ∧ fs.length = gs.length ∧ ∀ f ∈ fs, is32 f.h.s := by
      clear hl
      induction gs with
      | nil => exact ⟨[], SeesL.nil, rfl, by simp⟩
      | cons g gs ih =>
        obtain ⟨fs, h1, h2, h3⟩ := ih fun x hx => hg x (by simp [hx])
        obtain ⟨x, hs, hs2⟩ := fr_fits32 (hg g (by simp))
        refine ⟨x :: fs, ?_, by simp [h2], fun f hf => (List.mem_cons.1 hf).elim (fun e => e ▸ hs2) (h3 f)⟩
        rw [List.flatten_cons, List.flatMap_cons]; exact SeesL.append hs h1
    obtain ⟨fs, h1, h2, h3⟩ := this
    refine ⟨fs, ?_, h3⟩
    have : recs encFr false fs = .imm (fs.flatMap encFr) gs.length false := by simp [recs, h2]
    rw [this]
    exact (Sees.imm h1 _ _).trans (Sees.loose _ _ _)
end Go.Proofs.Ytamcfgdnhgmkpaa
