/-
  behind Done of a number no frame of it is taken any more, whatever came between; no conditions By an AI agent. No person has read it.
-/
import Derived.Test.YtmioldcmjfackaaJOINA
import Derived.Test.YtmioldcmjfackaaAm6
import Derived.OpenShut
import Derived.Test.YtmioldcmjfackaaRows
set_option linter.unusedSimpArgs false
set_option linter.unusedVariables false

namespace Go.Proofs.Ytmioldcmjfackaa
open Go Go.Am
set_option linter.unusedSimpArgs false
set_option linter.unusedVariables false

def u32s (xs : List Nat) : List AVal := xs.map fun n : Nat => AVal.int .u32 (n : Int)
theorem u32s_len (xs : List Nat) : (u32s xs).length = xs.length := by simp [u32s]
theorem u32s_get (xs : List Nat) {j : Nat} (h : j < xs.length) : (u32s xs).getD j .junk = .int .u32 ((xs.getD j 0 : Nat) : Int) := by
  simp [u32s, List.getD_eq_getElem?_getD, h]

theorem own_same {w : Nat} {el : TypeId} {B : Nat} {H H' : AHeap} {a : AVal} {n : Nat} {cs : List AVal} (h : Own w el B H a n cs) (hk : ∀ m ∈ a.names, H'[m]? = H[m]?) : Own w el B H' a n cs := by
  refine ⟨h.len, ?_⟩
  rcases h.is with h | ⟨m, h1, h2, h3⟩
  · exact .inl h
  · exact .inr ⟨m, h1, h2, (hk m (by rw [h2]; simp [AVal.names])).trans h3⟩
abbrev joC : Ctx := ⟨F.cuneiformlaw15_JoinOnce, 113, [.tmp 8], none⟩
theorem jo_inner (K : List AItem) (H : AHeap) (Q : AVal → AHeap → Prop) {B n e pf po : Nat} {done : List Nat} {a : AVal} (ha : Own 1 T.uint32 B H a done.length (u32s done)) (hlen : done.length ≤ 1000) {c0 c1 c3 c4 c5 : AVal} (hf : H[pf]? = some (.cells [c0, c1, .int .u32 (n : Nat), c3, c4, c5] T.frame_Frame))
    (hno : e = 0 → n ∉ done) {s l w i o : AVal}
    (hK : ∀ r', rget r' 0 = s → rget r' 2 = l → rget r' 3 = w → rget r' 9 = i → rget r' 11 = a → rget r' 12 = o → rget r' 13 = .ptr pf 0 → rget r' 14 = .ptr po 0 → Run Try.prog joC K r' H Q) :
    ∀ (m j : Nat) (rs : Regs), done.length - j = m → j ≤ done.length → rget rs 0 = s → rget rs 2 = l → rget rs 3 = w → rget rs 9 = i → rget rs 11 = a → rget rs 12 = o → rget rs 13 = .ptr pf 0 → rget rs 14 = .ptr po 0 → rget rs 15 = .int .i64 (e : Nat) → rget rs 16 = .int .i64 (j : Nat) →
    Rounds Try.prog joC cuneiformlaw15_JoinOnce.b1 [.inBlock 2] K rs H Q
  | m, j, rs, h1, h2, r0, r2, r3, r9, r11, r12, r13, r14, r15, r16 => by
    refine loop_V 100 cuneiformlaw15_JoinOnce.b1.eq_1 ?_
    have hs := ha.slen
    have hcast : (j : Int) + 1 = ((j + 1 : Nat) : Int) := by omega
    by_cases hj : j < done.length
    · have hld := ha.load (j := j) (by rw [u32s_len]; exact hj)
      rw [u32s_get _ hj] at hld
      have his := ha.isSome
      by_cases he : e = 0
      · have hne : done.getD j 0 ≠ n := fun hh => hno he (by rw [← hh, show done.getD j 0 = done[j] by simp [List.getD_eq_getElem?_getD, hj]]; exact List.getElem_mem hj)
        have d : decide (((done.getD j 0 : Nat) : Int) = (n : Nat)) = false := decide_eq_false (by omega)
        simp (disch := first | omega | (simp only [lnx]; omega)) only [stdh, stdx, ↓reduceIte, seval, r0, r2, r3, r9, r11, r12, r13, r14, r15, r16, hs, hld, his, cuneiformlaw15_JoinOnce.d0, hf, d]
        rw [hcast]
        exact jo_inner K H Q ha hlen hf hno hK _ (j + 1) _ rfl (by omega) rfl rfl rfl rfl rfl rfl rfl rfl rfl rfl
      · have d2 : decide ((e : Int) = 0) = false := decide_eq_false (by omega)
        by_cases hq : done.getD j 0 = n
        · have d : decide (((done.getD j 0 : Nat) : Int) = (n : Nat)) = true := decide_eq_true (by omega)
          simp (disch := first | omega | (simp only [lnx]; omega)) only [stdh, stdx, ↓reduceIte, seval, r0, r2, r3, r9, r11, r12, r13, r14, r15, r16, hs, hld, his, cuneiformlaw15_JoinOnce.d0, hf, d, d2]
          rw [hcast]
          exact jo_inner K H Q ha hlen hf hno hK _ (j + 1) _ rfl (by omega) rfl rfl rfl rfl rfl rfl rfl rfl rfl rfl
        · have d : decide (((done.getD j 0 : Nat) : Int) = (n : Nat)) = false := decide_eq_false (by omega)
          simp (disch := first | omega | (simp only [lnx]; omega)) only [stdh, stdx, ↓reduceIte, seval, r0, r2, r3, r9, r11, r12, r13, r14, r15, r16, hs, hld, his, cuneiformlaw15_JoinOnce.d0, hf, d, d2]
          rw [hcast]
          exact jo_inner K H Q ha hlen hf hno hK _ (j + 1) _ rfl (by omega) rfl rfl rfl rfl rfl rfl rfl rfl rfl rfl
    · simp (disch := first | omega | (simp only [lnx]; omega)) only [stdh, stdx, ↓reduceIte, seval, r0, r2, r3, r9, r11, r12, r13, r14, r15, r16, hs]
      exact hK _ rfl rfl rfl rfl rfl rfl rfl rfl
  termination_by m => m

theorem takeJ_law {top bts room : Nat} {ts : Ts} (hl : ts.length ≤ room) (f : Fr) : ((takeJ top bts room ts f).2.2 = 0 → lookW top bts f.h.s.toNat = 0) ∧ ((takeJ top bts room ts f).2.1.whole = true → (takeJ top bts room ts f).2.2 = 0) := by
  unfold takeJ
  split
  · rename_i h
    exact ⟨fun h2 => absurd h2 h, fun h => by simp at h⟩
  split
  · rename_i h
    exact ⟨fun h2 => h2, fun h => by simp at h⟩
  · rename_i h
    refine ⟨fun _ => by simpa using h, fun hw => ?_⟩
    have := (putT_law hl f).1
    refine Classical.byContradiction fun he => ?_
    rw [(this he).2] at hw
    cases hw

theorem known15_ok (H : AHeap) (Q : AVal → AHeap → Prop) (h : Q (.bool true) H) : FunOK Try.prog F.cuneiformlaw15_known [] H Q := fun_reck codes_ok 10000 (.bool true) (by kernel_rfl) rfl rfl H Q h

/-- The number that the law makes of one near the start. -/
def nearN (s x : Nat) : Nat := (s + x + 4294967296 - 50) % 4294967296
theorem near_lt (s x : Nat) : nearN s x < 4294967296 := Nat.mod_lt _ (by omega)
theorem near_rel {s x : Nat} (hs : s < 4294967296) (hx : x < 65536) : rel s (nearN s x) < 131072 := by unfold rel nearN; omega
theorem start_rel {s : Nat} (hs : s < 4294967296) : rel s s < 131072 := by unfold rel; omega

theorem jdone_seen {H : AHeap} {J W P M top bts room : Nat} {ord : AVal} {sl : List Sl} (h : JoinS H J W P M top bts room ord sl) {n : Nat} (hn : n < 4294967296) (hl : lookW top bts n = 14) (Q : AVal → AHeap → Prop)
    (hq : ∀ H' ord' sl', Touches (W :: tabF P M ord sl) H (W :: tabF P M ord' sl') H' → JoinS H' J W P M top bts room ord' sl' → Q (.int .i64 14) H') :
    FunOK Try.prog F.join_Joiner_Done [.ptr J 0, .int .u32 (n : Nat)] H Q := by
  refine jdone_ok h hn Q fun H' ord' sl' t j => ?_
  have hm : markW top bts n = (top, bts) := if_pos (by omega)
  have h1 : (markW top bts n).1 = top := congrArg Prod.fst hm
  have h2 : (markW top bts n).2 = bts := congrArg Prod.snd hm
  rw [h1, h2] at j
  rw [hl]
  exact hq H' ord' sl' t j
theorem jdone_new {H : AHeap} {J W P M top bts room : Nat} {ord : AVal} {sl : List Sl} (h : JoinS H J W P M top bts room ord sl) {s n : Nat} (hs : s < 4294967296) (hn : n < 4294967296) (hl : lookW top bts n = 0) (htr : rel s top < 131072) (hnr : rel s n < 131072) (Q : AVal → AHeap → Prop)
    (hq : ∀ H' ord' sl' top' bts', Touches (W :: tabF P M ord sl) H (W :: tabF P M ord' sl') H' → JoinS H' J W P M top' bts' room ord' sl' → rel s top' < 131072 → Come s top' bts' n → (∀ c, Come s top bts c → Come s top' bts' c) → lookW top' bts' n = 14 → Q (.int .i64 0) H') :
    FunOK Try.prog F.join_Joiner_Done [.ptr J 0, .int .u32 (n : Nat)] H Q := by
  refine jdone_ok h hn Q fun H' ord' sl' t j => ?_
  obtain ⟨a, b, c⟩ := mark_come hs h.w.2.1 hn htr hnr hl
  rw [hl]
  exact hq H' ord' sl' _ _ t j a b c (look_again h.w.2.1 hn hl)

set_option maxRecDepth 10000 in
set_option maxHeartbeats 16000000 in
theorem jo_mid {l : List Fr} {near : List Nat} {s J W P M room : Nat} (hs : s < 4294967296) (hroom : 1 ≤ room) (K : List AItem) (Q : AVal → AHeap → Prop) {i : Nat} (hi2 : i < 100) {H : AHeap} {top bts : Nat} {ord : AVal} {sl : List Sl} {a : AVal} {done : List Nat} {rs : Regs} (h : JoinS H J W P M top bts room ord sl) (htr : rel s top < 131072) (hcome : ∀ c ∈ done, Come s top bts c) (hdl : done.length ≤ i)
    (ha : Own 1 T.uint32 0 H a done.length (u32s done)) (han : ∀ m ∈ a.names, m ∉ tabF P M ord sl ∧ m ≠ J ∧ m ≠ W) {f : Fr} (hfl : f.b.length ≤ 250) {n : Nat} (hn1 : n < 4294967296) (hn2 : rel s n < 131072)
    (hnext : ∀ H' top' bts' ord' sl' a' done' rs', JoinS H' J W P M top' bts' room ord' sl' → rel s top' < 131072 → (∀ c ∈ done', Come s top' bts' c) → done'.length ≤ i + 1 → Own 1 T.uint32 0 H' a' done'.length (u32s done') → (∀ m ∈ a'.names, m ∉ tabF P M ord' sl' ∧ m ≠ J ∧ m ≠ W) →
      rget rs' 0 = .int .u32 (s : Nat) → rget rs' 2 = recs encFr false l → rget rs' 3 = nums .u16 false near → rget rs' 9 = .ptr J 0 → rget rs' 11 = a' → rget rs' 12 = .int .i64 ((i + 1 : Nat) : Int) → Rounds Try.prog joC cuneiformlaw15_JoinOnce.b2 [.inBlock 0] K rs' H' Q)
    (r0 : rget rs 0 = .int .u32 (s : Nat)) (r2 : rget rs 2 = recs encFr false l) (r3 : rget rs 3 = nums .u16 false near) (r9 : rget rs 9 = .ptr J 0) (r11 : rget rs 11 = a) (r12 : rget rs 12 = .int .i64 (i : Nat)) (r13 : rget rs 13 = .ptr H.length 0) :
    Run Try.prog joC (.code (.seq (.region [⟨(some 67), .mov (.tmp 9), none⟩,
    ⟨(some 68), .load (some 6) (.tmp 13), none⟩,
    ⟨(some 69), .call (.const (.fn F.join_Joiner_Take [] [])) [(.tmp 67), (.tmp 68)], none⟩,
    ⟨(some 66), .mov (.tmp 69), none⟩,
    ⟨(some 70), .extract (.tmp 66) 0, none⟩,
    ⟨(some 71), .extract (.tmp 66) 1, none⟩,
    ⟨(some 14), .alloc T.table_Out [.nils, (.bool false), (.bool false), (.int .u32 0)], none⟩,
    ⟨none, .store 4 (.tmp 14) (.tmp 70), none⟩,
    ⟨(some 15), .mov (.tmp 71), none⟩] [0, 2, 3, 9, 11, 12, 13, 14, 15])
  (.seq (.seq (.region [⟨(some 16), .mov (.const (.int .i64 0)), none⟩] [0, 2, 3, 9, 11, 12, 13, 14, 15, 16])
  (.block 2 (.loop cuneiformlaw15_JoinOnce.b1)))
  (.seq (.region [⟨(some 90), .field 1 (.tmp 14), none⟩,
    ⟨(some 91), .load none (.tmp 90), none⟩] [0, 2, 3, 9, 11, 12, 13, 91])
  (.cond (.tmp 91) (.seq (.seq (.region [⟨(some 92), .mov (.tmp 9), none⟩,
    ⟨(some 93), .field 0 (.tmp 13), none⟩,
    ⟨(some 94), .field 2 (.tmp 93), none⟩,
    ⟨(some 95), .load none (.tmp 94), none⟩,
    ⟨(some 96), .call (.const (.fn F.join_Joiner_Done [] [])) [(.tmp 92), (.tmp 95)], none⟩,
    ⟨(some 97), .bin .neq (.tmp 96) (.const (.int .i64 0)), none⟩,
    ⟨(some 98), .mov (.tmp 97), none⟩,
    ⟨(some 99), .mov (.tmp 9), some (98, false)⟩,
    ⟨(some 100), .field 0 (.tmp 13), some (98, false)⟩,
    ⟨(some 101), .field 2 (.tmp 100), some (98, false)⟩,
    ⟨(some 102), .load none (.tmp 101), some (98, false)⟩,
    ⟨(some 103), .call (.const (.fn F.join_Joiner_Done [] [])) [(.tmp 99), (.tmp 102)], some (98, false)⟩,
    ⟨(some 104), .bin .neq (.tmp 103) (.const (.int .i64 14)), some (98, false)⟩,
    ⟨(some 105), .pick (.tmp 98) (.const (.bool true)) (.tmp 104), none⟩] [0, 2, 3, 9, 11, 12, 13, 105])
  (.cond (.tmp 105) (.seq (.region [⟨(some 8), .mov (.const (.bool false)), none⟩] [8])
  (.ret)) (.skip)))
  (.region [⟨(some 106), .mov (.tmp 11), none⟩,
    ⟨(some 107), .field 0 (.tmp 13), none⟩,
    ⟨(some 108), .field 2 (.tmp 107), none⟩,
    ⟨(some 109), .load none (.tmp 108), none⟩,
    ⟨(some 110), .lit T.uint32 1 1 [(.int .u32 0)] [(0, 1, (.tmp 109))], none⟩,
    ⟨(some 111), .append T.uint32 1 4 (.tmp 106) (.tmp 110), none⟩,
    ⟨(some 11), .mov (.tmp 111), none⟩] [0, 2, 3, 9, 11, 12])) (.skip))))) :: .inBlock 1 :: .code (.region [⟨(some 42), .mov (.tmp 12), none⟩,
    ⟨(some 43), .bin .add (.tmp 42) (.const (.int .i64 1)), none⟩,
    ⟨(some 12), .mov (.tmp 43), none⟩] [0, 2, 3, 9, 11, 12]) :: .inLoop cuneiformlaw15_JoinOnce.b2 :: .inBlock 0 :: K) rs
      (H ++ [.cells [.int .i64 f.h.v, .int .i64 f.h.k, .int .u32 (n : Nat), .int .i64 f.h.i, .int .i64 f.h.c, nums .u8 false f.b] T.frame_Frame]) Q := by
  have hcast : (i : Int) + 1 = ((i + 1 : Nat) : Int) := by omega
  have gf : (H ++ [ABlk.cells [.int .i64 f.h.v, .int .i64 f.h.k, .int .u32 (n : Nat), .int .i64 f.h.i, .int .i64 f.h.c, nums .u8 false f.b] T.frame_Frame])[H.length]? = some (.cells [.int .i64 f.h.v, .int .i64 f.h.k, .int .u32 (n : Nat), .int .i64 f.h.i, .int .i64 f.h.c, nums .u8 false f.b] T.frame_Frame) := at_0
  have hjX : JoinS (H ++ [.cells [.int .i64 f.h.v, .int .i64 f.h.k, .int .u32 (n : Nat), .int .i64 f.h.i, .int .i64 f.h.c, nums .u8 false f.b] T.frame_Frame]) J W P M top bts room ord sl := h.keeps (keeps_append _ _)
  have htl : (tsOf sl).length ≤ room := by simpa [tsOf] using h.t.r.1
  obtain ⟨c1, c2⟩ := takeJ_law (top := top) (bts := bts) htl { f with h := { f.h with s := (n : Nat) } }
  refine run_V0 60 ?_
  simp (disch := first | omega | (simp only [lnx]; omega)) only [stdh, stdx, ↓reduceIte, seval, r0, r2, r3, r9, r11, r12, r13, gf]
  refine callK_fn (jtake_ok hjX { f with h := { f.h with s := (n : Nat) } } ⟨by simp only; omega, by simp only; omega⟩ (by simp only; omega) hroom _ ?_)
  intro H1 ord1 sl1 tt h1' hts
  have jl := hjX.table tt h1'
  generalize takeJ top bts room (tsOf sl) { f with h := { f.h with s := (n : Nat) } } = res at *
  obtain ⟨ts', ⟨body, whole, ev, old⟩, e⟩ := res
  simp only [Int.toNat_natCast] at hts c1 c2
  have hl1 := tt.le
  simp only [List.length_append, List.length_cons, List.length_nil] at hl1
  have hft := h.t.foot
  have nin : ∀ m, H.length ≤ m → m ∉ tabF P M ord sl := fun m hm hh => by have := hft m hh; omega
  have hal : ∀ m ∈ a.names, m < H.length := fun m hm => by
    rcases ha.is with ⟨e0, _⟩ | ⟨k, _, e0, hk⟩
    · rw [e0] at hm; simp [AVal.names] at hm
    · rw [e0] at hm; simp [AVal.names] at hm; subst hm; exact (List.getElem?_eq_some_iff.1 hk).1
  have gF := (tt.kept H.length (by (first | omega | (simp only [lnx]; omega))) (nin _ (by omega))).trans at_0
  have ha1 : Own 1 T.uint32 0 H1 a done.length (u32s done) := own_same ha fun m hm => by
    have := hal m hm
    rw [tt.kept m (by (first | omega | (simp only [lnx]; omega))) (han m hm).1, at_low this]
  have han1 : ∀ m ∈ a.names, m ∉ tabF P M ord1 sl1 ∧ m ≠ J ∧ m ≠ W := fun m hm => ⟨fun hh => by
    rcases tt.feet m hh with hh | hh
    · exact (han m hm).1 hh
    · have := hal m hm; simp only [List.length_append, List.length_cons, List.length_nil] at hh; omega, (han m hm).2⟩
  have hbc : (if whole = true then nums .u8 false body else .nils).cellish = true := by cases whole <;> rfl
  simp only [encOut]
  generalize (if whole = true then nums IntKind.u8 false body else AVal.nils) = bv at *
  refine runL_V 60 ?_
  simp (disch := first | omega | (simp only [lnx]; omega)) only [stdh, stdx, ↓reduceIte, seval, r0, r2, r3, r9, r11, r12, r13, hbc]
  have gFx : (H1 ++ [ABlk.cells [bv, .bool whole, .bool ev, .int .u32 old] T.table_Out])[H.length]? = _ := (at_low (by omega)).trans gF
  have ha2 : Own 1 T.uint32 0 (H1 ++ [ABlk.cells [bv, .bool whole, .bool ev, .int .u32 old] T.table_Out]) a done.length (u32s done) := own_same ha1 fun m hm => at_low (by have := hal m hm; omega)
  have j2 : JoinS (H1 ++ [ABlk.cells [bv, .bool whole, .bool ev, .int .u32 old] T.table_Out]) J W P M top bts room ord1 sl1 := jl.keeps (keeps_append _ _)
  refine jo_inner (n := n) (e := e) (s := .int .u32 (s : Nat)) (l := recs encFr false l) (w := nums .u16 false near) (i := .ptr J 0) (o := .int .i64 (i : Nat)) _ _ Q ha2 (by omega) gFx (fun he hmem => come_look hs h.w.2.1 htr (hcome _ hmem) (c1 he)) ?_ _ 0 _ rfl (by omega) rfl rfl rfl rfl rfl rfl rfl rfl rfl rfl
  intro r' q0 q2 q3 q9 q11 q12 q13 q14
  have gO : (H1 ++ [ABlk.cells [bv, .bool whole, .bool ev, .int .u32 old] T.table_Out])[H1.length]? = some (.cells [bv, .bool whole, .bool ev, .int .u32 old] T.table_Out) := at_0
  have hHl : H1.length < (H1 ++ [ABlk.cells [bv, .bool whole, .bool ev, .int .u32 old] T.table_Out]).length := by simp
  generalize H1 ++ [ABlk.cells [bv, .bool whole, .bool ev, .int .u32 old] T.table_Out] = H2 at *
  refine run_V0 60 ?_
  cases whole
  · simp (disch := first | omega | (simp only [lnx]; omega)) only [stdh, stdx, ↓reduceIte, seval, q0, q2, q3, q9, q11, q12, q13, q14, gO]
    rw [hcast, List.append_nil]
    exact hnext H2 top bts ord1 sl1 a done _ j2 htr hcome (by omega) ha2 han1 rfl rfl rfl rfl rfl rfl
  · have he := c2 rfl
    have hlk := c1 he
    simp (disch := first | omega | (simp only [lnx]; omega)) only [stdh, stdx, ↓reduceIte, seval, q0, q2, q3, q9, q11, q12, q13, q14, gO, gFx]
    refine callK_fn (jdone_new j2 hs hn1 hlk htr hn2 _ ?_)
    intro H3 ord3 sl3 top1 bts1 t3 j3 hm1 hm2 hm3 hag
    have hl3 := t3.le
    have ninF : H.length ∉ W :: tabF P M ord1 sl1 := fun hm => by
      rcases List.mem_cons.1 hm with hm | hm
      · have := h.lt.2; omega
      · rcases tt.feet _ hm with hh | hh
        · exact nin _ (by omega) hh
        · simp only [List.length_append, List.length_cons, List.length_nil] at hh; omega
    have gF3 := (t3.kept H.length (by omega) ninF).trans gFx
    refine runL_V 60 ?_
    simp (disch := first | omega | (simp only [lnx]; omega)) only [stdh, stdx, ↓reduceIte, seval, q0, q2, q3, q9, q11, q12, q13, q14, gF3]
    refine callK_fn (jdone_seen j3 hn1 hag _ ?_)
    intro H4 ord4 sl4 t4 j4
    have hl4 := t4.le
    have nin3 : ∀ m, m < H.length + 1 → m ∉ W :: tabF P M ord1 sl1 → m < H2.length → m ∉ W :: tabF P M ord3 sl3 := fun m m1 m2 m3 hm => by
      rcases t3.feet m hm with hh | hh
      · exact m2 hh
      · omega
    have gF4 := (t4.kept H.length (by omega) (nin3 _ (by omega) ninF (by omega))).trans gF3
    have hA : ∀ m ∈ a.names, m ∉ W :: tabF P M ord1 sl1 := fun m hm hh => by
      rcases List.mem_cons.1 hh with hh | hh
      · exact (han1 m hm).2.2 hh
      · exact (han1 m hm).1 hh
    have ha3 := own_same ha2 fun m hm => t3.kept m (by have := hal m hm; omega) (hA m hm)
    have ha4 := own_same ha3 fun m hm => t4.kept m (by have := hal m hm; omega) (nin3 m (by have := hal m hm; omega) (hA m hm) (by have := hal m hm; omega))
    have hA4 : ∀ m ∈ a.names, m ∉ tabF P M ord4 sl4 := fun m hm hh => by
      rcases t4.feet m (List.mem_cons_of_mem _ hh) with hh | hh
      · exact nin3 m (by have := hal m hm; omega) (hA m hm) (by have := hal m hm; omega) hh
      · have := hal m hm; omega
    have ha5 : Own 1 T.uint32 0 (H4 ++ [ABlk.vec [.int .u32 (n : Nat)] T.uint32 1]) a done.length (u32s done) := own_same ha4 fun m hm => at_low (by have := hal m hm; omega)
    obtain ⟨p, a1, hp⟩ := Own.append3 ha5 (x := .slc H4.length 0 1 1) (k := 1) (ys := [.int .u32 (n : Nat)]) 4 rfl (by simp [srcCells, view, content]) rfl (by omega) (by omega) (by omega) rfl
    have hk5 : (killA (H4 ++ [ABlk.vec [.int .u32 (n : Nat)] T.uint32 1]) a).length = H4.length + 1 := by rw [killA_len, List.length_append]; rfl
    have k5 : ∀ m, m < H4.length → m ∉ a.names → (killA (H4 ++ [ABlk.vec [AVal.int .u32 (n : Nat)] T.uint32 1]) a ++ [ABlk.vec (u32s done ++ [.int .u32 (n : Nat)]) T.uint32 1])[m]? = H4[m]? := fun m m1 m2 => by
      rw [at_low (by omega), killA_get m2, at_low m1]
    have v5 : (killA (H4 ++ [ABlk.vec [AVal.int .u32 (n : Nat)] T.uint32 1]) a ++ [ABlk.vec (u32s done ++ [.int .u32 (n : Nat)]) T.uint32 1])[H4.length + 1]? = some (.vec (u32s done ++ [.int .u32 (n : Nat)]) T.uint32 1) := by
      rw [← hk5, at_0]; rfl
    rw [show (H4 ++ [ABlk.vec [AVal.int .u32 (n : Nat)] T.uint32 1]).length = H4.length + 1 by rw [List.length_append]; rfl] at a1
    generalize killA (H4 ++ [ABlk.vec [AVal.int .u32 (n : Nat)] T.uint32 1]) a ++ [ABlk.vec (u32s done ++ [.int .u32 (n : Nat)]) T.uint32 1] = H5 at *
    refine runL_V 60 ?_
    simp (disch := first | omega | (simp only [lnx]; omega)) only [stdh, stdx, ↓reduceIte, seval, q0, q2, q3, q9, q11, q12, q13, q14, gF4, a1, hp]
    rw [hcast, List.append_nil]
    have hft4 := j4.t.foot
    have hlt4 := j4.lt
    have hJa : J ∉ a.names := fun hm => (han1 J hm).2.1 rfl
    have hWa : W ∉ a.names := fun hm => (han1 W hm).2.2 rfl
    refine hnext H5 top1 bts1 ord4 sl4 (.slc (H4.length + 1) 0 (done.length + 1) 1) (done ++ [n]) _ (j4.keep fun m hm => ?_) hm1 (fun c hc => ?_) (by simp; omega) ⟨by simp [u32s], .inr ⟨H4.length + 1, Nat.zero_le _, by simp, by simpa [u32s] using v5⟩⟩ (fun m hm => ?_) rfl rfl rfl rfl rfl rfl
    · rcases hm with rfl | rfl | hm
      · exact k5 _ hlt4.1 hJa
      · exact k5 _ hlt4.2 hWa
      · exact k5 m (hft4 m hm) fun hh => hA4 m hh hm
    · rw [List.mem_append, List.mem_singleton] at hc
      rcases hc with hc | rfl
      · exact hm3 c (hcome c hc)
      · exact hm2
    · simp only [AVal.names, List.mem_singleton] at hm
      subst hm
      exact ⟨fun hh => by have := hft4 _ hh; omega, by omega, by omega⟩


set_option maxRecDepth 10000 in
set_option maxHeartbeats 16000000 in
theorem jo_loop {l : List Fr} {near : List Nat} (hnr : ∀ x ∈ near, x < 65536) (hnl : near.length ≤ 9223372036854775807) {s J W P M room : Nat} (hs : s < 4294967296) (hroom : 1 ≤ room) (K : List AItem) (Q : AVal → AHeap → Prop) (hK : ∀ r H, Run Try.prog joC K r H Q) :
    ∀ (z i : Nat) (H : AHeap) (top bts : Nat) (ord : AVal) (sl : List Sl) (a : AVal) (done : List Nat) (rs : Regs), min l.length 100 - i = z → i ≤ min l.length 100 → JoinS H J W P M top bts room ord sl → rel s top < 131072 → (∀ c ∈ done, Come s top bts c) → done.length ≤ i →
      Own 1 T.uint32 0 H a done.length (u32s done) → (∀ m ∈ a.names, m ∉ tabF P M ord sl ∧ m ≠ J ∧ m ≠ W) →
      rget rs 0 = .int .u32 (s : Nat) → rget rs 2 = recs encFr false l → rget rs 3 = nums .u16 false near → rget rs 9 = .ptr J 0 → rget rs 11 = a → rget rs 12 = .int .i64 (i : Nat) →
    Rounds Try.prog joC cuneiformlaw15_JoinOnce.b2 [.inBlock 0] K rs H Q
  | z, i, H, top, bts, ord, sl, a, done, rs, h1, h2, h, htr, hcome, hdl, ha, han, r0, r2, r3, r9, r11, r12 => by
    refine loop_V 100 cuneiformlaw15_JoinOnce.b2.eq_1 ?_
    have hcast : (i : Int) + 1 = ((i + 1 : Nat) : Int) := by omega
    by_cases hi : i < l.length ∧ i < 100
    · obtain ⟨hi1, hi2⟩ := hi
      have hld := fun H => (frs_recs (H := H) (t := false) (fs := l)).loadN hi1 (o := 0) (n := 6) (by omega)
      simp only [Nat.add_zero] at hld
      have e6 : ∀ f : Fr, (encFr f).take 6 = encFr f := fun _ => rfl
      simp only [List.drop_zero, e6] at hld
      generalize l.getD i default = f0 at *
      simp (disch := first | omega | (simp only [lnx]; omega)) only [stdh, stdx, ↓reduceIte, seval, r0, r2, r3, r9, r11, r12, hld]
      refine callK_fn (cut_ok _ f0 _ ?_)
      have hfl := cutFr_len f0
      generalize cutFr f0 = f at *
      have next : ∀ H' top' bts' ord' sl' a' done' rs', JoinS H' J W P M top' bts' room ord' sl' → rel s top' < 131072 → (∀ c ∈ done', Come s top' bts' c) → done'.length ≤ i + 1 → Own 1 T.uint32 0 H' a' done'.length (u32s done') → (∀ m ∈ a'.names, m ∉ tabF P M ord' sl' ∧ m ≠ J ∧ m ≠ W) →
          rget rs' 0 = .int .u32 (s : Nat) → rget rs' 2 = recs encFr false l → rget rs' 3 = nums .u16 false near → rget rs' 9 = .ptr J 0 → rget rs' 11 = a' → rget rs' 12 = .int .i64 ((i + 1 : Nat) : Int) → Rounds Try.prog joC cuneiformlaw15_JoinOnce.b2 [.inBlock 0] K rs' H' Q :=
        fun H' top' bts' ord' sl' a' done' rs' => jo_loop (l := l) hnr hnl hs hroom K Q hK (min l.length 100 - (i + 1)) (i + 1) H' top' bts' ord' sl' a' done' rs' rfl (by omega)
      by_cases hnear : i < near.length
      · have hx : near.getD i 0 < 65536 := hnr _ (by rw [show near.getD i 0 = near[i] by simp [List.getD_eq_getElem?_getD, hnear]]; exact List.getElem_mem hnear)
        refine runL_V 25 ?_
        simp (disch := first | omega | (simp only [lnx]; omega)) only [stdh, stdx, ↓reduceIte, seval, encFr]
        have hwr : IntKind.u32.wrap (IntKind.u32.wrap ((s : Int) + (near.getD i 0 : Nat)) - 50) = (nearN s (near.getD i 0) : Nat) := by
          rw [wrap_u32', wrap_u32']; unfold nearN; omega
        rw [hwr]
        exact jo_mid hs hroom K Q hi2 h htr hcome hdl ha han hfl (near_lt s (near.getD i 0)) (near_rel hs hx) next rfl rfl rfl rfl rfl rfl rfl
      · refine runL_V 18 ?_
        simp (disch := first | omega | (simp only [lnx]; omega)) only [stdh, stdx, ↓reduceIte, seval, encFr]
        exact jo_mid hs hroom K Q hi2 h htr hcome hdl ha han hfl hs (start_rel hs) next rfl rfl rfl rfl rfl rfl rfl
    · by_cases hi1 : i < l.length
      · simp (disch := first | omega | (simp only [lnx]; omega)) only [stdh, stdx, ↓reduceIte, seval, r0, r2, r3, r9, r11, r12]
        exact hK _ _
      · simp (disch := first | omega | (simp only [lnx]; omega)) only [stdh, stdx, ↓reduceIte, seval, r0, r2, r3, r9, r11, r12]
        exact hK _ _
  termination_by z => z

theorem top_rel {s : Nat} (hs : s < 4294967296) : rel s (addN s (-1)) < 131072 := by unfold rel addN; omega

set_option maxRecDepth 10000 in
set_option maxHeartbeats 8000000 in
theorem joinonce_ok {s : Nat} (hs : s < 4294967296) {room : Int} {l : List Fr} {near : List Nat} (hnr : ∀ x ∈ near, x < 65536) (hnl : near.length ≤ 9223372036854775807) : FunOK Try.prog F.cuneiformlaw15_JoinOnce [.int .u32 (s : Nat), .int .i64 room, recs encFr false l, nums .u16 false near] [] fun av _ => av = .bool true := by
  refine fun_V 60 cuneiformlaw15_JoinOnce_code rfl ?_
  obtain ⟨u, hu⟩ := wrap_u64n room
  obtain ⟨r0, hrem, hr0⟩ : ∃ j : Nat, (u : Int).tmod 16 = (j : Int) ∧ j < 16 := ⟨u % 16, by rw [Int.tmod_eq_emod_of_nonneg (by omega)]; rfl, Nat.mod_lt _ (by omega)⟩
  simp (disch := first | omega | (simp only [lnx]; omega)) only [stdh, stdx, ↓reduceIte, seval, cuneiformlaw15_JoinOnce, cuneiformlaw15_JoinOnce.body, hu, hrem]
  rw [show (1 : Int) + (r0 : Int) = ((r0 + 1 : Nat) : Int) by omega]
  obtain ⟨r, hr⟩ : ∃ r : Nat, r = r0 + 1 := ⟨_, rfl⟩
  rw [← hr]
  refine callK_fn (jnew_ok _ hs r (by omega) _ ?_)
  intro H J W P M hk hJ hW hP hM h
  refine runL_V 60 ?_
  simp (disch := first | omega | (simp only [lnx]; omega)) only [stdh, stdx, ↓reduceIte, seval, eqA]
  refine jo_loop (l := l) hnr hnl hs (by omega) _ _ ?_ _ 0 H _ _ _ [] .nils [] _ rfl (by omega) h (top_rel hs) (by simp) (by simp) Own.nil (by simp [AVal.names]) rfl rfl rfl rfl rfl rfl
  intro r' H'
  refine run_V0 60 ?_
  simp (disch := first | omega | (simp only [lnx]; omega)) only [stdh, stdx, ↓reduceIte, seval]
  refine callK_fn (known15_ok _ _ ?_)
  refine runL_V 60 ?_
  simp (disch := first | omega | (simp only [lnx]; omega)) only [stdh, stdx, ↓reduceIte, seval]
end Go.Proofs.Ytmioldcmjfackaa

namespace Go.Proofs.Ytmioldcmjfackaa.joinOnce
open Go Go.Am Go.ChangeShapes Go.WideShapes Go.ChangeAt Go.RowKit
set_option linter.unusedVariables false

theorem own : ownKnob Try.prog.godebug = none := by kernel_rfl
theorem laidOut : laidOutB Try.prog = true := by kernel_rfl

set_option maxRecDepth 100000 in
theorem lifted (os : Os) (started : os.Started) (H : Type) (enc : TypeId × Value → H) :
    ReturnsInHanded {} Try.checked os F.cuneiformlaw15_JoinOnce .any (Rows.joinOnceSpec.pre6 enc Try.prog Try.f3 Rows.joinOnceRow.domain false) (Rows.joinOnceSpec.post enc Try.prog Try.f3 false true false false) := by
  refine returnsInHanded_of_change (C := Try.checked) own started (by kernel_rfl) Try.func3
    (ChangeSpec.witness6 (enc := enc) (C := Try.checked) false ⟨#[], #[.int .u32 0, .int .i64 0, .slice none 0 0, .slice none 0 0], []⟩ 8 (by kernel_rfl) (by kernel_rfl) (by kernel_rfl) (by kernel_rfl)) ?_
  intro W base args ds gs before hval hW hcnd _
  refine law_calls (shs := [.int .u32, .int .i64, .slice shFrame, .slice (.int .u16)]) (tb := 4) laidOut (by kernel_rfl) ?_ (by kernel_rfl) Try.underlying4 rfl ?_ ?_ hval hW
  · intro t ht
    have : ∀ t ∈ Try.f3.params.toList, (Try.prog.readableRec t && decide (t < Try.prog.types.size)) = true := List.all_eq_true.1 (by kernel_rfl)
    simpa using this t ht
  · intro H ds hd
    match ds, hd with
    | [d0, d1, d2, d3], _ => exact ⟨rfl, rfl, rfl⟩
  · rintro xs ⟨a, r, rfl, ⟨st, hst, wst⟩, b, r2, rfl, ⟨v0, hv0, _⟩, c, r3, rfl, hc, d, r4, rfl, hd, rfl⟩
    cases hst
    cases hv0
    obtain ⟨fs, q1⟩ := frs_fits hc
    obtain ⟨bs, p1, p2, p3⟩ := nums_fits (k := .u16) rfl hd
    have hs : 0 ≤ st ∧ st < 4294967296 := by
      simp only [Lit.wf, Bool.and_eq_true, decide_eq_true_eq, IntKind.min, IntKind.max, IntKind.signed, IntKind.bits] at wst
      simp at wst
      omega
    have hb : ∀ b ∈ bs, b < 65536 := fun b hb => by
      have := p2 b hb
      simp only [Lit.wf, Bool.and_eq_true, decide_eq_true_eq, IntKind.min, IntKind.max, IntKind.signed, IntKind.bits] at this
      simp at this
      omega
    obtain ⟨s, rfl⟩ : ∃ s : Nat, st = s := ⟨st.toNat, by omega⟩
    exact fun_sees (.cons (.refl _) (.cons (.refl _) (.cons q1 (.cons p1 .nil)))) (joinonce_ok (by omega) hb p3)

theorem proved : Rows.JoinOnceSaid :=
  OpenClaim.holds_of_wide F.cuneiformlaw15_JoinOnce Try.f3 rfl rfl rfl rfl rfl rfl rfl ⟨rfl, rfl, rfl, rfl, rfl⟩ rfl rfl rfl rfl rfl (by kernel_rfl) Try.func3 (by kernel_rfl)
    (of_decide_eq_true (by kernel_rfl)) (by unfold Func.isWrapper; first | (rw [if_pos (by decide +kernel)]; kernel_rfl) | (rw [if_neg (by decide +kernel)]; exact ⟨rfl, rfl⟩))
    (fun os started H enc _ => lifted os started H enc)
end Go.Proofs.Ytmioldcmjfackaa.joinOnce
