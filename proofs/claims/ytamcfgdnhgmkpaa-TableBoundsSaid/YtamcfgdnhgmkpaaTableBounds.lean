/-
  a table never has more slots than room, nor more than 192 bytes for each, and a refused frame changes nothing; no conditions By an AI agent. No person has read it.
-/
import Derived.Test.YtamcfgdnhgmkpaaTABE
import Derived.Test.YtamcfgdnhgmkpaaTABC
import Derived.Test.YtamcfgdnhgmkpaaAm6
import Derived.OpenShut
import Derived.Test.YtamcfgdnhgmkpaaRows
set_option linter.unusedSimpArgs false
set_option linter.unusedVariables false

namespace Go.Proofs.Ytamcfgdnhgmkpaa
open Go Go.Am
set_option linter.unusedSimpArgs false
set_option linter.unusedVariables false

/-! What is so of every frame that comes. -/
theorem takeT_law (ts : Ts) (o : OutT) (f : Fr) (ho : o.whole = false) : ((takeT ts o f).2.2 ≠ 0 → (takeT ts o f).1 = ts ∧ (takeT ts o f).2.1 = {}) ∧ ((takeT ts o f).2.1.whole = true → (takeT ts o f).2.1.body.length ≤ 192) ∧ ((takeT ts o f).2.1.ev = true → o.ev = true) := by
  unfold takeT
  split
  · exact ⟨fun _ => ⟨rfl, rfl⟩, fun h => by simp at h, fun h => by simp at h⟩
  · rename_i he
    simp only [ne_eq, Decidable.not_not] at he
    obtain ⟨_, _, _, _, _, h6⟩ := putE_zero he
    split
    · refine ⟨fun h => absurd rfl h, fun _ => ?_, fun h => h⟩
      have := bytesTo_le ((getT ts f.h.s).2 ++ [f]) (getT ts f.h.s).1.c.toNat
      rw [sizeFs_append] at this
      simp only
      omega
    · exact ⟨fun h => absurd rfl h, fun h => by simp [ho] at h, fun h => h⟩
theorem getT_new {ts : Ts} {q : Int} (h : hasT ts q = false) {n : Hd × List Fr} (hn : n.1.s = q) : getT (ts ++ [n]) q = n := by
  unfold getT
  rw [List.find?_append, List.find?_eq_none.2 (fun t ht => by
    simp only [hasT, List.any_eq_false] at h
    exact h t ht)]
  simp [hn]
theorem hasT_drop {ts : Ts} {q p : Int} (h : hasT ts q = false) : hasT (dropT ts p) q = false := by
  simp only [hasT, List.any_eq_false, dropT] at h ⊢
  exact fun t ht => h t (List.mem_filter.1 ht).1
theorem check_idx {h : Hd} (hc : checkOf h = 0) : 0 ≤ h.i ∧ h.i < h.c := by
  unfold checkOf at hc
  have hb : bads h 2 = false := by
    refine Classical.byContradiction fun hh => ?_
    rw [Bool.not_eq_false] at hh
    rw [hh] at hc
    simp at hc
    split at hc <;> try split at hc
    all_goals omega
  simp [bads] at hb
  omega
theorem takeT_new {ts : Ts} {o : OutT} {f : Fr} (hno : hasT ts f.h.s = false) (hc : checkOf f.h = 0) (hb : f.b ≠ []) (h192 : f.b.length ≤ 192) : putE { f.h with i := 0 } [] f = 0 ∧ getT (ts ++ [({ f.h with i := 0 }, [])]) f.h.s = ({ f.h with i := 0 }, []) ∧ (takeT (ts ++ [({ f.h with i := 0 }, [])]) o f).2.2 = 0 := by
  have hg := getT_new hno (n := ({ f.h with i := 0 }, [])) rfl
  have hp : putE { f.h with i := 0 } [] f = 0 := by
    obtain ⟨h1, h2⟩ := check_idx hc
    unfold putE
    rw [if_neg (by simp [mates]), if_neg (by simp only; omega), if_neg hb, if_neg (by simp [hasF, atF]), if_neg (by simp [sizeFs]; omega)]
  refine ⟨hp, hg, ?_⟩
  unfold takeT
  rw [hg, if_neg (by simpa using hp)]
  split <;> rfl
theorem putT_law {room : Nat} {ts : Ts} (hl : ts.length ≤ room) (f : Fr) : ((putT room ts f).2.2 ≠ 0 → (putT room ts f).1 = ts ∧ (putT room ts f).2.1 = {}) ∧ ((putT room ts f).2.1.whole = true → (putT room ts f).2.1.body.length ≤ 192) ∧ ((putT room ts f).2.1.ev = true → ts.length = room) := by
  have triv : ∀ e : Nat, ((ts, ({} : OutT), e).2.2 ≠ 0 → (ts, ({} : OutT), e).1 = ts ∧ (ts, ({} : OutT), e).2.1 = {}) ∧ ((ts, ({} : OutT), e).2.1.whole = true → (ts, ({} : OutT), e).2.1.body.length ≤ 192) ∧ ((ts, ({} : OutT), e).2.1.ev = true → ts.length = room) := fun e => ⟨fun _ => ⟨rfl, rfl⟩, fun h => by simp at h, fun h => by simp at h⟩
  unfold putT
  by_cases h1 : checkOf f.h = 0
  case neg => rw [if_pos h1]; exact triv _
  rw [if_neg (by omega)]
  by_cases h2 : f.b = []
  · rw [if_pos h2]; exact triv _
  rw [if_neg h2]
  by_cases h3 : hasT ts f.h.s = true
  · rw [if_pos h3]
    obtain ⟨a, b, c⟩ := takeT_law ts {} f rfl
    exact ⟨a, b, fun h => by simpa using c h⟩
  rw [if_neg h3]
  have h3' : hasT ts f.h.s = false := by simpa using h3
  by_cases h4 : 192 < f.b.length
  · rw [if_pos h4]; exact triv _
  rw [if_neg h4]
  by_cases h5 : ts.length < room
  · rw [if_pos h5]
    obtain ⟨a, b, c⟩ := takeT_law (ts ++ [({ f.h with i := 0 }, [])]) {} f rfl
    have e := (takeT_new (o := {}) h3' h1 h2 (by omega)).2.2
    exact ⟨fun h => absurd e h, b, fun h => by simpa using c h⟩
  rw [if_neg h5]
  split
  · exact triv _
  · obtain ⟨a, b, c⟩ := takeT_law (dropT ts (oldest (seqsT ts)) ++ [({ f.h with i := 0 }, [])]) { ev := true, old := oldest (seqsT ts) } f rfl
    have e := (takeT_new (o := { ev := true, old := oldest (seqsT ts) }) (hasT_drop (p := oldest (seqsT ts)) h3') h1 h2 (by omega)).2.2
    exact ⟨fun h => absurd e h, b, fun _ => by omega⟩

theorem wrap_u64n (o : Int) : ∃ u : Nat, IntKind.u64.wrap o = (u : Int) := by
  refine ⟨(IntKind.u64.wrap o).toNat, ?_⟩
  have : 0 ≤ IntKind.u64.wrap o := by
    simp only [IntKind.wrap, IntKind.signed, IntKind.bits]
    simp
    omega
  omega

theorem known14_ok (H : AHeap) (Q : AVal → AHeap → Prop) (h : Q (.bool true) H) : FunOK Try.prog F.cuneiformlaw14_known [] H Q := fun_reck codes_ok 10000 (.bool true) (by kernel_rfl) rfl rfl H Q h
abbrev tbC : Ctx := ⟨F.cuneiformlaw14_TableBounds, 110, [.tmp 4], none⟩
set_option maxRecDepth 10000 in
set_option maxHeartbeats 16000000 in
theorem tb_loop {l : List Fr} (h32 : ∀ f ∈ l, is32 f.h.s) {P M room : Nat} (hroom : 1 ≤ room) (K : List AItem) (Q : AVal → AHeap → Prop) (hK : ∀ r H, Run Try.prog tbC K r H Q) :
    ∀ (z i : Nat) (H : AHeap) (ord : AVal) (sl : List Sl) (rs : Regs), min l.length 100 - i = z → i ≤ min l.length 100 → TabS H P M room ord sl → rget rs 0 = .int .i64 (room : Nat) → rget rs 1 = recs encFr false l → rget rs 5 = .ptr P 0 → rget rs 7 = .int .i64 (i : Nat) →
    Rounds Try.prog tbC cuneiformlaw14_TableBounds.b0 [.inBlock 0] K rs H Q
  | z, i, H, ord, sl, rs, h1, h2, h, r0, r1, r5, r7 => by
    refine loop_V 100 cuneiformlaw14_TableBounds.b0.eq_1 ?_
    have hcast : (i : Int) + 1 = ((i + 1 : Nat) : Int) := by omega
    by_cases hi : i < l.length ∧ i < 100
    · obtain ⟨hi1, hi2⟩ := hi
      have hld := fun H => (frs_recs (H := H) (t := false) (fs := l)).loadN hi1 (o := 0) (n := 6) (by omega)
      simp only [Nat.add_zero] at hld
      have e6 : ∀ f : Fr, (encFr f).take 6 = encFr f := fun _ => rfl
      simp only [List.drop_zero, e6] at hld
      have hf32 : is32 (l.getD i default).h.s := h32 _ (by rw [show l.getD i default = l[i] by simp [List.getD_eq_getElem?_getD, hi1]]; exact List.getElem_mem hi1)
      generalize l.getD i default = f0 at *
      simp (disch := first | omega | (simp only [lnx]; omega)) only [stdh, stdx, ↓reduceIte, seval, r0, r1, r5, r7, hld]
      refine callK_fn (tseqs_ok h _ ?_)
      refine runL_V 60 ?_
      simp (disch := first | omega | (simp only [lnx]; omega)) only [stdh, stdx, ↓reduceIte, seval]
      refine callK_fn (held_ok h _ ?_)
      refine runL_V 60 ?_
      simp (disch := first | omega | (simp only [lnx]; omega)) only [stdh, stdx, ↓reduceIte, seval, hld]
      refine callK_fn (cut_ok _ f0 _ ?_)
      have hfl := cutFr_len f0
      have hfs : is32 (cutFr f0).h.s := hf32
      generalize cutFr f0 = f at *
      refine runL_V 60 ?_
      simp (disch := first | omega | (simp only [lnx]; omega)) only [stdh, stdx, ↓reduceIte, seval]
      refine callK_fn (tput_ok h f hfs (by omega) hroom _ ?_)
      intro H1 ord1 sl1 tt h1' hts
      have htl : (tsOf sl).length ≤ room := by simpa [tsOf] using h.r.1
      obtain ⟨c1, c2, c3⟩ := putT_law htl f
      generalize putT room (tsOf sl) f = res at *
      obtain ⟨ts', ⟨body, whole, ev, old⟩, e⟩ := res
      simp only at hts c1 c2 c3
      refine runL_V 60 ?_
      have hbc : (if whole = true then nums .u8 false body else .nils).cellish = true := by cases whole <;> rfl
      have hbl : slen (if whole = true then nums .u8 false body else .nils) = some (if whole = true then body.length else 0) := by cases whole <;> simp [slen, nums]
      simp only [encOut]
      generalize (if whole = true then nums IntKind.u8 false body else AVal.nils) = bv at *
      have h2' : ∀ X, TabS (H1 ++ X) P M room ord1 sl1 := fun X => h1'.keeps (keeps_append _ _)
      have hr1 := h1'.r
      have hr0 := h.r
      have hh1 := held_le h1' sl1.length
      rw [List.take_length, Nat.min_self] at hh1
      have d1 : decide (((sl1.length : Nat) : Int) > (room : Nat)) = false := decide_eq_false (by omega)
      have d1' : decide (((room : Nat) : Int) < (sl1.length : Nat)) = false := decide_eq_false (by omega)
      have d2 : decide (((192 : Int) * (sl1.length : Nat)) < ((heldT (tsOf sl1) : Nat) : Int)) = false := decide_eq_false (by omega)
      have d2' : decide (((heldT (tsOf sl1) : Nat) : Int) > (192 : Int) * (sl1.length : Nat)) = false := decide_eq_false (by omega)
      simp (disch := first | omega | (simp only [lnx]; omega)) only [stdh, stdx, ↓reduceIte, seval, hbc]
      refine callK_fn (tlen_ok (h2' _) _ ?_)
      refine runL_V 60 ?_
      simp (disch := first | omega | (simp only [lnx]; omega)) only [stdh, stdx, ↓reduceIte, seval, d1, d1']
      refine callK_fn (held_ok (h2' _) _ ?_)
      refine runL_V 60 ?_
      simp (disch := first | omega | (simp only [lnx]; omega)) only [stdh, stdx, ↓reduceIte, seval]
      refine callK_fn (tlen_ok (h2' _) _ ?_)
      refine runL_V 60 ?_
      have hsl : (seqsT (tsOf sl)).length = sl.length := by simp [seqsT, tsOf]
      have hsl1 : (seqsT (tsOf sl1)).length = sl1.length := by simp [seqsT, tsOf]
      have hsq : slen (qsV (seqsT (tsOf sl))) = some sl.length := by rw [← hsl]; rfl
      have htsl : (tsOf sl).length = sl.length := by simp [tsOf]
      have hnext := fun rs => tb_loop h32 hroom K Q hK (min l.length 100 - (i + 1)) (i + 1) (H1 ++ [.cells [bv, .bool whole, .bool ev, .int .u32 old] T.table_Out]) ord1 sl1 rs rfl (by omega) (h2' _)
      by_cases he : e = 0
      · subst he
        cases whole
        · cases ev
          · simp (disch := first | omega | (simp only [lnx]; omega)) only [stdh, stdx, ↓reduceIte, seval, d2, d2']
            rw [hcast]
            exact hnext _ rfl rfl rfl rfl
          · have d3 : decide (((sl.length : Nat) : Int) = (room : Nat)) = true := decide_eq_true (by have := c3 rfl; omega)
            simp (disch := first | omega | (simp only [lnx]; omega)) only [stdh, stdx, ↓reduceIte, seval, d2, d2', hsq, d3]
            rw [hcast]
            exact hnext _ rfl rfl rfl rfl
        · have d4 : decide ((192 : Int) < (body.length : Nat)) = false := decide_eq_false (by have := c2 rfl; omega)
          have d4' : decide (((body.length : Nat) : Int) > 192) = false := decide_eq_false (by have := c2 rfl; omega)
          simp only [if_true] at hbl
          cases ev
          · simp (disch := first | omega | (simp only [lnx]; omega)) only [stdh, stdx, ↓reduceIte, seval, d2, d2', hbl, d4, d4']
            rw [hcast]
            exact hnext _ rfl rfl rfl rfl
          · have d3 : decide (((sl.length : Nat) : Int) = (room : Nat)) = true := decide_eq_true (by have := c3 rfl; omega)
            simp (disch := first | omega | (simp only [lnx]; omega)) only [stdh, stdx, ↓reduceIte, seval, d2, d2', hsq, d3, hbl, d4, d4']
            rw [hcast]
            exact hnext _ rfl rfl rfl rfl
      · obtain ⟨rfl, hO⟩ := c1 he
        cases hO
        have d5 : decide ((e : Int) = 0) = false := decide_eq_false (by omega)
        simp (disch := first | omega | (simp only [lnx]; omega)) only [stdh, stdx, ↓reduceIte, seval, d2, d2', d5]
        refine callK_fn (tseqs_ok (h2' _) _ ?_)
        refine runL_V 60 ?_
        simp (disch := first | omega | (simp only [lnx]; omega)) only [stdh, stdx, ↓reduceIte, seval]
        refine callK_fn (seqs_ok _ (by omega) (by omega) _ ?_)
        rw [hts, decide_eq_true rfl]
        refine runL_V 60 ?_
        simp (disch := first | omega | (simp only [lnx]; omega)) only [stdh, stdx, ↓reduceIte, seval]
        refine callK_fn (held_ok (h2' _) _ ?_)
        rw [hts]
        refine runL_V 60 ?_
        simp (disch := first | omega | (simp only [lnx]; omega)) only [stdh, stdx, ↓reduceIte, seval]
        rw [hcast]
        exact hnext _ rfl rfl rfl rfl
    · by_cases hi1 : i < l.length
      · simp (disch := first | omega | (simp only [lnx]; omega)) only [stdh, stdx, ↓reduceIte, seval, r0, r1, r5, r7]
        exact hK _ _
      · simp (disch := first | omega | (simp only [lnx]; omega)) only [stdh, stdx, ↓reduceIte, seval, r0, r1, r5, r7]
        exact hK _ _
  termination_by z => z

set_option maxRecDepth 10000 in
set_option maxHeartbeats 8000000 in
theorem tablebounds_ok {room : Int} {l : List Fr} (h32 : ∀ f ∈ l, is32 f.h.s) : FunOK Try.prog F.cuneiformlaw14_TableBounds [.int .i64 room, recs encFr false l] [] fun av _ => av = .bool true := by
  refine fun_V 60 cuneiformlaw14_TableBounds_code rfl ?_
  obtain ⟨u, hu⟩ := wrap_u64n room
  obtain ⟨r0, hrem, hr0⟩ : ∃ j : Nat, (u : Int).tmod 16 = (j : Int) ∧ j < 16 := ⟨u % 16, by rw [Int.tmod_eq_emod_of_nonneg (by omega)]; rfl, Nat.mod_lt _ (by omega)⟩
  simp (disch := first | omega | (simp only [lnx]; omega)) only [stdh, stdx, ↓reduceIte, seval, cuneiformlaw14_TableBounds, cuneiformlaw14_TableBounds.body, hu, hrem]
  rw [show (1 : Int) + (r0 : Int) = ((r0 + 1 : Nat) : Int) by omega]
  obtain ⟨r, hr⟩ : ∃ r : Nat, r = r0 + 1 := ⟨_, rfl⟩
  rw [← hr]
  refine callK_fn (tnew_ok _ r (by omega) _ ?_)
  intro H P M hk hP hM h
  refine runL_V 60 ?_
  simp (disch := first | omega | (simp only [lnx]; omega)) only [stdh, stdx, ↓reduceIte, seval, eqA]
  refine tb_loop h32 (by omega) _ _ ?_ _ 0 H _ [] _ rfl (by omega) h rfl rfl rfl rfl
  intro r' H'
  refine run_V0 60 ?_
  simp (disch := first | omega | (simp only [lnx]; omega)) only [stdh, stdx, ↓reduceIte, seval]
  refine callK_fn (known14_ok _ _ ?_)
  refine runL_V 60 ?_
  simp (disch := first | omega | (simp only [lnx]; omega)) only [stdh, stdx, ↓reduceIte, seval]
set_option linter.unusedSimpArgs false
set_option linter.unusedVariables false

theorem u32_wf {s : Int} (h : (Lit.int .u32 s).wf = true) : is32 s := by
  simp only [Lit.wf, Bool.and_eq_true, decide_eq_true_eq, IntKind.min, IntKind.max, IntKind.signed, IntKind.bits] at h
  simp at h
  exact ⟨by omega, by omega⟩

theorem fr_fits32 {g : List AVal} (h : Fits shFrame g) : ∃ x : Fr, SeesL g (encFr x) ∧ is32 x.h.s := by
  obtain ⟨l1, l2, rfl, h1, h2⟩ := h
  obtain ⟨l3, l4, rfl, h3, h4⟩ := h2
  have h4' : l4 = [] := h4
  subst h4'
  obtain ⟨_, _, rfl, ⟨v, rfl, b1⟩, h1⟩ := h1
  obtain ⟨_, _, rfl, ⟨k, rfl, b2⟩, h1⟩ := h1
  obtain ⟨_, _, rfl, ⟨s, rfl, b3⟩, h1⟩ := h1
  obtain ⟨_, _, rfl, ⟨i, rfl, b4⟩, h1⟩ := h1
  obtain ⟨_, _, rfl, ⟨c, rfl, b5⟩, h1⟩ := h1
  have h1' : _ = ([] : List AVal) := h1
  subst h1'
  obtain ⟨x, rfl, hx⟩ := slice_one h3
  obtain ⟨bs, q1, q2, q3⟩ := nums_fits (k := .u8) rfl (show FitsA (.slice (.int .u8)) x from hx)
  exact ⟨⟨⟨v, k, s, i, c⟩, bs⟩, SeesL.cons (Sees.refl _) (SeesL.cons (Sees.refl _) (SeesL.cons (Sees.refl _) (SeesL.cons (Sees.refl _) (SeesL.cons (Sees.refl _) (SeesL.cons q1 SeesL.nil))))), u32_wf b3⟩

theorem frs_fits32 {a : AVal} (h : FitsA (.slice shFrame) a) : ∃ fs : List Fr, Sees a (recs encFr false fs) ∧ ∀ f ∈ fs, is32 f.h.s := by
  rcases h with h | ⟨gs, t, hg, h, hl⟩
  · cases h
    exact ⟨[], Sees.nils false, by simp⟩
  · cases h
    have : ∃ fs : List Fr, SeesL gs.flatten (fs.flatMap encFr) ∧ fs.length = gs.length ∧ ∀ f ∈ fs, is32 f.h.s := by
      clear hl
      induction gs with
      | nil => exact ⟨[], SeesL.nil, rfl, by simp⟩
      | cons g gs ih =>
        obtain ⟨fs, h1, h2, h3⟩ := ih fun x hx => hg x (by simp [hx])
        obtain ⟨x, hs, hs2⟩ := fr_fits32 (hg g (by simp))
        refine ⟨x :: fs, ?_, by simp [h2], fun f hf => (List.mem_cons.1 hf).elim (fun e => e ▸ hs2) (h3 f)⟩
        rw [List.flatten_cons, List.flatMap_cons]; exact SeesL.append hs h1
    obtain ⟨fs, h1, h2, h3⟩ := this
    refine ⟨fs, ?_, h3⟩
    have : recs encFr false fs = .imm (fs.flatMap encFr) gs.length false := by simp [recs, h2]
    rw [this]
    exact (Sees.imm h1 _ _).trans (Sees.loose _ _ _)
end Go.Proofs.Ytamcfgdnhgmkpaa

namespace Go.Proofs.Ytamcfgdnhgmkpaa.tableBounds
open Go Go.Am Go.ChangeShapes Go.WideShapes Go.ChangeAt Go.RowKit
set_option linter.unusedVariables false

theorem own : ownKnob Try.prog.godebug = none := by kernel_rfl
theorem laidOut : laidOutB Try.prog = true := by kernel_rfl

set_option maxRecDepth 100000 in
theorem lifted (os : Os) (started : os.Started) (H : Type) (enc : TypeId × Value → H) :
    ReturnsInHanded {} Try.checked os F.cuneiformlaw14_TableBounds .any (Rows.tableBoundsSpec.pre6 enc Try.prog Try.f4 Rows.tableBoundsRow.domain false) (Rows.tableBoundsSpec.post enc Try.prog Try.f4 false true false false) := by
  refine returnsInHanded_of_change (C := Try.checked) own started (by kernel_rfl) Try.func4
    (ChangeSpec.witness6 (enc := enc) (C := Try.checked) false ⟨#[], #[.int .i64 0, .slice none 0 0], []⟩ 8 (by kernel_rfl) (by kernel_rfl) (by kernel_rfl) (by kernel_rfl)) ?_
  intro W base args ds gs before hval hW hcnd _
  refine law_calls (shs := [.int .i64, .slice shFrame]) (tb := 4) laidOut (by kernel_rfl) ?_ (by kernel_rfl) Try.underlying4 rfl ?_ ?_ hval hW
  · intro t ht
    have : ∀ t ∈ Try.f4.params.toList, (Try.prog.readableRec t && decide (t < Try.prog.types.size)) = true := List.all_eq_true.1 (by kernel_rfl)
    simpa using this t ht
  · intro H ds hd
    match ds, hd with
    | [d0, d1], _ => exact ⟨rfl, rfl, rfl⟩
  · rintro xs ⟨a, r, rfl, ⟨v, hv, _⟩, b, r2, rfl, hb, rfl⟩
    cases hv
    obtain ⟨fs, q1, q2⟩ := frs_fits32 hb
    exact fun_sees (.cons (.refl _) (.cons q1 .nil)) (tablebounds_ok q2)

theorem proved : Rows.TableBoundsSaid :=
  OpenClaim.holds_of_wide F.cuneiformlaw14_TableBounds Try.f4 rfl rfl rfl rfl rfl rfl rfl ⟨rfl, rfl, rfl, rfl, rfl⟩ rfl rfl rfl rfl rfl (by kernel_rfl) Try.func4 (by kernel_rfl)
    (of_decide_eq_true (by kernel_rfl)) (by unfold Func.isWrapper; first | (rw [if_pos (by decide +kernel)]; kernel_rfl) | (rw [if_neg (by decide +kernel)]; exact ⟨rfl, rfl⟩))
    (fun os started H enc _ => lifted os started H enc)
end Go.Proofs.Ytamcfgdnhgmkpaa.tableBounds
