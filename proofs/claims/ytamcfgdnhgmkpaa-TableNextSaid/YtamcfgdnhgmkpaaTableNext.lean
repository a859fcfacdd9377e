/-
  whatever half-filled slots a table has of numbers ahead, a later message whose frames come in order is whole behind its last one, and not ahead of that; no conditions By an AI agent. No person has read it.
-/
import Derived.Test.YtamcfgdnhgmkpaaTABE
import Derived.Test.YtamcfgdnhgmkpaaTABA
import Derived.Test.YtamcfgdnhgmkpaaAm6
import Derived.OpenShut
import Derived.Test.YtamcfgdnhgmkpaaRows
set_option linter.unusedSimpArgs false
set_option linter.unusedVariables false

namespace Go.Proofs.Ytamcfgdnhgmkpaa
open Go Go.Am
set_option linter.unusedSimpArgs false
set_option linter.unusedVariables false

/-! The frames of one message, in their order. -/

theorem seqs_upd (ts : Ts) (q : Int) (fs : List Fr) : seqsT (updTs ts q fs) = seqsT ts := by
  unfold seqsT updTs
  rw [List.map_map]
  refine List.map_congr_left fun t _ => ?_
  simp only [Function.comp]
  split <;> rfl
theorem seqs_drop {ts : Ts} {q p : Int} (h : p ∈ seqsT (dropT ts q)) : p ∈ seqsT ts := by
  simp only [seqsT, List.mem_map, dropT] at h ⊢
  obtain ⟨t, ht, e⟩ := h
  exact ⟨t, (List.mem_filter.1 ht).1, e⟩
theorem takeT_seqs {ts : Ts} {o : OutT} {f : Fr} {p : Int} (h : p ∈ seqsT (takeT ts o f).1) : p ∈ seqsT ts := by
  unfold takeT at h
  split at h
  · exact h
  split at h
  · exact seqs_drop h
  · rwa [seqs_upd] at h
theorem putT_seqs {room : Nat} {ts : Ts} {f : Fr} {p : Int} (h : p ∈ seqsT (putT room ts f).1) : p ∈ seqsT ts ∨ p = f.h.s := by
  have app : ∀ {ts : Ts}, p ∈ seqsT (ts ++ [({ f.h with i := 0 }, ([] : List Fr))]) → p ∈ seqsT ts ∨ p = f.h.s := fun {ts} hh => by
    simp only [seqsT, List.map_append, List.map_cons, List.map_nil, List.mem_append, List.mem_singleton] at hh ⊢
    exact hh
  unfold putT at h
  split at h
  · exact .inl h
  split at h
  · exact .inl h
  split at h
  · exact .inl (takeT_seqs h)
  split at h
  · exact .inl h
  split at h
  · exact app (takeT_seqs h)
  split at h
  · exact .inl h
  · rcases app (takeT_seqs h) with hh | hh
    · exact .inl (seqs_drop hh)
    · exact .inr hh
theorem hasT_iff {ts : Ts} {q : Int} : hasT ts q = true ↔ q ∈ seqsT ts := by
  simp only [hasT, List.any_eq_true, decide_eq_true_eq, seqsT, List.mem_map]
theorem hasT_dropped (ts : Ts) (q : Int) : hasT (dropT ts q) q = false := by
  simp only [hasT, List.any_eq_false, dropT, List.mem_filter]
  rintro t ⟨_, h⟩
  simpa using h
theorem hasT_upd (ts : Ts) (q : Int) (fs : List Fr) : hasT (updTs ts q fs) q = hasT ts q := by
  have h1 := hasT_iff (ts := updTs ts q fs) (q := q)
  have h2 := hasT_iff (ts := ts) (q := q)
  rw [seqs_upd, ← h2] at h1
  exact Bool.eq_iff_iff.2 h1
theorem getT_upd {ts : Ts} {q : Int} (h : hasT ts q = true) (fs : List Fr) : getT (updTs ts q fs) q = ((getT ts q).1, fs) := by
  induction ts with
  | nil => simp [hasT] at h
  | cons t ts ih =>
    unfold getT updTs at *
    rw [List.map_cons, List.find?_cons, List.find?_cons]
    by_cases ht : t.1.s = q
    · simp [ht]
    · have h' : hasT ts q = true := by simpa [hasT, ht] using h
      have := ih h'
      simp only [ht, if_false, decide_false]
      exact this

section
variable {h : Hd} {ys : List Nat} {r k : Nat}
theorem sizeFs_frames (m : Nat) : sizeFs (framesN h ys r m) = ((partsP r ys m).flatten).length := by
  induction m with
  | zero => rfl
  | succ m ih => rw [framesN_succ, sizeFs_append, ih, partsP_succ, List.flatten_append, List.length_append]; simp [frAt]
theorem sizeFs_frames_le (m : Nat) : sizeFs (framesN h ys r m) ≤ ys.length := by
  rw [sizeFs_frames, partsP_flat, List.length_take]; omega
theorem atF_frames {m j : Nat} : atF (framesN h ys r m) (j : Nat) = if j < m then some (partP r ys j) else none := by
  induction m with
  | zero => rfl
  | succ m ih =>
    have hx : (frAt h ys r m).h.i = (m : Nat) := rfl
    have hb : (frAt h ys r m).b = partP r ys m := rfl
    rw [framesN_succ, atF_append, ih, hx, hb]
    by_cases h1 : j < m
    · have h2 : j < m + 1 := by omega
      simp [h1, h2]
    · by_cases h2 : j = m
      · subst h2; simp
      · have h3 : ¬ j < m + 1 := by omega
        have h4 : ¬ ((j : Nat) : Int) = (m : Nat) := by omega
        simp [h1, h3, h2]
        omega
theorem bytes_frames {m : Nat} : ∀ {j : Nat}, j ≤ m → bytesTo (framesN h ys r m) j = (partsP r ys j).flatten
  | 0, _ => rfl
  | j + 1, hj => by
    rw [bytesTo, bytes_frames (by omega), atF_frames, if_pos (by omega), partsP_succ, List.flatten_append]
    simp
theorem takeT_frame {ts : Ts} {o : OutT} {i : Nat} (hr : 0 < r) (hk : k = cntP ys.length r) (hys : ys.length ≤ 192) (hi : i < k) (hg : getT ts h.s = (hdAt h 0 (k : Nat), framesN h ys r i)) :
    takeT ts o (frAt h ys r i) = if i + 1 = k then (dropT ts h.s, { o with body := ys, whole := true }, 0) else (updTs ts h.s (framesN h ys r (i + 1)), o, 0) := by
  have hs : (frAt h ys r i).h.s = h.s := rfl
  have hl : (framesN h ys r i).length = i := framesN_len
  have hp : 0 < (partP r ys i).length := by
    have := (cntP_lt (n := ys.length) (r := r) (j := i) hr).1 (by omega)
    rw [partP_len]; omega
  have he : putE (hdAt h 0 (k : Nat)) (framesN h ys r i) (frAt h ys r i) = 0 := by
    have h6 := sizeFs_frames_le (h := h) (ys := ys) (r := r) (i + 1)
    rw [framesN_succ, sizeFs_append] at h6
    have hb : (frAt h ys r i).b = partP r ys i := rfl
    have hx : (frAt h ys r i).h.i = (i : Nat) := rfl
    unfold putE
    rw [if_neg (by simp [mates, frAt, hdAt, hk]), if_neg (by simp only [hx, hdAt]; omega), if_neg (by rw [hb]; exact fun e => by rw [e] at hp; simp at hp), if_neg (by rw [hx, hasF, atF_frames, if_neg (by omega)]; simp), if_neg (by omega)]
  unfold takeT
  rw [hs, hg, if_neg (by simpa using he)]
  simp only [hl]
  have hcc : (((i + 1 : Nat) : Nat) : Int) = (hdAt h 0 (k : Nat)).c ↔ i + 1 = k := by simp only [hdAt]; omega
  by_cases hik : i + 1 = k
  · rw [if_pos (hcc.2 hik), if_pos hik, ← framesN_succ, show (hdAt h 0 (k : Nat)).c.toNat = k by simp [hdAt], hik, bytes_frames (Nat.le_refl _)]
    rw [hk, partsP_whole hr]
  · rw [if_neg (fun e => hik (hcc.1 e)), if_neg hik, ← framesN_succ]
end
end Go.Proofs.Ytamcfgdnhgmkpaa

namespace Go.Proofs.Ytamcfgdnhgmkpaa
open Go Go.Am
set_option linter.unusedSimpArgs false
set_option linter.unusedVariables false

/-- A number of less than 2^30 ahead. -/
def ahead (start s : Int) : Int := (start - 1 - s.tmod 1073741824) % 4294967296
theorem ahead_is {start s : Int} (h1 : is32 start) (h2 : is32 s) : is32 (ahead start s) ∧ aftI start (ahead start s) = true := by
  obtain ⟨a1, a2⟩ := h1
  obtain ⟨b1, b2⟩ := h2
  obtain ⟨n, rfl⟩ := Int.eq_ofNat_of_zero_le a1
  obtain ⟨m, rfl⟩ := Int.eq_ofNat_of_zero_le b1
  have e : ((m : Nat) : Int).tmod 1073741824 = ((m % 1073741824 : Nat) : Int) := by rw [Int.tmod_eq_emod_of_nonneg (by omega)]; rfl
  have hm : m % 1073741824 < 1073741824 := Nat.mod_lt _ (by omega)
  unfold ahead
  simp only [e]
  refine ⟨⟨by omega, by omega⟩, ?_⟩
  unfold aftI aft wy
  rw [Int.toNat_natCast]
  simp only [decide_eq_true_eq]
  omega
theorem aft_self {q : Int} (h : is32 q) : aftI q q = false := by
  unfold aftI aft wy
  have := h.1
  have := h.2
  simp only [decide_eq_false_iff_not]
  omega
theorem no_start {ts : Ts} {start : Int} (h : is32 start) (hb : ∀ q ∈ seqsT ts, aftI start q = true) : hasT ts start = false := by
  cases hh : hasT ts start with
  | false => rfl
  | true =>
    have := hb _ (hasT_iff.1 hh)
    rw [aft_self h] at this
    cases this

abbrev tnC : Ctx := ⟨F.cuneiformlaw14_TableNext, 132, [.tmp 12], none⟩
set_option maxRecDepth 10000 in
set_option maxHeartbeats 16000000 in
theorem tn_loop {l : List Fr} (h32 : ∀ f ∈ l, is32 f.h.s) {P M C room : Nat} {start : Int} (hst : is32 start) (hroom : 1 ≤ room) {hb : ABlk} {bv : AVal} {nv : Nat} (K : List AItem) (Q : AVal → AHeap → Prop)
    (hK : ∀ r H ord sl, TabS H P M room ord sl → C ∉ tabF P M ord sl → (∀ q ∈ seqsT (tsOf sl), aftI start q = true) → H[C]? = some hb → rget r 2 = .int .u32 start → rget r 4 = bv → rget r 5 = .int .i64 (nv : Nat) → rget r 9 = .ptr C 0 → rget r 13 = .ptr P 0 → Run Try.prog tnC K r H Q) :
    ∀ (z i : Nat) (H : AHeap) (ord : AVal) (sl : List Sl) (rs : Regs), min l.length 100 - i = z → i ≤ min l.length 100 → TabS H P M room ord sl → C ∉ tabF P M ord sl → (∀ q ∈ seqsT (tsOf sl), aftI start q = true) → H[C]? = some hb → rget rs 1 = recs encFr false l → rget rs 2 = .int .u32 start → rget rs 4 = bv → rget rs 5 = .int .i64 (nv : Nat) → rget rs 9 = .ptr C 0 → rget rs 13 = .ptr P 0 → rget rs 15 = .int .i64 (i : Nat) →
    Rounds Try.prog tnC cuneiformlaw14_TableNext.b0 [.inBlock 0] K rs H Q
  | z, i, H, ord, sl, rs, h1, h2, h, hC, hbf, hCb, r1, r2, r4, r5, r9, r13, r15 => by
    refine loop_V 100 cuneiformlaw14_TableNext.b0.eq_1 ?_
    have hcast : (i : Int) + 1 = ((i + 1 : Nat) : Int) := by omega
    have hCl : C < H.length := (List.getElem?_eq_some_iff.1 hCb).1
    by_cases hi : i < l.length ∧ i < 100
    · obtain ⟨hi1, hi2⟩ := hi
      have hld := fun H => (frs_recs (H := H) (t := false) (fs := l)).loadN hi1 (o := 0) (n := 6) (by omega)
      simp only [Nat.add_zero] at hld
      have e6 : ∀ f : Fr, (encFr f).take 6 = encFr f := fun _ => rfl
      simp only [List.drop_zero, e6] at hld
      have hf32 : is32 (l.getD i default).h.s := h32 _ (by rw [show l.getD i default = l[i] by simp [List.getD_eq_getElem?_getD, hi1]]; exact List.getElem_mem hi1)
      generalize l.getD i default = f0 at *
      simp (disch := first | omega | (simp only [lnx]; omega)) only [stdh, stdx, ↓reduceIte, seval, r1, r2, r4, r5, r9, r13, r15, hld]
      refine callK_fn (cut_ok _ f0 _ ?_)
      have hfl := cutFr_len f0
      have hfs : is32 (cutFr f0).h.s := hf32
      generalize cutFr f0 = f at *
      refine runL_V 60 ?_
      simp (disch := first | omega | (simp only [lnx]; omega)) only [stdh, stdx, ↓reduceIte, seval, encFr]
      have hwr : IntKind.u32.wrap (IntKind.u32.wrap (start - 1) - f.h.s.tmod 1073741824) = ahead start f.h.s := by
        rw [wrap_u32', wrap_u32']; unfold ahead; omega
      obtain ⟨ha1, ha2⟩ := ahead_is hst hfs
      rw [hwr]
      have hX : TabS (H ++ [.cells [.int .i64 f.h.v, .int .i64 f.h.k, .int .u32 (ahead start f.h.s), .int .i64 f.h.i, .int .i64 f.h.c, nums .u8 false f.b] T.frame_Frame]) P M room ord sl := h.keeps (keeps_append _ _)
      refine callK_fn (tput_ok hX { f with h := { f.h with s := ahead start f.h.s } } ha1 (by simp only; omega) hroom _ ?_)
      intro H1 ord1 sl1 tt h1' hts
      have hl1 := tt.le
      rw [List.length_append] at hl1
      refine runL_V 60 ?_
      simp (disch := first | omega | (simp only [lnx]; omega)) only [stdh, stdx, ↓reduceIte, seval]
      rw [hcast]
      refine tn_loop h32 hst hroom K Q hK _ (i + 1) H1 ord1 sl1 _ rfl (by omega) h1' (fun hm => ?_) (fun q hq => ?_) ?_ rfl rfl rfl rfl rfl rfl rfl
      · rcases tt.feet C hm with hm | hm
        · exact hC hm
        · rw [List.length_append] at hm; omega
      · rw [hts] at hq
        rcases putT_seqs hq with hq | hq
        · exact hbf q hq
        · rw [hq]; exact ha2
      · rw [tt.kept C (by (first | omega | (simp only [lnx]; omega))) hC, at_low hCl]; exact hCb
    · have fin : ∀ rr, rget rr 2 = .int .u32 start → rget rr 4 = bv → rget rr 5 = .int .i64 (nv : Nat) → rget rr 9 = .ptr C 0 → rget rr 13 = .ptr P 0 → Run Try.prog tnC K rr H Q := fun rr => hK rr H ord sl h hC hbf hCb
      by_cases hi1 : i < l.length
      · simp (disch := first | omega | (simp only [lnx]; omega)) only [stdh, stdx, ↓reduceIte, seval, r1, r2, r4, r5, r9, r13, r15]
        exact fin _ rfl rfl rfl rfl rfl
      · simp (disch := first | omega | (simp only [lnx]; omega)) only [stdh, stdx, ↓reduceIte, seval, r1, r2, r4, r5, r9, r13, r15]
        exact fin _ rfl rfl rfl rfl rfl
  termination_by z => z
set_option linter.unusedSimpArgs false
set_option linter.unusedVariables false

/-- Where a table is behind so many frames of a message. -/
def MidT (h : Hd) (ys : List Nat) (r k : Nat) (i : Nat) (ts : Ts) : Prop :=
  (i = 0 → ∀ q ∈ seqsT ts, aftI h.s q = true) ∧ (0 < i → i < k → hasT ts h.s = true ∧ getT ts h.s = (hdAt h 0 (k : Nat), framesN h ys r i)) ∧ (i = k → 0 < i → hasT ts h.s = false)

theorem check_at {h : Hd} {c : Int} (hc : checkOf (hdAt h 0 c) = 0) {i : Int} (hi : 0 ≤ i ∧ i < c) : checkOf (hdAt h i c) = 0 := by
  have b0 : bads (hdAt h i c) 0 = bads (hdAt h 0 c) 0 := rfl
  have b1 : bads (hdAt h i c) 1 = bads (hdAt h 0 c) 1 := rfl
  unfold checkOf at hc ⊢
  rw [b0, b1]
  by_cases h0 : bads (hdAt h 0 c) 0 = true
  · rw [if_pos h0] at hc; omega
  rw [if_neg h0] at hc ⊢
  by_cases h1 : bads (hdAt h 0 c) 1 = true
  · rw [if_pos h1] at hc; omega
  rw [if_neg h1] at hc ⊢
  by_cases h2 : bads (hdAt h 0 c) 2 = true
  · rw [if_pos h2] at hc; omega
  have b2 : ¬ bads (hdAt h i c) 2 = true := by
    obtain ⟨g1, g2⟩ := hi
    simp only [bads, hdAt, decide_eq_true_eq] at h2 ⊢
    simp only [show ¬ ((2 : Nat) = 0) by omega, show ¬ ((2 : Nat) = 1) by omega, if_false, decide_eq_true_eq, Bool.false_eq_true] at h2 ⊢
    have h3 : ¬ (c < 1 ∨ 255 < c ∨ (0 : Int) < 0 ∨ c ≤ 0) := fun e => h2 (decide_eq_true e)
    intro e
    have e2 : c < 1 ∨ 255 < c ∨ i < 0 ∨ c ≤ i := of_decide_eq_true e
    omega
  rw [if_neg b2]
theorem mid_step {h : Hd} {ys : List Nat} {r k room : Nat} {i : Nat} {ts : Ts} (hs : is32 h.s) (hr : 0 < r) (hk : k = cntP ys.length r) (hk0 : 0 < k) (hys : ys.length ≤ 192) (hchk : checkOf (hdAt h 0 (k : Nat)) = 0) (hroom : 1 ≤ room) (hi : i < k) (hm : MidT h ys r k i ts) :
    MidT h ys r k (i + 1) (putT room ts (frAt h ys r i)).1 ∧ (putT room ts (frAt h ys r i)).2.2 = 0 ∧ (putT room ts (frAt h ys r i)).2.1.whole = decide (i + 1 = k) ∧ ((putT room ts (frAt h ys r i)).2.1.whole = true → (putT room ts (frAt h ys r i)).2.1.body = ys) := by
  have hsq : (frAt h ys r i).h.s = h.s := rfl
  have hbp : (frAt h ys r i).b = partP r ys i := rfl
  have hp : 0 < (partP r ys i).length := by
    have := (cntP_lt (n := ys.length) (r := r) (j := i) hr).1 (by omega)
    rw [partP_len]; omega
  have hpl : (partP r ys i).length ≤ 192 := by rw [partP_len]; omega
  have hb : (frAt h ys r i).b ≠ [] := by rw [hbp]; exact fun e => by rw [e] at hp; simp at hp
  have hc : checkOf (frAt h ys r i).h = 0 := by
    have h1 : (frAt h ys r i).h = hdAt h (i : Nat) (k : Nat) := by rw [frAt, hk]
    rw [h1]
    exact check_at hchk ⟨by omega, by omega⟩
  -- what taking the frame makes of a table that knows the message
  have key : ∀ (ts1 : Ts) (o : OutT), o.whole = false → hasT ts1 h.s = true → getT ts1 h.s = (hdAt h 0 (k : Nat), framesN h ys r i) →
      MidT h ys r k (i + 1) (takeT ts1 o (frAt h ys r i)).1 ∧ (takeT ts1 o (frAt h ys r i)).2.2 = 0 ∧ (takeT ts1 o (frAt h ys r i)).2.1.whole = decide (i + 1 = k) ∧ ((takeT ts1 o (frAt h ys r i)).2.1.whole = true → (takeT ts1 o (frAt h ys r i)).2.1.body = ys) := by
    intro ts1 o ho hh hg
    rw [takeT_frame hr hk hys hi hg]
    by_cases hik : i + 1 = k
    · rw [if_pos hik]
      refine ⟨⟨fun h0 => by omega, fun _ h1 => by omega, fun _ _ => hasT_dropped _ _⟩, rfl, by simp [hik], fun _ => rfl⟩
    · rw [if_neg hik]
      refine ⟨⟨fun h0 => by omega, fun _ h1 => ⟨by rw [hasT_upd]; exact hh, by rw [getT_upd hh, hg]⟩, fun e => absurd e hik⟩, rfl, ?_, fun hw => ?_⟩
      · simp [hik, ho]
      · simp [ho] at hw
  unfold putT
  rw [if_neg (by omega), if_neg hb, hsq]
  by_cases hi0 : i = 0
  · subst hi0
    have hbf := hm.1 rfl
    have hno := no_start hs hbf
    have hnew : ({ (frAt h ys r 0).h with i := 0 }, ([] : List Fr)) = (hdAt h 0 (k : Nat), framesN h ys r 0) := by simp [frAt, hdAt, framesN, hk]
    rw [if_neg (by simp [hno]), if_neg (by rw [hbp]; omega), hnew]
    have hk2 : ∀ ts1 : Ts, hasT ts1 h.s = false → hasT (ts1 ++ [(hdAt h 0 (k : Nat), framesN h ys r 0)]) h.s = true ∧ getT (ts1 ++ [(hdAt h 0 (k : Nat), framesN h ys r 0)]) h.s = (hdAt h 0 (k : Nat), framesN h ys r 0) := fun ts1 h1 => ⟨by simp [hasT, hdAt], getT_new h1 rfl⟩
    by_cases hfree : ts.length < room
    · rw [if_pos hfree]
      exact key _ _ rfl (hk2 ts hno).1 (hk2 ts hno).2
    · rw [if_neg hfree]
      have hne : seqsT ts ≠ [] := fun e => by
        have := congrArg List.length e
        simp [seqsT] at this
        rw [this] at hfree
        simp at hfree
        omega
      rw [if_neg (by rw [hbf _ (oldest_mem hne)]; simp)]
      have hd := hasT_drop (p := oldest (seqsT ts)) hno
      exact key _ _ rfl (hk2 _ hd).1 (hk2 _ hd).2
  · obtain ⟨h1, h2⟩ := hm.2.1 (by omega) hi
    rw [if_pos h1]
    exact key _ _ rfl h1 h2

set_option maxRecDepth 10000 in
set_option maxHeartbeats 16000000 in
theorem tn_loop2 {h : Hd} {ys : List Nat} {r k room : Nat} (hs : is32 h.s) (hr : 0 < r) (hk : k = cntP ys.length r) (hk0 : 0 < k) (hys : ys.length ≤ 192) (hchk : checkOf (hdAt h 0 (k : Nat)) = 0) (hroom : 1 ≤ room) {P M : Nat} {start : AVal} {t : Bool} (K : List AItem) (Q : AVal → AHeap → Prop)
    (hK : ∀ rr H ord sl, TabS H P M room ord sl → hasT (tsOf sl) h.s = false → rget rr 2 = start → rget rr 13 = .ptr P 0 → Run Try.prog tnC K rr H Q) :
    ∀ (z i : Nat) (H : AHeap) (ord : AVal) (sl : List Sl) (rs : Regs), k - i = z → i ≤ k → TabS H P M room ord sl → MidT h ys r k i (tsOf sl) → rget rs 2 = start → rget rs 4 = nums .u8 t ys → rget rs 13 = .ptr P 0 → rget rs 17 = recs encFr false (framesN h ys r k) → rget rs 19 = .int .i64 (i : Nat) →
    Rounds Try.prog tnC cuneiformlaw14_TableNext.b1 [.inBlock 2] K rs H Q
  | z, i, H, ord, sl, rs, h1, h2, hT, hm, r2, r4, r13, r17, r19 => by
    refine loop_V 100 cuneiformlaw14_TableNext.b1.eq_1 ?_
    have hcast : (i : Int) + 1 = ((i + 1 : Nat) : Int) := by omega
    have hfl : (framesN h ys r k).length = k := framesN_len
    have hkl : k ≤ 192 := by have := cntP_le (n := ys.length) (r := r) hr; omega
    by_cases hi : i < k
    · have hld := fun H => (frs_recs (H := H) (t := false) (fs := framesN h ys r k)).loadN (j := i) (by omega) (o := 0) (n := 6) (by omega)
      simp only [Nat.add_zero] at hld
      have e6 : ∀ f : Fr, (encFr f).take 6 = encFr f := fun _ => rfl
      simp only [List.drop_zero, e6] at hld
      rw [show (framesN h ys r k).getD i default = frAt h ys r i by simp [framesN, List.getD_eq_getElem?_getD, hi]] at hld
      obtain ⟨m1, m2, m3, m4⟩ := mid_step hs hr hk hk0 hys hchk hroom hi hm
      have hpl : (frAt h ys r i).b.length ≤ 1000 := by show (partP r ys i).length ≤ 1000; rw [partP_len]; omega
      have hfs : is32 (frAt h ys r i).h.s := hs
      simp (disch := first | omega | (simp only [lnx]; omega)) only [stdh, stdx, ↓reduceIte, seval, r2, r4, r13, r17, r19, hld, hfl]
      refine callK_fn (tput_ok hT (frAt h ys r i) hfs hpl hroom _ ?_)
      intro H1 ord1 sl1 tt h1' hts
      generalize putT room (tsOf sl) (frAt h ys r i) = res at *
      obtain ⟨ts', ⟨body, whole, ev, old⟩, e⟩ := res
      simp only at hts m1 m2 m3 m4
      subst m2
      have hbc : (if whole = true then nums .u8 false body else .nils).cellish = true := by cases whole <;> rfl
      have hd : decide ((i : Int) = (k : Nat) - 1) = whole := by rw [m3, decide_eq_decide]; omega
      have hnats : ∀ H, whole = true → Nats .u8 H (if whole = true then nums .u8 false body else .nils) ys := fun H hw => by rw [if_pos hw, m4 hw]; exact nums_nats _ _ _ _
      simp only [encOut]
      generalize (if whole = true then nums IntKind.u8 false body else AVal.nils) = bb at *
      have hnext := fun rs => tn_loop2 hs hr hk hk0 hys hchk hroom (start := start) (t := t) K Q hK (k - (i + 1)) (i + 1) (H1 ++ [.cells [bb, .bool whole, .bool ev, .int .u32 old] T.table_Out]) ord1 sl1 rs rfl (by omega) (h1'.keeps (keeps_append _ _)) (by rw [hts]; exact m1)
      refine runL_V 60 ?_
      simp (disch := first | omega | (simp only [lnx]; omega)) only [stdh, stdx, ↓reduceIte, seval, hfl, hbc]
      cases whole
      · simp (disch := first | omega | (simp only [lnx]; omega)) only [stdh, stdx, ↓reduceIte, seval, hd]
        rw [hcast]
        exact hnext _ rfl rfl rfl rfl rfl
      · simp (disch := first | omega | (simp only [lnx]; omega)) only [stdh, stdx, ↓reduceIte, seval, hd]
        refine callK_fn (same_ok _ (hnats _ rfl) (nums_nats _ _ _ _) (by omega) _ ?_)
        rw [decide_eq_true rfl]
        refine runL_V 60 ?_
        simp (disch := first | omega | (simp only [lnx]; omega)) only [stdh, stdx, ↓reduceIte, seval]
        rw [hcast]
        exact hnext _ rfl rfl rfl rfl rfl
    · simp (disch := first | omega | (simp only [lnx]; omega)) only [stdh, stdx, ↓reduceIte, seval, r2, r4, r13, r17, r19, hfl]
      have hik : i = k := by omega
      exact hK _ H ord sl hT (hm.2.2 hik (by omega)) rfl rfl
  termination_by z => z

set_option maxRecDepth 10000 in
set_option maxHeartbeats 16000000 in
theorem tablenext_ok {room n start : Int} {l : List Fr} {h : Hd} {bs : List Nat} (h32 : ∀ f ∈ l, is32 f.h.s) (hst : is32 start) (hlen : bs.length ≤ 9223372036854775807) : FunOK Try.prog F.cuneiformlaw14_TableNext [.int .i64 room, recs encFr false l, .int .u32 start, .agg (encHd h), nums .u8 false bs, .int .i64 n] [] fun av _ => av = .bool true := by
  refine fun_V 60 cuneiformlaw14_TableNext_code rfl ?_
  obtain ⟨u, hu⟩ := wrap_u64n room
  obtain ⟨u2, hu2⟩ := wrap_u64n n
  obtain ⟨r0, hrem, hr0⟩ : ∃ j : Nat, (u : Int).tmod 16 = (j : Int) ∧ j < 16 := ⟨u % 16, by rw [Int.tmod_eq_emod_of_nonneg (by omega)]; rfl, Nat.mod_lt _ (by omega)⟩
  obtain ⟨n0, hrem2, hn0⟩ : ∃ j : Nat, (u2 : Int).tmod 242 = (j : Int) ∧ j < 242 := ⟨u2 % 242, by rw [Int.tmod_eq_emod_of_nonneg (by omega)]; rfl, Nat.mod_lt _ (by omega)⟩
  simp (disch := first | omega | (simp only [lnx]; omega)) only [stdh, stdx, ↓reduceIte, seval, cuneiformlaw14_TableNext, cuneiformlaw14_TableNext.body, encHd, hu, hrem, hu2, hrem2]
  rw [show (1 : Int) + (r0 : Int) = ((r0 + 1 : Nat) : Int) by omega, show (1 : Int) + (n0 : Int) = ((n0 + 1 : Nat) : Int) by omega]
  obtain ⟨r, hr⟩ : ∃ r : Nat, r = r0 + 1 := ⟨_, rfl⟩
  obtain ⟨m, hm⟩ : ∃ m : Nat, m = n0 + 1 := ⟨_, rfl⟩
  rw [← hr, ← hm]
  refine callK_fn (tnew_ok _ r (by omega) _ ?_)
  intro H P M hk hP hM hT
  have x0 := hk.get (n := 0) rfl
  have hP' : 0 < P := hP
  have hM' : 0 < M := hM
  refine runL_V 60 ?_
  simp (disch := first | omega | (simp only [lnx]; omega)) only [stdh, stdx, ↓reduceIte, seval, eqA]
  refine tn_loop (C := 0) h32 hst (by omega) (hb := .cells [.int .i64 h.v, .int .i64 h.k, .int .u32 h.s, .int .i64 h.i, .int .i64 h.c] T.head_Head) (bv := nums .u8 false bs) (nv := m) _ _ ?_ _ 0 H _ [] _ rfl (by omega) hT (by simp [tabF, slF, AVal.names]; omega) (by simp [seqsT, tsOf]) x0 rfl rfl rfl rfl rfl rfl rfl
  intro rr H1 ord sl h1 hC hbf hCb r2 r4 r5 r9 r13
  obtain ⟨ys, hys⟩ : ∃ ys, ys = bs.take (if (192 : Int) < (bs.length : Int) then 192 else (bs.length : Int)).toNat := ⟨_, rfl⟩
  have hyl : ys.length ≤ 192 := by
    rw [hys, List.length_take]
    split <;> omega
  have hCl : 0 < H1.length := (List.getElem?_eq_some_iff.1 hCb).1
  refine run_V0 60 ?_
  simp (disch := first | omega | (simp only [lnx]; omega)) only [stdh, stdx, ↓reduceIte, seval, r2, r4, r5, r9, r13, hCb, List.getElem?_set_self]
  rw [← hys]
  clear hys
  have h1s : TabS (H1.set 0 (.cells [.int .i64 h.v, .int .i64 h.k, .int .u32 start, .int .i64 h.i, .int .i64 h.c] T.head_Head)) P M r ord sl := h1.keep fun k hk => List.getElem?_set_ne fun e => hC (by rw [e]; exact hk)
  refine callK_fn (frames_ok _ { h with s := start } (by omega) (by omega) _ ?_)
  refine runL_V 60 ?_
  by_cases he : frameErr { h with s := start } ys (m : Int) = 0
  case neg =>
    have hd : decide ((frameErr { h with s := start } ys (m : Int) : Int) = 0) = false := decide_eq_false (by omega)
    simp (disch := first | omega | (simp only [lnx]; omega)) only [stdh, stdx, ↓reduceIte, seval, hd]
    refine callK_fn (known14_ok _ _ ?_)
    refine runL_V 60 ?_
    simp (disch := first | omega | (simp only [lnx]; omega)) only [stdh, stdx, ↓reduceIte, seval]
  have hpos : 0 < ys.length := Nat.pos_of_ne_zero fun hz => by
    unfold frameErr at he
    rw [if_pos hz] at he; omega
  obtain ⟨k, hk⟩ : ∃ k, k = cntP ys.length m := ⟨_, rfl⟩
  have hk0 : 0 < k := by rw [hk]; exact cntP_pos hpos
  have hfo : framesOf { h with s := start } ys (m : Int) = framesN { h with s := start } ys m k := by rw [framesOf, if_pos he, Int.toNat_natCast, hk]
  have hchk : checkOf (hdAt { h with s := start } 0 (k : Nat)) = 0 := by
    have := he
    unfold frameErr at this
    rw [if_neg (by omega), if_neg (by omega), if_neg (by omega), Int.toNat_natCast, ← hk] at this
    exact this
  rw [he, hfo]
  simp (disch := first | omega | (simp only [lnx]; omega)) only [stdh, stdx, ↓reduceIte, seval]
  refine tn_loop2 (h := { h with s := start }) (k := k) (r := m) (ys := ys) (start := .int .u32 start) hst (by omega) hk hk0 hyl hchk (by omega) _ _ ?_ _ 0 _ ord sl _ rfl (by omega) h1s ⟨fun _ => hbf, fun h0 => by omega, fun h0 h1 => by omega⟩ rfl rfl rfl rfl rfl
  intro rr2 H2 ord2 sl2 h2 hno q2 q13
  refine run_V0 60 ?_
  simp (disch := first | omega | (simp only [lnx]; omega)) only [stdh, stdx, ↓reduceIte, seval, q2, q13]
  refine callK_fn (known14_ok _ _ ?_)
  refine runL_V 60 ?_
  simp (disch := first | omega | (simp only [lnx]; omega)) only [stdh, stdx, ↓reduceIte, seval, q2, q13]
  refine callK_fn (dropT_no h2 (hasT_no hno) _ ?_)
  refine runL_V 60 ?_
  simp (disch := first | omega | (simp only [lnx]; omega)) only [stdh, stdx, ↓reduceIte, seval]
end Go.Proofs.Ytamcfgdnhgmkpaa

namespace Go.Proofs.Ytamcfgdnhgmkpaa.tableNext
open Go Go.Am Go.ChangeShapes Go.WideShapes Go.ChangeAt Go.RowKit
set_option linter.unusedVariables false

theorem own : ownKnob Try.prog.godebug = none := by kernel_rfl
theorem laidOut : laidOutB Try.prog = true := by kernel_rfl

set_option maxRecDepth 100000 in
theorem lifted (os : Os) (started : os.Started) (H : Type) (enc : TypeId × Value → H) :
    ReturnsInHanded {} Try.checked os F.cuneiformlaw14_TableNext .any (Rows.tableNextSpec.pre6 enc Try.prog Try.f3 Rows.tableNextRow.domain false) (Rows.tableNextSpec.post enc Try.prog Try.f3 false true false false) := by
  refine returnsInHanded_of_change (C := Try.checked) own started (by kernel_rfl) Try.func3
    (ChangeSpec.witness6 (enc := enc) (C := Try.checked) false ⟨#[], #[.int .i64 0, .slice none 0 0, .int .u32 0, .agg #[.int .i64 0, .int .i64 0, .int .u32 0, .int .i64 0, .int .i64 0], .slice none 0 0, .int .i64 0], []⟩ 8 (by kernel_rfl) (by kernel_rfl) (by kernel_rfl) (by kernel_rfl)) ?_
  intro W base args ds gs before hval hW hcnd _
  refine law_calls (shs := [.int .i64, .slice shFrame, .int .u32, shHead, .slice (.int .u8), .int .i64]) (tb := 4) laidOut (by kernel_rfl) ?_ (by kernel_rfl) Try.underlying4 rfl ?_ ?_ hval hW
  · intro t ht
    have : ∀ t ∈ Try.f3.params.toList, (Try.prog.readableRec t && decide (t < Try.prog.types.size)) = true := List.all_eq_true.1 (by kernel_rfl)
    simpa using this t ht
  · intro H ds hd
    match ds, hd with
    | [d0, d1, d2, d3, d4, d5], _ => exact ⟨rfl, rfl, rfl⟩
  · rintro xs ⟨a, r, rfl, ⟨v0, hv0, _⟩, b, r2, rfl, hb, c, r3, rfl, ⟨st, hst, wst⟩, d, r4, rfl, hd, e, r5, rfl, he, g, r6, rfl, ⟨n0, hn0, _⟩, rfl⟩
    cases hv0
    cases hst
    cases hn0
    obtain ⟨fs, q1, q2⟩ := frs_fits32 hb
    obtain ⟨l, rfl, h⟩ := hd
    obtain ⟨_, _, rfl, ⟨v, rfl, _⟩, h⟩ := h
    obtain ⟨_, _, rfl, ⟨k, rfl, _⟩, h⟩ := h
    obtain ⟨_, _, rfl, ⟨s, rfl, _⟩, h⟩ := h
    obtain ⟨_, _, rfl, ⟨i, rfl, _⟩, h⟩ := h
    obtain ⟨_, _, rfl, ⟨n, rfl, _⟩, h⟩ := h
    have h' : _ = ([] : List AVal) := h
    subst h'
    obtain ⟨bs, p1, p2, p3⟩ := nums_fits (k := .u8) rfl he
    exact fun_sees (.cons (.refl _) (.cons q1 (.cons (.refl _) (.cons (.refl _) (.cons p1 (.cons (.refl _) .nil)))))) (tablenext_ok (h := ⟨v, k, s, i, n⟩) q2 (u32_wf wst) p3)

theorem proved : Rows.TableNextSaid :=
  OpenClaim.holds_of_wide F.cuneiformlaw14_TableNext Try.f3 rfl rfl rfl rfl rfl rfl rfl ⟨rfl, rfl, rfl, rfl, rfl⟩ rfl rfl rfl rfl rfl (by kernel_rfl) Try.func3 (by kernel_rfl)
    (of_decide_eq_true (by kernel_rfl)) (by unfold Func.isWrapper; first | (rw [if_pos (by decide +kernel)]; kernel_rfl) | (rw [if_neg (by decide +kernel)]; exact ⟨rfl, rfl⟩))
    (fun os started H enc _ => lifted os started H enc)
end Go.Proofs.Ytamcfgdnhgmkpaa.tableNext
