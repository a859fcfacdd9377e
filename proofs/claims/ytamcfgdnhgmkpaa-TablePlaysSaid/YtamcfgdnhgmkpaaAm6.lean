/-
  A reckoner for that machine: what it says of a run without unknowns is so. By an AI agent. No person has read it.
-/
import Derived.Test.YtamcfgdnhgmkpaaAm5
import Derived.SizedLaws
set_option linter.unusedSimpArgs false
set_option linter.unusedVariables false

namespace Go.Am
open Go
set_option linter.unusedVariables false

/-! ### Runs without unknowns, reckoned -/

def boundsB (len cap : Nat) (lo hi mx : Option Int) : Bool := decide (0 ≤ lo.getD 0) && decide (lo.getD 0 ≤ hi.getD len) && decide (hi.getD len ≤ mx.getD cap) && decide (mx.getD cap ≤ cap)

theorem boundsB_ok {len cap : Nat} {lo hi mx : Option Int} (h : boundsB len cap lo hi mx = true) : (bounds len cap lo hi mx).1 := by
  simp only [boundsB, Bool.and_eq_true, decide_eq_true_eq] at h
  exact ⟨h.1.1.1, h.1.1.2, h.1.2, h.2⟩

def keyOkB (k : AVal) (es : List (AVal × AVal)) : Bool := match k with
  | .int kd _ => es.all fun p => match p.1 with | .int kd' _ => decide (kd' = kd) | _ => false
  | .str _ => es.all fun p => match p.1 with | .str _ => true | _ => false
  | _ => false

theorem keyOkB_ok {k : AVal} {es : List (AVal × AVal)} (h : keyOkB k es = true) : keyOk k es := by
  unfold keyOkB at h
  split at h
  · rename_i kd n
    simp only [keyOk]
    intro p hp
    rw [List.all_eq_true] at h
    have := h p hp
    split at this
    · rename_i kd' n' he
      simp only [decide_eq_true_eq] at this
      subst this
      exact ⟨n', he⟩
    · cases this
  · simp only [keyOk]
    intro p hp
    rw [List.all_eq_true] at h
    have := h p hp
    split at this
    · rename_i s' he; exact ⟨s', he⟩
    · cases this
  · cases h

/-- The conditions of an operation, decided. -/
def okP (g : AOpd → AVal) (H : AHeap) : AOp → Bool
  | .box el x => (g x).cells.all AVal.cellish
  | .load agg a => (match cellsAt H (g a), agg with
    | some cs, some n => decide (n ≤ cs.length)
    | some cs, none => decide (0 < cs.length)
    | none, _ => false)
  | .store sz a v => (match g a with
    | .ptr n off => (match H[n]? with
      | some (.cells cs el) => decide (off + sz ≤ cs.length) && decide ((g v).cells.length = sz) && (g v).cells.all AVal.cellish
      | some (.vec cs el z) => decide (off + sz ≤ cs.length) && decide (0 < sz) && decide ((g v).cells.length = sz) && (g v).cells.all AVal.cellish
      | _ => false)
    | .sptr (.slc n o len z') k => (match H[n]? with
      | some (.cells cs el) => decide (k + sz ≤ len * z') && decide (0 < sz) && decide (o + len * z' ≤ cs.length) && decide ((g v).cells.length = sz) && (g v).cells.all AVal.cellish
      | some (.vec cs el z) => decide (k + sz ≤ len * z') && decide (0 < sz) && decide (o + len * z' ≤ cs.length) && decide ((g v).cells.length = sz) && (g v).cells.all AVal.cellish
      | _ => false)
    | _ => false)
  | .bin op x y => (match g x, g y with
    | .int k a, .int k' b => (match op with
      | .shl | .shr => decide (0 ≤ b)
      | .quo | .rem => decide (k = k') && decide (b ≠ 0)
      | _ => decide (k = k'))
    | .str a, .str b => (match op with
      | .add => decide (((a.size + b.size : Nat) : Int) ≤ 9223372036854775807)
      | _ => true)
    | _, _ => false)
  | .idx sz (some n) x i => (match g i with | .int _ i => decide (0 ≤ i) && decide (i < n) | _ => false)
  | .idx sz none x i => (match g i, slen (g x) with | .int _ i, some n => decide (0 ≤ i) && decide (i < n) && (view H (g x)).isSome && decide (0 < sz) | _, _ => false)
  | .sidx x i => (match g x, g i with | .str s, .int _ i => decide (0 ≤ i) && decide (i < s.size) | _, _ => false)
  | .toArr n x => (match slen (g x) with | some len => decide (n ≤ len) && decide (0 < n) && (view H (g x)).isSome | none => false)
  | .maxmin isMax x y => (match g x, g y with | .int k a, .int k' b => decide (k = k') | _, _ => false)
  | .extract x i => (match g x with | .tup vs => decide (i < vs.length) | _ => false)
  | .append el sz bytes s x => (match srcLen (g x), srcCells H (g x) with
    | some n, some xs => (match g s with
      | .nils => decide (xs.length = n * sz) && decide (0 < sz) && decide (n * bytes ≤ 140737488355328) && decide (n ≤ 9223372036854775807)
      | .slc m off len z => (match H[m]? with
        | some (.vec cs el' z') => decide (xs.length = n * sz) && decide (0 < sz) && decide ((len + n) * bytes ≤ 140737488355328) && decide (len + n ≤ 9223372036854775807) && decide (z = sz) && decide (z' = sz) && decide (el' = el) && decide (off = 0) && decide (cs.length = len * sz) && xs.all AVal.cellish
        | some (.cells cs _) => decide (xs.length = n * sz) && decide (0 < sz) && decide (0 < n) && decide ((len + n) * bytes ≤ 140737488355328) && decide (len + n ≤ 9223372036854775807) && decide (z = sz) && decide (off = 0) && decide (cs.length = len * sz)
        | _ => false)
      | _ => false)
    | _, _ => false)
  | .slice sz k x lo hi mx => (match opdInt g lo, opdInt g hi, opdInt g mx with
    | some lo, some hi, some mx => (match k with
      | .slice => (match g x with
        | .imm cs len tight => boundsB len len lo hi mx && decide (len * sz = cs.length)
        | .nils => boundsB 0 0 lo hi mx
        | .slc n off len z => boundsB len len lo hi mx && decide (z = sz)
        | _ => false)
      | .array n => (match g x with
        | .ptr b o => (match H[b]? with
          | some (.cells cs el) => boundsB n n lo hi mx && decide (o + n * sz ≤ cs.length)
          | _ => false)
        | _ => false)
      | .string => (match g x with
        | .str s => boundsB s.size s.size lo hi mx
        | _ => false))
    | _, _, _ => false)
  | .mkslice el sz bytes z len cap => (match g len, g cap with
    | .int _ l, .int _ c => decide (0 ≤ l) && decide (c = l) && decide (l * bytes ≤ 140737488355328) && decide (z.length = sz) && decide (0 < sz) && decide (l ≤ 9223372036854775807)
    | _, _ => false)
  | .lookup kk z ok m k => (match g m with
    | .mapv n => (match H[n]? with
      | some (.map es) => kindA kk (g k) && keyOkB (g k) es
      | _ => false)
    | .nilm => kindA kk (g k) && keyOkB (g k) []
    | _ => false)
  | .mapset kk m k v => (match g m with
    | .mapv n => (match H[n]? with
      | some (.map es) => kindA kk (g k) && keyOkB (g k) es
      | _ => false)
    | _ => false)
  | .mapdel kk m k => (match g m with
    | .mapv n => (match H[n]? with
      | some (.map es) => kindA kk (g k) && keyOkB (g k) es
      | _ => false)
    | _ => false)
  | .b2s x => (match slen (g x), view H (g x) with | some n, some cs => decide (cs.length = n) | _, _ => false)
  | .mark x => (match g x with | .slc n off len z => (match H[n]? with | some (.vec cs el z') => decide (off = 0) && decide (z = 1) && decide (cs.length = len) && decide (0 < len) | _ => false) | _ => false)
  | .call .. => false
  | _ => true

theorem okP_ok {g : AOpd → AVal} {H : AHeap} {op : AOp} {p : Prop} {v : AVal} {H' : AHeap} (h : evalOp g H op = .ok p v H') (hp : okP g H op = true) : p := by
  cases op with
  | box el x => simp only [evalOp, Res.ok.injEq, okP] at h hp; rw [← h.1]; exact hp
  | load agg a =>
    simp only [evalOp, loadA, okP] at h hp
    cases hc : cellsAt H (g a) with
    | none => simp [hc] at hp
    | some cs =>
      rw [hc] at h hp
      cases agg with
      | none => simp only [Res.ok.injEq] at h; rw [← h.1]; simpa using hp
      | some n => simp only [Res.ok.injEq] at h; rw [← h.1]; simpa using hp
  | store sz a v =>
    simp only [evalOp, storeA, okP] at h hp
    split at hp
    · rename_i n off hga
      rw [hga] at h
      simp only at h
      split at hp
      · rename_i cs el hb
        rw [hb] at h
        simp only [Res.ok.injEq] at h
        rw [← h.1]
        simp only [Bool.and_eq_true, decide_eq_true_eq] at hp
        exact ⟨hp.1.1, hp.1.2, hp.2⟩
      · rename_i cs el z hb
        rw [hb] at h
        simp only [Res.ok.injEq] at h
        rw [← h.1]
        simp only [Bool.and_eq_true, decide_eq_true_eq] at hp
        exact ⟨hp.1.1.1, hp.1.1.2, hp.1.2, hp.2⟩
      · cases hp
    · rename_i n o len z' k hga
      rw [hga] at h
      simp only at h
      split at hp
      · rename_i cs el hb
        rw [hb] at h
        simp only [Res.ok.injEq] at h
        rw [← h.1]
        simp only [Bool.and_eq_true, decide_eq_true_eq] at hp
        exact ⟨hp.1.1.1.1, hp.1.1.1.2, hp.1.1.2, hp.1.2, hp.2⟩
      · rename_i cs el z hb
        rw [hb] at h
        simp only [Res.ok.injEq] at h
        rw [← h.1]
        simp only [Bool.and_eq_true, decide_eq_true_eq] at hp
        exact ⟨hp.1.1.1.1, hp.1.1.1.2, hp.1.1.2, hp.1.2, hp.2⟩
      · cases hp
    · cases hp
  | bin op x y =>
    simp only [evalOp, okP] at h hp
    split at hp
    · rename_i k a k' b hx hy
      rw [hx, hy] at h
      cases op <;> simp only [binA, Res.ok.injEq] at h <;> rw [← h.1] <;> simpa using hp
    · rename_i a b hx hy
      rw [hx, hy] at h
      cases op <;> simp only [binA, Res.ok.injEq] at h <;> first | (cases h; done) | (rw [← h.1]; first | trivial | simpa using hp)
    · cases hp
  | idx sz arr x i =>
    cases arr with
    | some n =>
      rw [evalOp_idxA] at h
      simp only [okP] at hp
      cases hi : g i <;> rw [hi] at h hp <;> first | (cases hp; done) | skip
      simp only [Bool.and_eq_true, decide_eq_true_eq] at hp
      cases hx : g x <;> rw [hx] at h <;> simp only [idxA, Res.ok.injEq] at h <;> first | (cases h; done) | (rw [← h.1]; exact hp)
    | none =>
      rw [evalOp_idxS] at h
      simp only [okP] at hp
      cases hi : g i <;> rw [hi] at h hp <;> first | (cases hp; done) | skip
      simp only [idxS] at h
      cases hs : slen (g x) with
      | none => simp [hs] at hp
      | some n =>
        rw [hs] at h hp
        simp only [Bool.and_eq_true, decide_eq_true_eq] at hp
        simp only [idxS2, Res.ok.injEq] at h
        rw [← h.1]; exact ⟨hp.1.1.1, hp.1.1.2, hp.1.2, hp.2⟩
  | sidx x i =>
    simp only [evalOp, okP] at h hp
    split at hp
    · rename_i s _ i hx hi
      rw [hx, hi] at h
      simp only [Res.ok.injEq] at h
      simp only [Bool.and_eq_true, decide_eq_true_eq] at hp
      rw [← h.1]; exact hp
    · cases hp
  | b2s x =>
    simp only [evalOp, okP] at h hp
    split at hp
    · rename_i n cs hl hv
      rw [hl, hv] at h
      simp only at h
      split at h
      · simp only [Res.ok.injEq] at h
        rw [← h.1]; simpa using hp
      · cases h
    · cases hp
  | mark x =>
    simp only [evalOp, okP, markA] at h hp
    split at hp
    · rename_i n off len z hx
      rw [hx] at h
      simp only at h
      split at hp
      · rename_i cs el z' hb
        rw [hb] at h
        simp only [Res.ok.injEq] at h
        simp only [Bool.and_eq_true, decide_eq_true_eq] at hp
        rw [← h.1]; exact ⟨hp.1.1.1, hp.1.1.2, hp.1.2, hp.2⟩
      · cases hp
    · cases hp
  | toArr n x =>
    simp only [evalOp, okP] at h hp
    split at hp
    · rename_i len hl
      rw [hl] at h
      simp only [Res.ok.injEq] at h
      simp only [Bool.and_eq_true, decide_eq_true_eq] at hp
      rw [← h.1]; exact ⟨hp.1.1, hp.1.2, hp.2⟩
    · cases hp
  | maxmin m x y =>
    simp only [evalOp, okP] at h hp
    split at hp
    · rename_i k a k' b hx hy
      rw [hx, hy] at h
      simp only [Res.ok.injEq] at h
      rw [← h.1]; simpa using hp
    · cases hp
  | extract x i =>
    simp only [evalOp, okP] at h hp
    split at hp
    · rename_i vs hx
      rw [hx] at h
      simp only [Res.ok.injEq] at h
      rw [← h.1]; simpa using hp
    · cases hp
  | append el sz bytes s x =>
    simp only [evalOp, appendA, okP] at h hp
    split at hp
    · rename_i n xs h1 h2
      rw [h1, h2] at h
      simp only at h
      split at hp
      · rename_i hs
        rw [hs] at h
        simp only [Res.ok.injEq] at h
        simp only [Bool.and_eq_true, decide_eq_true_eq] at hp
        rw [← h.1]; exact ⟨hp.1.1.1, hp.1.1.2, hp.1.2, hp.2⟩
      · rename_i m off len z hs
        rw [hs] at h
        simp only at h
        split at hp
        · rename_i cs el' z' hb
          rw [hb] at h
          simp only [Res.ok.injEq] at h
          simp only [Bool.and_eq_true, decide_eq_true_eq] at hp
          obtain ⟨⟨⟨⟨⟨⟨⟨⟨⟨a1, a2⟩, a3⟩, a4⟩, a5⟩, a6⟩, a7⟩, a8⟩, a9⟩, a10⟩ := hp
          rw [← h.1]; exact ⟨a1, a2, a3, a4, a5, a6, a7, a8, a9, a10⟩
        · rename_i cs T hb
          rw [hb] at h
          simp only [Res.ok.injEq] at h
          simp only [Bool.and_eq_true, decide_eq_true_eq] at hp
          obtain ⟨⟨⟨⟨⟨⟨⟨a1, a2⟩, a3⟩, a4⟩, a5⟩, a6⟩, a7⟩, a8⟩ := hp
          rw [← h.1]; exact ⟨a1, a2, a3, a4, a5, a6, a7, a8⟩
        · cases hp
      · cases hp
    · cases hp
  | slice sz k x lo hi mx =>
    simp only [evalOp, okP] at h hp
    split at hp
    rotate_left
    · cases hp
    rename_i lo' hi' mx' h1 h2 h3
    rw [h1, h2, h3] at h
    cases k with
    | slice =>
      simp only at h hp
      split at hp
      · rename_i cs len t hx
        rw [hx] at h
        simp only [sliceA, Res.ok.injEq] at h
        simp only [Bool.and_eq_true, decide_eq_true_eq] at hp
        rw [← h.1]; exact ⟨boundsB_ok hp.1, hp.2⟩
      · rename_i hx
        rw [hx] at h
        simp only [sliceA, Res.ok.injEq] at h
        rw [← h.1]; exact boundsB_ok hp
      · rename_i n off len z hx
        rw [hx] at h
        simp only [sliceA, Res.ok.injEq] at h
        simp only [Bool.and_eq_true, decide_eq_true_eq] at hp
        rw [← h.1]; exact ⟨boundsB_ok hp.1, hp.2⟩
      · cases hp
    | array n =>
      simp only at h hp
      split at hp
      rotate_left
      · cases hp
      rename_i b o hx
      rw [hx] at h
      simp only at h
      split at hp
      · rename_i cs el hb
        rw [hb] at h
        simp only [Res.ok.injEq] at h
        simp only [Bool.and_eq_true, decide_eq_true_eq] at hp
        rw [← h.1]; exact ⟨boundsB_ok hp.1, hp.2⟩
      · cases hp
    | string =>
      simp only at h hp
      split at hp
      · rename_i s hx
        rw [hx] at h
        simp only [Res.ok.injEq] at h
        rw [← h.1]; exact boundsB_ok hp
      · cases hp
  | mkslice el sz bytes z l c =>
    simp only [evalOp, okP] at h hp
    split at hp
    · rename_i l' _ c' hx hy
      rw [hx, hy] at h
      simp only [Res.ok.injEq] at h
      simp only [Bool.and_eq_true, decide_eq_true_eq] at hp
      obtain ⟨⟨⟨⟨⟨a1, a2⟩, a3⟩, a4⟩, a5⟩, a6⟩ := hp
      rw [← h.1]; exact ⟨a1, a2, a3, a4, a5, a6⟩
    · cases hp
  | lookup kk z ok m k =>
    simp only [evalOp, okP] at h hp
    split at hp
    · rename_i n hm
      rw [hm] at h
      simp only at h
      split at hp
      · rename_i es hb
        rw [hb] at h
        simp only [Res.ok.injEq] at h
        simp only [Bool.and_eq_true] at hp
        rw [← h.1]; exact ⟨hp.1, keyOkB_ok hp.2⟩
      · cases hp
    · rename_i hm
      rw [hm] at h
      simp only [Res.ok.injEq] at h
      simp only [Bool.and_eq_true] at hp
      rw [← h.1]; exact ⟨hp.1, keyOkB_ok hp.2⟩
    · cases hp
  | mapset kk m k v =>
    simp only [evalOp, okP] at h hp
    split at hp
    · rename_i n hm
      rw [hm] at h
      simp only at h
      split at hp
      · rename_i es hb
        rw [hb] at h
        simp only [Res.ok.injEq] at h
        simp only [Bool.and_eq_true] at hp
        rw [← h.1]; exact ⟨hp.1, keyOkB_ok hp.2⟩
      · cases hp
    · cases hp
  | mapdel kk m k =>
    simp only [evalOp, okP] at h hp
    split at hp
    · rename_i n hm
      rw [hm] at h
      simp only at h
      split at hp
      · rename_i es hb
        rw [hb] at h
        simp only [Res.ok.injEq] at h
        simp only [Bool.and_eq_true] at hp
        rw [← h.1]; exact ⟨hp.1, keyOkB_ok hp.2⟩
      · cases hp
    · cases hp
  | call f args => simp [okP] at hp
  | mov x => simp only [evalOp, Res.ok.injEq] at h; rw [← h.1]; trivial
  | pick c a b =>
    simp only [evalOp] at h
    split at h <;> first | (cases h; done) | (simp only [Res.ok.injEq] at h; rw [← h.1]; trivial)
  | alloc el z => simp only [evalOp, Res.ok.injEq] at h; rw [← h.1]; trivial
  | build z ps =>
    simp only [evalOp] at h
    split at h <;> first | (cases h; done) | (simp only [Res.ok.injEq] at h; rw [← h.1]; trivial)
  | lit el sz len z ps =>
    simp only [evalOp] at h
    split at h <;> first | (cases h; done) | (simp only [Res.ok.injEq] at h; rw [← h.1]; trivial)
  | eq neg k x y =>
    simp only [evalOp] at h
    split at h <;> first | (cases h; done) | (simp only [Res.ok.injEq] at h; rw [← h.1]; trivial)
  | un op x =>
    simp only [evalOp] at h
    split at h <;> first | (cases h; done) | (simp only [Res.ok.injEq] at h; rw [← h.1]; trivial)
  | conv k x =>
    simp only [evalOp] at h
    split at h <;> first | (cases h; done) | (simp only [Res.ok.injEq] at h; rw [← h.1]; trivial)
  | nilc x =>
    simp only [evalOp] at h
    split at h <;> first | (cases h; done) | (simp only [Res.ok.injEq] at h; rw [← h.1]; trivial)
  | field off x =>
    simp only [evalOp] at h
    split at h <;> first | (cases h; done) | (simp only [Res.ok.injEq] at h; rw [← h.1]; trivial)
  | len k x =>
    cases k <;> simp only [evalOp] at h <;> (repeat (split at h)) <;> first | (cases h; done) | (simp only [Res.ok.injEq] at h; rw [← h.1]; trivial)
  | mkfn f a b => simp only [evalOp, Res.ok.injEq] at h; rw [← h.1]; trivial
  | mkmap => simp only [evalOp, Res.ok.injEq] at h; rw [← h.1]; trivial
  | minN xs =>
    simp only [evalOp] at h
    split at h <;> first | (cases h; done) | (simp only [Res.ok.injEq] at h; rw [← h.1]; trivial)
  | s2b x =>
    simp only [evalOp] at h
    split at h <;> first | (cases h; done) | (simp only [Res.ok.injEq] at h; rw [← h.1]; trivial)

end Go.Am

namespace Go.Am
set_option linter.unusedSimpArgs false
open Go
set_option linter.unusedVariables false

def stripB : ABlk → ABlk
  | .loop l => .loop { l with assign := .skip, body := .skip }
  | .dead => .dead
  | .cells cs el => .cells cs el
  | .vec cs el z => .vec cs el z
  | .map es => .map es
def strip (H : AHeap) : AHeap := H.map stripB

theorem strip_get (H : AHeap) (n : Nat) : (strip H)[n]? = (H[n]?).map stripB := by simp [strip]
theorem strip_len (H : AHeap) : (strip H).length = H.length := by simp [strip]
theorem strip_set (H : AHeap) (n : Nat) (b : ABlk) : strip (H.set n b) = (strip H).set n (stripB b) := by simp [strip, List.map_set]
theorem strip_push (H : AHeap) (b : ABlk) : strip (H ++ [b]) = strip H ++ [stripB b] := by simp [strip]
theorem content_strip (H : AHeap) (n : Nat) : content (strip H)[n]? = content H[n]? := by
  rw [strip_get]
  cases H[n]? with
  | none => rfl
  | some b => cases b <;> rfl
theorem view_strip (H : AHeap) (a : AVal) : view (strip H) a = view H a := by
  cases a <;> simp only [view, content_strip]
theorem cellsAt_strip (H : AHeap) (a : AVal) : cellsAt (strip H) a = cellsAt H a := by
  cases a <;> simp only [cellsAt, content_strip, view_strip]
theorem loadA_strip (H : AHeap) (agg : Option Nat) (a : AVal) : loadA (strip H) agg a = loadA H agg a := by
  simp only [loadA, cellsAt_strip]

def Res.strip : Res → Res
  | .ok p v H => .ok p v (Am.strip H)
  | .bad => .bad

theorem storeA_strip (H : AHeap) (sz : Nat) (a v : AVal) : storeA (strip H) sz a v = (storeA H sz a v).map fun x => (x.1, strip x.2) := by
  cases a <;> simp only [storeA] <;> first | rfl | skip
  · rw [strip_get]
    rename_i n off
    cases hb : H[n]? with
    | none => rfl
    | some b => cases b <;> simp [stripB, strip_set]
  · rename_i s k
    cases s <;> simp only [storeA] <;> first | rfl | skip
    rename_i n o len z
    rw [strip_get]
    cases hb : H[n]? with
    | none => rfl
    | some b => cases b <;> simp [stripB, strip_set]

theorem srcCells_strip (H : AHeap) (a : AVal) : srcCells (strip H) a = srcCells H a := by
  cases a <;> first | rfl | (simp only [srcCells]; exact view_strip H _)

theorem appendA_strip (H : AHeap) (el sz bytes : Nat) (s x : AVal) : appendA (strip H) el sz bytes s x = (appendA H el sz bytes s x).map fun y => (y.1, y.2.1, strip y.2.2) := by
  simp only [appendA, srcCells_strip]
  cases srcLen x with
  | none => rfl
  | some n =>
    cases srcCells H x with
    | none => rfl
    | some xs =>
      cases s <;> simp only [strip_len] <;> first | rfl | skip
      · simp [strip_push, stripB]
      · rename_i m off len z
        rw [strip_get]
        cases hb : H[m]? with
        | none => rfl
        | some b => cases b <;> simp [stripB, strip_set, strip_push]

theorem evalOp_strip (g : AOpd → AVal) (H : AHeap) (op : AOp) : evalOp g (strip H) op = (evalOp g H op).strip := by
  cases op with
  | load agg a =>
    simp only [evalOp, loadA_strip]
    cases loadA H agg (g a) with
    | none => rfl
    | some x => rfl
  | store sz a v =>
    simp only [evalOp, storeA_strip]
    cases storeA H sz (g a) (g v) with
    | none => rfl
    | some x => rfl
  | append el sz bytes s x =>
    simp only [evalOp, appendA_strip]
    cases appendA H el sz bytes (g s) (g x) with
    | none => rfl
    | some x => rfl
  | alloc el z => simp [evalOp, Res.strip, strip_push, strip_len, stripB]
  | box el x => simp [evalOp, Res.strip, strip_push, strip_len, stripB]
  | lit el sz len z ps =>
    simp only [evalOp]
    cases fillParts g z ps with
    | none => rfl
    | some cs => simp [Res.strip, strip_push, strip_len, stripB]
  | mkmap => simp [evalOp, Res.strip, strip_push, strip_len, stripB]
  | b2s x =>
    simp only [evalOp, view_strip]
    cases slen (g x) <;> cases view H (g x) <;> simp only [] <;> first | rfl | skip
    rename_i n cs
    cases b2sA cs .empty <;> rfl
  | mkslice el sz bytes z l c =>
    simp only [evalOp]
    split <;> simp [Res.strip, strip_push, strip_len, stripB]
  | lookup kk z ok m k =>
    simp only [evalOp]
    cases g m <;> simp only [] <;> first | rfl | skip
    rw [strip_get]
    rename_i n
    cases hb : H[n]? with
    | none => rfl
    | some b => cases b <;> rfl
  | mapset kk m k v =>
    simp only [evalOp]
    cases g m <;> simp only [] <;> first | rfl | skip
    rw [strip_get]
    rename_i n
    cases hb : H[n]? with
    | none => rfl
    | some b => cases b <;> simp [Res.strip, stripB, strip_set]
  | mapdel kk m k =>
    simp only [evalOp]
    cases g m <;> simp only [] <;> first | rfl | skip
    rw [strip_get]
    rename_i n
    cases hb : H[n]? with
    | none => rfl
    | some b => cases b <;> simp [Res.strip, stripB, strip_set]
  | len k x =>
    cases k <;> simp only [evalOp]
    · cases slen (g x) <;> rfl
    · cases g x <;> rfl
    · cases g x <;> simp only [] <;> first | rfl | skip
      rw [strip_get]
      rename_i n
      cases hb : H[n]? with
      | none => rfl
      | some b => cases b <;> rfl
  | idx sz arr x i =>
    cases arr with
    | none =>
      rw [evalOp_idxS, evalOp_idxS]
      cases g i <;> simp only [idxS] <;> first | rfl | skip
      cases slen (g x) <;> simp only [idxS2, view_strip] <;> rfl
    | some n =>
      rw [evalOp_idxA, evalOp_idxA]
      cases g i <;> cases g x <;> rfl
  | slice sz k x lo hi mx =>
    simp only [evalOp]
    split
    rotate_left
    · rfl
    cases k with
    | slice => simp only []; split <;> rfl
    | string => simp only []; split <;> rfl
    | array n =>
      simp only []
      cases g x <;> simp only [] <;> first | rfl | skip
      rw [strip_get]
      rename_i b o
      cases hb : H[b]? with
      | none => rfl
      | some c => cases c <;> rfl
  | toArr n x =>
    simp only [evalOp, view_strip]
    split <;> rfl
  | mov x => rfl
  | pick c a b => simp only [evalOp]; split <;> rfl
  | build z ps => simp only [evalOp]; split <;> rfl
  | bin op x y => simp only [evalOp]; split <;> rfl
  | eq neg k x y => simp only [evalOp]; split <;> rfl
  | un op x => simp only [evalOp]; split <;> rfl
  | conv k x => simp only [evalOp]; split <;> rfl
  | nilc x => simp only [evalOp]; split <;> rfl
  | field off x => simp only [evalOp]; split <;> rfl
  | sidx x i => simp only [evalOp]; split <;> rfl
  | maxmin m x y => simp only [evalOp]; split <;> rfl
  | extract x i => simp only [evalOp]; split <;> rfl
  | mkfn f a b => rfl
  | minN xs => simp only [evalOp]; split <;> rfl
  | s2b x => simp only [evalOp]; split <;> rfl
  | mark x =>
    simp only [evalOp]
    cases g x <;> simp only [markA] <;> first | rfl | skip
    rename_i n off len z
    rw [strip_get]
    cases hb : H[n]? with
    | none => rfl
    | some b => cases b <;> simp [Res.strip, stripB, strip_set]
  | call f args => rfl

/-- No operation makes a loop's record. -/
theorem evalOp_loops {g : AOpd → AVal} {H : AHeap} {op : AOp} {p : Prop} {v : AVal} {H' : AHeap} (h : evalOp g H op = .ok p v H') (n : Nat) (L : ALoop) (hn : H'[n]? = some (.loop L)) : H[n]? = some (.loop L) := by
  have push : ∀ {X : AHeap} {b : ABlk}, (∀ l, b ≠ .loop l) → (X ++ [b])[n]? = some (.loop L) → X[n]? = some (.loop L) := fun {H b} hb h => by
    by_cases hlt : n < H.length
    · rwa [List.getElem?_append_left hlt] at h
    · rw [List.getElem?_append_right (by omega)] at h
      by_cases h0 : n - H.length = 0
      · rw [h0] at h; simp at h; exact absurd h (hb L)
      · rw [List.getElem?_eq_none (by simp; omega)] at h; cases h
  have set : ∀ {m : Nat} {b : ABlk}, (∀ l, b ≠ .loop l) → (H.set m b)[n]? = some (.loop L) → H[n]? = some (.loop L) := fun {m b} hb h => by
    by_cases hm : m = n
    · subst hm
      have hlt := (List.getElem?_eq_some_iff.1 h).1
      simp only [List.length_set] at hlt
      rw [List.getElem?_set_self hlt] at h
      exact absurd (Option.some.inj h) (hb L)
    · rwa [List.getElem?_set_ne hm] at h
  cases op with
  | store sz a v =>
    simp only [evalOp] at h
    cases hs : storeA H sz (g a) (g v) with
    | none => rw [hs] at h; cases h
    | some x =>
      rw [hs] at h
      simp only [Res.ok.injEq] at h
      obtain ⟨_, _, rfl⟩ := h
      unfold storeA at hs
      split at hs
      · split at hs <;> first | (cases hs; done) | (cases hs; exact set (by simp) hn)
      · split at hs <;> first | (cases hs; done) | (cases hs; exact set (by simp) hn)
      · cases hs
  | append el sz bytes s x =>
    simp only [evalOp] at h
    cases hs : appendA H el sz bytes (g s) (g x) with
    | none => rw [hs] at h; cases h
    | some y =>
      rw [hs] at h
      simp only [Res.ok.injEq] at h
      obtain ⟨_, _, rfl⟩ := h
      unfold appendA at hs
      split at hs
      rotate_left
      · cases hs
      split at hs
      · cases hs; exact push (by simp) hn
      · split at hs
        · cases hs; exact set (by simp) (push (by simp) hn)
        · cases hs; exact push (by simp) hn
        · cases hs
      · cases hs
  | alloc el z => simp only [evalOp, Res.ok.injEq] at h; obtain ⟨_, _, rfl⟩ := h; exact push (by simp) hn
  | box el x => simp only [evalOp, Res.ok.injEq] at h; obtain ⟨_, _, rfl⟩ := h; exact push (by simp) hn
  | lit el sz len z ps =>
    simp only [evalOp] at h
    split at h
    · simp only [Res.ok.injEq] at h; obtain ⟨_, _, rfl⟩ := h; exact push (by simp) hn
    · cases h
  | mkmap => simp only [evalOp, Res.ok.injEq] at h; obtain ⟨_, _, rfl⟩ := h; exact push (by simp) hn
  | mark x =>
    simp only [evalOp] at h
    cases hs : markA H (g x) with
    | none => rw [hs] at h; cases h
    | some y =>
      rw [hs] at h
      simp only [Res.ok.injEq] at h
      obtain ⟨_, _, rfl⟩ := h
      unfold markA at hs
      split at hs <;> first | (cases hs; done) | skip
      split at hs <;> first | (cases hs; done) | skip
      cases hs
      exact set (by simp) hn
  | mkslice el sz bytes z l c =>
    simp only [evalOp] at h
    split at h
    · simp only [Res.ok.injEq] at h; obtain ⟨_, _, rfl⟩ := h; exact push (by simp) hn
    · cases h
  | mapset kk m k v =>
    simp only [evalOp] at h
    split at h
    rotate_left
    · cases h
    split at h
    · simp only [Res.ok.injEq] at h; obtain ⟨_, _, rfl⟩ := h; exact set (by simp) hn
    · cases h
  | mapdel kk m k =>
    simp only [evalOp] at h
    split at h
    rotate_left
    · cases h
    split at h
    · simp only [Res.ok.injEq] at h; obtain ⟨_, _, rfl⟩ := h; exact set (by simp) hn
    · cases h
  | call f args => cases h
  | _ =>
    have : H' = H := eval_noneff (by rfl) h
    rw [this] at hn; exact hn

/-! ### The same values -/

mutual
def aeq : AVal → AVal → Bool
  | .bool a, .bool b => decide (a = b)
  | .int k a, .int k' b => decide (k = k') && decide (a = b)
  | .str a, .str b => decide (a = b)
  | .nilp, .nilp => true
  | .nils, .nils => true
  | .nilf, .nilf => true
  | .nilm, .nilm => true
  | .ptr n o, .ptr m o' => decide (n = m) && decide (o = o')
  | .slc n o l z, .slc n' o' l' z' => decide (n = n') && decide (o = o') && decide (l = l') && decide (z = z')
  | .imm cs n t, .imm cs' n' t' => aeqs cs cs' && decide (n = n') && decide (t = t')
  | .mapv n, .mapv m => decide (n = m)
  | .agg cs, .agg cs' => aeqs cs cs'
  | .tup cs, .tup cs' => aeqs cs cs'
  | .sptr s o, .sptr s' o' => aeq s s' && decide (o = o')
  | .yld n, .yld m => decide (n = m)
  | .fn f x y, .fn f' x' y' => decide (f = f') && aeqs x x' && aeqs y y'
  | _, _ => false
def aeqs : List AVal → List AVal → Bool
  | [], [] => true
  | a :: as, b :: bs => aeq a b && aeqs as bs
  | _, _ => false
end

mutual
theorem aeq_ok : ∀ {a b : AVal}, aeq a b = true → a = b
  | .bool a, b, h => by cases b <;> simp [aeq] at h; subst h; rfl
  | .int k a, b, h => by cases b <;> simp [aeq] at h; obtain ⟨rfl, rfl⟩ := h; rfl
  | .str a, b, h => by cases b <;> simp [aeq] at h; subst h; rfl
  | .nilp, b, h => by cases b <;> simp [aeq] at h; rfl
  | .nils, b, h => by cases b <;> simp [aeq] at h; rfl
  | .nilf, b, h => by cases b <;> simp [aeq] at h; rfl
  | .nilm, b, h => by cases b <;> simp [aeq] at h; rfl
  | .ptr n o, b, h => by cases b <;> simp [aeq] at h; obtain ⟨rfl, rfl⟩ := h; rfl
  | .slc n o l z, b, h => by cases b <;> simp [aeq] at h; obtain ⟨⟨⟨rfl, rfl⟩, rfl⟩, rfl⟩ := h; rfl
  | .imm cs n t, b, h => by
    cases b <;> simp [aeq] at h
    obtain ⟨⟨h1, rfl⟩, rfl⟩ := h
    rw [aeqs_ok h1]
  | .mapv n, b, h => by cases b <;> simp [aeq] at h; subst h; rfl
  | .agg cs, b, h => by
    cases b <;> simp [aeq] at h
    rw [aeqs_ok h]
  | .tup cs, b, h => by
    cases b <;> simp [aeq] at h
    rw [aeqs_ok h]
  | .sptr s o, b, h => by
    cases b <;> simp [aeq] at h
    obtain ⟨h1, rfl⟩ := h
    rw [aeq_ok h1]
  | .junk, b, h => by cases b <;> simp [aeq] at h
  | .fn f x y, b, h => by
    cases b <;> simp [aeq] at h
    obtain ⟨⟨rfl, h1⟩, h2⟩ := h
    rw [aeqs_ok h1, aeqs_ok h2]
  | .yld n, b, h => by cases b <;> simp [aeq] at h; subst h; rfl
theorem aeqs_ok : ∀ {a b : List AVal}, aeqs a b = true → a = b
  | [], [], _ => rfl
  | [], _ :: _, h => by simp [aeqs] at h
  | _ :: _, [], h => by simp [aeqs] at h
  | a :: as, b :: bs, h => by
    simp [aeqs] at h
    rw [aeq_ok h.1, aeqs_ok h.2]
end

end Go.Am

namespace Go.Am
open Go
set_option linter.unusedVariables false

/-! ### The reckoner -/

def forceN {α : Type} (n : Nat) (k : Nat → α) : α := match n with
  | 0 => k 0
  | m + 1 => k (m + 1)
def forceI {α : Type} (n : Int) (k : Int → α) : α := match n with
  | .ofNat m => forceN m fun m => k (.ofNat m)
  | .negSucc m => forceN m fun m => k (.negSucc m)
def forceV {α : Type} (v : AVal) (k : AVal → α) : α := match v with
  | .int kd n => forceI n fun n => k (.int kd n)
  | .bool b => (match b with | true => k (.bool true) | false => k (.bool false))
  | .ptr n o => forceN n fun n => forceN o fun o => k (.ptr n o)
  | .slc n o l z => forceN n fun n => forceN o fun o => forceN l fun l => k (.slc n o l z)
  | .mapv n => forceN n fun n => k (.mapv n)
  | v => k v
def forceL {α β : Type} : List β → (List β → α) → α
  | [], k => k []
  | b :: l, k => forceL l fun l => k (b :: l)
def forceB {α : Type} (b : ABlk) (k : ABlk → α) : α := match b with
  | .cells cs el => forceL cs fun cs => k (.cells cs el)
  | .vec cs el z => forceL cs fun cs => k (.vec cs el z)
  | b => k b
def forceH {α : Type} : AHeap → (AHeap → α) → α
  | [], k => k []
  | b :: l, k => forceB b fun b => forceH l fun l => k (b :: l)

theorem forceN_eq {α : Type} (n : Nat) (k : Nat → α) : forceN n k = k n := by cases n <;> rfl
theorem forceI_eq {α : Type} (n : Int) (k : Int → α) : forceI n k = k n := by cases n <;> simp [forceI, forceN_eq]
theorem forceV_eq {α : Type} (v : AVal) (k : AVal → α) : forceV v k = k v := by
  cases v <;> simp only [forceV, forceI_eq, forceN_eq]
  rename_i b
  cases b <;> rfl
theorem forceL_eq {α β : Type} : ∀ (l : List β) (k : List β → α), forceL l k = k l
  | [], k => rfl
  | b :: l, k => by simp only [forceL, forceL_eq l]
theorem forceB_eq {α : Type} (b : ABlk) (k : ABlk → α) : forceB b k = k b := by
  cases b <;> simp only [forceB, forceL_eq]
theorem forceH_eq {α : Type} : ∀ (H : AHeap) (k : AHeap → α), forceH H k = k H
  | [], k => rfl
  | b :: l, k => by simp only [forceH, forceB_eq, forceH_eq l]

def evalX (g : AOpd → AVal) (H : AHeap) (op : AOp) : Option (AVal × AHeap) := match evalOp g H op with
  | .ok _ v H' => if okP g H op then some (v, H') else none
  | .bad => none

theorem evalX_ok {g : AOpd → AVal} {H : AHeap} {op : AOp} {v : AVal} {H1 : AHeap} (h : evalX g (strip H) op = some (v, H1)) : ∃ p H', evalOp g H op = .ok p v H' ∧ p ∧ strip H' = H1 := by
  unfold evalX at h
  cases he : evalOp g (strip H) op with
  | bad => rw [he] at h; cases h
  | ok p v' H'' =>
    rw [he] at h
    simp only at h
    split at h
    · rename_i hp
      cases h
      have hpp := okP_ok he hp
      rw [evalOp_strip] at he
      cases he2 : evalOp g H op with
      | bad => rw [he2] at he; cases he
      | ok q u H3 =>
        rw [he2] at he
        simp only [Res.strip, Res.ok.injEq] at he
        obtain ⟨rfl, rfl, rfl⟩ := he
        exact ⟨q, H3, rfl, hpp, rfl⟩
    · cases h

abbrev YT := List (Nat × ACode × ACode)
def findY (n : Nat) : YT → Option (ACode × ACode)
  | [] => none
  | p :: Y => if p.1 = n then some p.2 else findY n Y

abbrev CT := List (FuncId × AFun)
def findC (f : FuncId) : CT → Option AFun
  | [] => none
  | p :: C => if p.1 = f then some p.2 else findC f C
/-! Functions that are told, not run. -/

inductive NKind where
  | del
  | clone
/-- The sign of such a function. -/
def natF : NKind → AFun
  | .del => ⟨0, 3, [], .range (.const .junk) [] .skip .skip⟩
  | .clone => ⟨1, 1, [], .range (.const .junk) [] .skip .skip⟩
def natOf (a : AFun) : Option NKind := match a.body with
  | .range (.const .junk) [] .skip .skip => if a.nt = 0 then some .del else some .clone
  | _ => none
def natX : NKind → List AVal → AHeap → Option (AVal × AHeap)
  | .del, [.slc n o l z, .int .i64 i, .int .i64 j], H => (match H[n]? with
    | some (.vec cs el z') => if decide (o = 0) && decide (z = 1) && decide (z' = 1) && decide (cs.length = l) && cs.all (fun c => match c with | .int .u32 _ => true | _ => false) && decide (0 ≤ i) && decide (i < j) && decide (j ≤ l) && decide (l ≤ 9223372036854775807) then
        some (.slc H.length 0 (l - (j.toNat - i.toNat)) 1, H.set n .dead ++ [.vec (cs.take i.toNat ++ cs.drop j.toNat) el 1]) else none
    | _ => none)
  | .clone, [.mapv n], H => (match H[n]? with
    | some (.map es) => some (.mapv H.length, H ++ [.map es])
    | _ => none)
  | _, _, _ => none
def NatOk (P : Program) (f : FuncId) (k : NKind) : Prop := ∀ args H v H1, natX k args H = some (v, H1) → ∀ Q : AVal → AHeap → Prop, Q v H1 → FunOK P f args H Q

theorem natX_strip {k : NKind} {args : List AVal} {H : AHeap} {v : AVal} {H1 : AHeap} (h : natX k args (strip H) = some (v, H1)) : ∃ H', natX k args H = some (v, H') ∧ strip H' = H1 ∧ ∀ (n : Nat) (L : ALoop), H'[n]? = some (ABlk.loop L) → H[n]? = some (ABlk.loop L) := by
  unfold natX at h
  split at h
  · rename_i n o l z i j
    rw [strip_get] at h
    cases hb : H[n]? with
    | none => simp [hb] at h
    | some b =>
      cases b <;> simp only [hb, Option.map_some, stripB] at h <;> first | (cases h; done) | skip
      rename_i cs el z'
      split at h
      · rename_i hc
        cases h
        refine ⟨_, by simp only [natX, hb, strip_len]; rw [if_pos hc], by rw [strip_push, strip_set]; rfl, fun m L hL => ?_⟩
        rw [List.getElem?_append] at hL
        split at hL
        · rw [List.getElem?_set] at hL
          split at hL
          · split at hL <;> cases hL
          · exact hL
        · rw [List.getElem?_singleton] at hL
          split at hL <;> cases hL
      · cases h
  · rename_i n
    rw [strip_get] at h
    cases hb : H[n]? with
    | none => simp [hb] at h
    | some b =>
      cases b <;> simp only [hb, Option.map_some, stripB] at h <;> first | (cases h; done) | skip
      cases h
      refine ⟨_, by simp only [natX, hb, strip_len]; rfl, by rw [strip_push]; rfl, fun m L hL => ?_⟩
      rw [List.getElem?_append] at hL
      split at hL
      · exact hL
      · rw [List.getElem?_singleton] at hL
        split at hL <;> cases hL
  · cases h

def AllOk (P : Program) : CT → Prop
  | [] => True
  | p :: C => (match natOf p.2 with | none => okFun P p.1 p.2 = true | some k => NatOk P p.1 k) ∧ AllOk P C
theorem findC_ok {P : Program} {f : FuncId} {a : AFun} : ∀ {C : CT}, AllOk P C → findC f C = some a → (match natOf a with | none => okFun P f a = true | some k => NatOk P f k)
  | [], _, h => by cases h
  | p :: C, hc, h => by
    simp only [findC] at h
    split at h
    · cases h; subst_vars; exact hc.1
    · exact findC_ok hc.2 h

abbrev XLog := List (Nat × Regs × AOp × AVal)
def findL (n : Nat) : XLog → Option (Regs × AOp × AVal)
  | [] => none
  | p :: l => if p.1 = n then some p.2 else findL n l
def logP : XLog → Log
  | [] => []
  | (j, r, op, v) :: l => (j, Again r op v) :: logP l

inductive XM where
  | fn (f : FuncId) (args : List AVal)
  | todo (c : Ctx) (k : List AItem) (r : Regs)
  | ops (c : Ctx) (os : List AOper) (live : List Nat) (k : List AItem) (r : Regs)
  | draw (c : Ctx) (d : DS) (is : List Nat) (log : XLog) (r : Regs)
  | call (fv : AVal) (args : List AVal)

def recheckX (e : Nat) (log : XLog) (H : AHeap) : List (Nat × Nat) → Bool
  | [] => true
  | (e', j) :: chk => (!(e' == e) || (match findL j log with
    | none => true
    | some (r, op, v) => !isEff op && (match evalX (geto r) H op with
      | some (v', _) => aeq v' v
      | none => false))) && recheckX e log H chk

def resX (H : AHeap) (r : Regs) : List ARes → Option (List AVal)
  | [] => some []
  | .tmp t :: as => (match resX H r as with | some vs => some (rget r t :: vs) | none => none)
  | .cell t agg :: as => (match cellsAt H (rget r t), agg, resX H r as with
    | some cs, some n, some vs => if n ≤ cs.length then some (.agg (cs.take n) :: vs) else none
    | some cs, none, some vs => if 0 < cs.length then some (cs.headD .junk :: vs) else none
    | _, _, _ => none)

theorem resX_ok {H : AHeap} {r : Regs} : ∀ {as : List ARes} {vs : List AVal}, resX (strip H) r as = some vs → ∃ p, resA H r as = some (p, vs) ∧ p
  | [], vs, h => by simp only [resX, Option.some.injEq] at h; subst h; exact ⟨True, rfl, trivial⟩
  | .tmp t :: as, vs, h => by
    simp only [resX] at h
    cases hr : resX (strip H) r as with
    | none => rw [hr] at h; cases h
    | some vs' =>
      rw [hr] at h
      cases h
      obtain ⟨p, h1, h2⟩ := resX_ok hr
      exact ⟨True ∧ p, by simp only [resA, resOne, h1], trivial, h2⟩
  | .cell t agg :: as, vs, h => by
    simp only [resX, cellsAt_strip] at h
    cases hc : cellsAt H (rget r t) with
    | none => simp [hc] at h
    | some cs =>
      cases hr : resX (strip H) r as with
      | none => cases agg <;> simp [hc, hr] at h
      | some vs' =>
        obtain ⟨p, h1, h2⟩ := resX_ok hr
        cases agg with
        | none =>
          simp only [hc, hr] at h
          split at h
          · cases h; exact ⟨(0 < cs.length) ∧ p, by simp only [resA, resOne, loadA, hc, h1], ‹_›, h2⟩
          · cases h
        | some n =>
          simp only [hc, hr] at h
          split at h
          · cases h; exact ⟨(n ≤ cs.length) ∧ p, by simp only [resA, resOne, loadA, hc, h1], ‹_›, h2⟩
          · cases h

def loopAt (rd : Option Nat) (H : AHeap) : Bool := match rd with
  | none => true
  | some m => (match H[m]? with | some (.loop _) => true | _ => false)

def isReady : LoopState → Bool | .ready => true | _ => false
def isBusy : LoopState → Bool | .busy => true | _ => false

def ex (C : CT) : Nat → YT → XM → AHeap → Option (AVal × AHeap)
  | 0, _, _, _ => none
  | n + 1, Y, .fn f args, H => (match findC f C with
    | some a => (match natOf a with
      | none => if args.length = a.np then ex C n Y (.todo ⟨f, a.nt, a.res, none⟩ [.code a.body] (argRegs 0 args)) H else none
      | some k => natX k args H)
    | none => none)
  | n + 1, Y, .call fv args, H => (match fv with
    | .fn f first captured => ex C n Y (.fn f (first ++ args ++ captured)) H
    | .yld m => (match findY m Y, H[m]? with
      | some (as, bd), some (.loop L) => if isReady L.state && decide (args.length = L.params.length) then ex C n Y (.todo ⟨L.fn, L.nt, [], some m⟩ [.code as, .begin, .code bd] ((L.params.zip args).reverse ++ L.regs)) H else none
      | _, _ => none)
    | _ => none)
  | n + 1, Y, .ops c [] live k r, H => ex C n Y (.todo c k (prune live r)) H
  | n + 1, Y, .ops c (o :: os) live k r, H => (match wants r o.guard with
    | some false => ex C n Y (.ops c os live k (rput o.dst (.tup []) r)) H
    | some true => (match o.op with
      | .call f args => (match ex C n Y (.call (geto r f) (args.map (geto r))) H with
        | some (v, H') => forceV v fun v => ex C n Y (.ops c os live k (rput o.dst v r)) H'
        | none => none)
      | op => (match evalX (geto r) H op with
        | some (v, H') => forceV v fun v => if isEff op then forceH H' fun H' => ex C n Y (.ops c os live k (rput o.dst v r)) H' else ex C n Y (.ops c os live k (rput o.dst v r)) H'
        | none => none))
    | none => none)
  | n + 1, Y, .draw c d [] log r, H => ex C n Y (.todo c d.k (prune d.live r)) H
  | n + 1, Y, .draw c d (i :: is) log r, H => (match d.as[i]? with
    | some o => (match wants r o.guard with
      | some false => ex C n Y (.draw c d is log (rput o.dst (.tup []) r)) H
      | some true => (match o.op with
        | .call f args => (match ex C n Y (.call (geto r f) (args.map (geto r))) H with
          | some (v, H') => forceV v fun v => if recheckX i log H' d.chk then ex C n Y (.draw c d is log (rput o.dst v r)) H' else none
          | none => none)
        | op => (match evalX (geto r) H op with
          | some (v, H') => forceV v fun v => if !isEff op || recheckX i log H' d.chk then ex C n Y (.draw c d is (if isEff op then log else if d.chk.any (fun q => q.2 == i) then (i, r, op, v) :: log else log) (rput o.dst v r)) H' else none
          | none => none))
      | none => none)
    | none => none)
  | n + 1, Y, .todo c [] r, H => (match c.rd with
    | none => (match resX H r c.res with
      | some vs => some (pack vs, H)
      | none => none)
    | some m => (match H[m]? with
      | some (.loop L) => some (.bool true, H.set m (.loop { L with state := .ready, pending := none }))
      | _ => none))
  | n + 1, Y, .todo c (.inBlock _ :: k) r, H => ex C n Y (.todo c k r) H
  | n + 1, Y, .todo c (.inScope :: k) r, H => ex C n Y (.todo c k r) H
  | n + 1, Y, .todo c (.inLoop b :: k) r, H => ex C n Y (.todo c (.code b :: .inLoop b :: k) r) H
  | n + 1, Y, .todo c (.begin :: k) r, H => (match c.rd with
    | some m => (match H[m]? with
      | some (.loop L) => if isReady L.state then ex C n Y (.todo c k r) (H.set m (.loop { L with state := .busy })) else none
      | _ => none)
    | none => none)
  | n + 1, Y, .todo c (.code a :: k) r, H => (match a with
    | .skip => ex C n Y (.todo c k r) H
    | .ret => (match c.rd with
      | none => (match resX H r c.res with
        | some vs => some (pack vs, H)
        | none => none)
      | some m => (match H[m]? with
        | some (.loop L) => some (.bool false, H.set m (.loop { L with state := .done, pending := some .ret }))
        | _ => none))
    | .region os live => ex C n Y (.ops c os live k r) H
    | .draw os bef [s] chk live => ex C n Y (.draw c ⟨os, chk, live, k⟩ s [] r) H
    | .draw _ _ _ _ _ => none
    | .seq a b => ex C n Y (.todo c (.code a :: .code b :: k) r) H
    | .cond x a b => (match geto r x with
      | .bool true => ex C n Y (.todo c (.code a :: k) r) H
      | .bool false => ex C n Y (.todo c (.code b :: k) r) H
      | _ => none)
    | .block id b => ex C n Y (.todo c (.code b :: .inBlock id :: k) r) H
    | .loop b => ex C n Y (.todo c (.code b :: .inLoop b :: k) r) H
    | .exit id => (match aexitTo id k with
      | some k1 => ex C n Y (.todo c k1 r) H
      | none => (match c.rd with
        | some m => (match H[m]? with
          | some (.loop L) => some (.bool false, H.set m (.loop { L with state := .done, pending := some (.exit id) }))
          | _ => none)
        | none => none))
    | .scope b => ex C n Y (.todo c (.code b :: .inScope :: k) r) H
    | .range f ps as bd => (match geto r f with
      | .fn g first captured => if !loopAt c.rd H then none else forceN H.length fun l => (match ex C n ((l, as, bd) :: Y) (.fn g (first ++ [.yld l] ++ captured)) (H ++ [.loop ⟨.ready, none, c.fn, c.nt, r, ps, .skip, .skip⟩]) with
        | some (_, H') => (match H'[l]? with
          | some (.loop L) => if isBusy L.state then none else forceH (H'.set l .dead) fun H' => ex C n Y (.todo c (jumpItems L.pending ++ k) r) H'
          | _ => none)
        | none => none)
      | _ => none))

set_option linter.unusedVariables false

/-- The bodies of the loops that run. -/
def Yok (P : Program) (Y : YT) (H : AHeap) : Prop := ∀ n as bd, findY n Y = some (as, bd) → ∀ L, H[n]? = some (.loop L) → okCode P L.nt L.assign as = true ∧ okCode P L.nt L.body bd = true ∧ ∀ p ∈ L.params, p < L.nt

def SemX (P : Program) (Q : AVal → AHeap → Prop) : XM → AHeap → Prop
  | .fn f args, H => FunOK P f args H Q
  | .call fv args, H => CallV P fv args H Q
  | .todo c k r, H => Run P c k r H Q
  | .ops c os live k r, H => RunL P c os live k [] r H Q
  | .draw c d is log r, H => RunD P c d.as d.chk d.live d.k [] Q is (logP log) r H

section
variable {P : Program}

theorem Yok.op {Y : YT} {H H' : AHeap} (h : Yok P Y H) {g : AOpd → AVal} {op : AOp} {p : Prop} {v : AVal} (he : evalOp g H op = .ok p v H') : Yok P Y H' := fun n as bd hf L hL => h n as bd hf L (evalOp_loops he n L hL)

theorem strip_loop {H : AHeap} {n : Nat} {Lx : ALoop} (h : (strip H)[n]? = some (.loop Lx)) : ∃ L, H[n]? = some (.loop L) ∧ Lx = { L with assign := .skip, body := .skip } := by
  rw [strip_get] at h
  cases hb : H[n]? with
  | none => rw [hb] at h; cases h
  | some b =>
    rw [hb] at h
    cases b <;> simp [stripB] at h
    exact ⟨_, rfl, h.symm⟩

theorem Yok.set {Y : YT} {H : AHeap} (h : Yok P Y H) {n : Nat} {L L' : ALoop} (hn : H[n]? = some (.loop L)) (h1 : L'.nt = L.nt) (h2 : L'.assign = L.assign) (h3 : L'.body = L.body) (h4 : L'.params = L.params) : Yok P Y (H.set n (.loop L')) := by
  intro m as bd hf M hM
  by_cases hm : n = m
  · subst hm
    rw [List.getElem?_set_self (List.getElem?_eq_some_iff.1 hn).1] at hM
    cases hM
    rw [h1, h2, h3, h4]
    exact h n as bd hf L hn
  · rw [List.getElem?_set_ne hm] at hM
    exact h m as bd hf M hM

theorem Yok.dead {Y : YT} {l : Nat} {x : ACode × ACode} {H : AHeap} (h : Yok P ((l, x) :: Y) H) : Yok P Y (H.set l .dead) := by
  intro m as bd hf M hM
  by_cases hm : l = m
  · subst hm
    have hlt := (List.getElem?_eq_some_iff.1 hM).1
    simp only [List.length_set] at hlt
    rw [List.getElem?_set_self hlt] at hM
    cases hM
  · rw [List.getElem?_set_ne hm] at hM
    exact h m as bd (by simp only [findY, if_neg hm]; exact hf) M hM

theorem isReady_ok {s : LoopState} (h : isReady s = true) : s = .ready := by cases s <;> simp [isReady] at h; rfl
theorem isBusy_no {s : LoopState} (h : isBusy s = false) : s ≠ .busy := by rintro rfl; simp [isBusy] at h

theorem logAt_logP {j : Nat} : ∀ {log : XLog}, logAt (logP log) j = (findL j log).map fun x => Again x.1 x.2.1 x.2.2
  | [] => rfl
  | (i, r, op, v) :: l => by
    simp only [logP, logAt, findL]
    split
    · rfl
    · exact logAt_logP

theorem recheckX_ok {e : Nat} {log : XLog} {H : AHeap} : ∀ {chk : List (Nat × Nat)}, recheckX e log (strip H) chk = true → recheck e (logP log) H chk
  | [], _ => trivial
  | (e', j) :: chk, h => by
    simp only [recheckX, Bool.and_eq_true, Bool.or_eq_true, Bool.not_eq_true', beq_eq_false_iff_ne] at h
    refine ⟨fun he => ?_, recheckX_ok h.2⟩
    rcases h.1 with h1 | h1
    · exact absurd he h1
    · rw [logAt_logP]
      cases hf : findL j log with
      | none => trivial
      | some x =>
        obtain ⟨r, op, v⟩ := x
        simp only [hf, Bool.and_eq_true, Bool.not_eq_true'] at h1
        simp only [Option.map_some, Option.getD_some]
        cases hx : evalX (geto r) (strip H) op with
        | none => rw [hx] at h1; exact absurd h1.2 (by simp)
        | some y =>
          obtain ⟨v', H1⟩ := y
          rw [hx] at h1
          obtain ⟨p, H', h2, h3, h4⟩ := evalX_ok hx
          have h5 := aeq_ok h1.2
          subst h5
          have h6 := eval_noneff h1.1 h2
          subst h6
          exact ⟨p, h2, h3⟩

theorem ex_ok {C : CT} (hC : AllOk P C) : ∀ (n : Nat) (Y : YT) (m : XM) (Hx : AHeap) (v : AVal) (H1 : AHeap), ex C n Y m Hx = some (v, H1) → ∀ (H : AHeap) (Q : AVal → AHeap → Prop), strip H = Hx → Yok P Y H → (∀ H', strip H' = H1 → Yok P Y H' → Q v H') → SemX P Q m H
  | 0, Y, m, Hx, v, H1, h, H, Q, hs, hY, hQ => by simp [ex] at h
  | n + 1, Y, m, Hx, v, H1, h, H, Q, hs, hY, hQ => by
    have ih := ex_ok hC n
    subst hs
    cases m with
    | fn f args =>
      simp only [ex] at h
      cases hf : findC f C with
      | none => rw [hf] at h; cases h
      | some a =>
        rw [hf] at h
        simp only at h
        have hok := findC_ok hC hf
        cases hk : natOf a with
        | none =>
          rw [hk] at h hok
          simp only at h
          split at h
          · rename_i hl
            exact fun_of_run hok hl (ih Y _ _ v H1 h H Q rfl hY hQ)
          · cases h
        | some k =>
          rw [hk] at h hok
          simp only at h
          obtain ⟨H', e1, e2, e3⟩ := natX_strip h
          exact hok _ _ _ _ e1 Q (hQ H' e2 fun n as bd hf L hL => hY n as bd hf L (e3 n L hL))
    | call fv args =>
      simp only [ex] at h
      cases fv <;> simp only at h <;> first | (cases h; done) | skip
      · exact ih Y _ _ v H1 h H Q rfl hY hQ
      · rename_i m
        cases hy : findY m Y with
        | none => rw [hy] at h; cases h
        | some x =>
          obtain ⟨as, bd⟩ := x
          cases hb : (strip H)[m]? with
          | none => rw [hy, hb] at h; cases h
          | some b =>
            rw [hy, hb] at h
            cases b <;> simp only at h <;> first | (cases h; done) | skip
            rename_i Lx
            obtain ⟨L, hL, rfl⟩ := strip_loop hb
            simp only [Bool.and_eq_true, decide_eq_true_eq] at h
            split at h
            rotate_left
            · cases h
            rename_i hc
            obtain ⟨y1, y2, y3⟩ := hY m as bd hy L hL
            exact ⟨L, hL, isReady_ok hc.1, hc.2, as, bd, y1, y2, y3, ih Y _ _ v H1 h H Q rfl hY hQ⟩
    | ops c os live k r =>
      cases os with
      | nil =>
        simp only [ex] at h
        have := ih Y _ _ v H1 h H Q rfl hY hQ
        refine runL_nil (live := live) ?_
        rw [List.append_nil]; exact this
      | cons o os =>
        simp only [ex] at h
        cases hw : wants r o.guard with
        | none => rw [hw] at h; cases h
        | some b =>
          rw [hw] at h
          cases b with
          | false => exact runO_skip hw (ih Y _ _ v H1 h H Q rfl hY hQ)
          | true =>
            simp only at h
            obtain ⟨dst, op, gd⟩ := o
            have key : (∀ f args, op ≠ .call f args) → (match evalX (geto r) (strip H) op with
                | some (v, H') => forceV v fun v => if isEff op then forceH H' fun H' => ex C n Y (.ops c os live k (rput dst v r)) H' else ex C n Y (.ops c os live k (rput dst v r)) H'
                | none => none) = some (v, H1) → SemX P Q (.ops c (⟨dst, op, gd⟩ :: os) live k r) H := by
              intro hop h
              cases hx : evalX (geto r) (strip H) op with
              | none => rw [hx] at h; cases h
              | some y =>
                obtain ⟨u, H2⟩ := y
                rw [hx] at h
                simp only [forceV_eq, forceH_eq, ite_self] at h
                obtain ⟨p, H', h1, h2, h3⟩ := evalX_ok hx
                subst h3
                exact runO_op hw h1 h2 (ih Y _ _ v H1 h H' Q rfl (hY.op h1) hQ)
            cases op with
            | call f args =>
              simp only at h
              cases hx : ex C n Y (.call (geto r f) (args.map (geto r))) (strip H) with
              | none => rw [hx] at h; cases h
              | some y =>
                obtain ⟨u, H2⟩ := y
                rw [hx] at h
                simp only [forceV_eq] at h
                exact runO_call rfl hw (ih Y _ _ u H2 hx H _ rfl hY fun H' hs hY' => ih Y _ _ v H1 h H' Q hs hY' hQ)
            | _ => exact key (by intro f args hh; simp at hh) h
    | draw c d is log r =>
      cases is with
      | nil =>
        simp only [ex] at h
        have := ih Y _ _ v H1 h H Q rfl hY hQ
        show Run P c (d.k ++ []) (prune d.live r) H Q
        rw [List.append_nil]; exact this
      | cons i is =>
        simp only [ex] at h
        cases ho : d.as[i]? with
        | none => rw [ho] at h; cases h
        | some o =>
          rw [ho] at h
          simp only at h
          cases hw : wants r o.guard with
          | none => rw [hw] at h; cases h
          | some b =>
            rw [hw] at h
            refine ⟨o, ho, b, hw, fun hb => ?_, fun hb => ?_⟩
            · subst hb
              exact ih Y _ _ v H1 h H Q rfl hY hQ
            · subst hb
              obtain ⟨dst, op, gd⟩ := o
              simp only at h
              have key : (match evalX (geto r) (strip H) op with
                  | some (v, H') => forceV v fun v => if !isEff op || recheckX i log H' d.chk then ex C n Y (.draw c d is (if isEff op then log else if d.chk.any (fun q => q.2 == i) then (i, r, op, v) :: log else log) (rput dst v r)) H' else none
                  | none => none) = some (v, H1) → ∃ p u H', evalOp (geto r) H op = .ok p u H' ∧ p ∧ (isEff op = true → recheck i (logP log) H' d.chk) ∧ RunD P c d.as d.chk d.live d.k [] Q is (if isEff op then logP log else logAdd d.chk i r op u (logP log)) (rput dst u r) H' := by
                intro h
                cases hx : evalX (geto r) (strip H) op with
                | none => rw [hx] at h; cases h
                | some y =>
                  obtain ⟨u, H2⟩ := y
                  rw [hx] at h
                  simp only [forceV_eq] at h
                  obtain ⟨p, H', h1, h2, h3⟩ := evalX_ok hx
                  subst h3
                  split at h
                  rotate_left
                  · cases h
                  rename_i hc
                  simp only [Bool.or_eq_true, Bool.not_eq_true'] at hc
                  refine ⟨p, u, H', h1, h2, fun he => ?_, ?_⟩
                  · rcases hc with hc | hc
                    · rw [he] at hc; cases hc
                    · exact recheckX_ok hc
                  · have := ih Y _ _ v H1 h H' Q rfl (hY.op h1) hQ
                    simp only [SemX] at this
                    cases he : isEff op with
                    | true => rw [he] at this; simpa using this
                    | false =>
                      rw [he] at this
                      simp only [Bool.false_eq_true, if_false] at this ⊢
                      unfold logAdd
                      split
                      · rename_i hca; rw [if_pos hca] at this; exact this
                      · rename_i hca; rw [if_neg hca] at this; exact this
              cases op with
              | call f args =>
                simp only at h ⊢
                cases hx : ex C n Y (.call (geto r f) (args.map (geto r))) (strip H) with
                | none => rw [hx] at h; cases h
                | some y =>
                  obtain ⟨u, H2⟩ := y
                  rw [hx] at h
                  simp only [forceV_eq] at h
                  split at h
                  rotate_left
                  · cases h
                  rename_i hc
                  refine ih Y _ _ u H2 hx H _ rfl hY fun H' hs hY' => ?_
                  subst hs
                  exact ⟨recheckX_ok hc, ih Y _ _ v H1 h H' Q rfl hY' hQ⟩
              | _ => exact key h
    | todo c k r =>
      cases k with
      | nil =>
        simp only [ex] at h
        cases hrd : c.rd with
        | none =>
          rw [hrd] at h
          simp only at h
          cases hr : resX (strip H) r c.res with
          | none => rw [hr] at h; cases h
          | some vs =>
            rw [hr] at h
            cases h
            obtain ⟨p, h1, h2⟩ := resX_ok hr
            exact run_end hrd h1 h2 (hQ H rfl hY)
        | some m =>
          rw [hrd] at h
          simp only at h
          cases hb : (strip H)[m]? with
          | none => rw [hb] at h; cases h
          | some b =>
            rw [hb] at h
            cases b <;> simp only at h <;> first | (cases h; done) | skip
            obtain ⟨L, hL, rfl⟩ := strip_loop hb
            cases h
            refine run_round (ap := none) hrd hL (hQ _ ?_ (hY.set hL rfl rfl rfl rfl)) (.inl ⟨rfl, rfl⟩)
            rw [strip_set]; rfl
      | cons x k =>
        cases x with
        | inBlock id => simp only [ex] at h; exact run_inBlock (ih Y _ _ v H1 h H Q rfl hY hQ)
        | inScope => simp only [ex] at h; exact run_inScope (ih Y _ _ v H1 h H Q rfl hY hQ)
        | inLoop b => simp only [ex] at h; exact run_inLoop (ih Y _ _ v H1 h H Q rfl hY hQ)
        | begin =>
          simp only [ex] at h
          cases hrd : c.rd with
          | none => rw [hrd] at h; cases h
          | some m =>
            rw [hrd] at h
            simp only at h
            cases hb : (strip H)[m]? with
            | none => rw [hb] at h; cases h
            | some b =>
              rw [hb] at h
              cases b <;> simp only at h <;> first | (cases h; done) | skip
              obtain ⟨L, hL, rfl⟩ := strip_loop hb
              simp only at h
              split at h
              rotate_left
              · cases h
              rename_i hc
              refine run_begin hrd hL (isReady_ok hc) (ih Y _ _ v H1 h _ Q ?_ (hY.set hL rfl rfl rfl rfl) hQ)
              rw [strip_set]; rfl
        | code a =>
          cases a with
          | skip => simp only [ex] at h; exact run_skip (ih Y _ _ v H1 h H Q rfl hY hQ)
          | ret =>
            simp only [ex] at h
            cases hrd : c.rd with
            | none =>
              rw [hrd] at h
              simp only at h
              cases hr : resX (strip H) r c.res with
              | none => rw [hr] at h; cases h
              | some vs =>
                rw [hr] at h
                cases h
                obtain ⟨p, h1, h2⟩ := resX_ok hr
                exact run_ret hrd h1 h2 (hQ H rfl hY)
            | some m =>
              rw [hrd] at h
              simp only at h
              cases hb : (strip H)[m]? with
              | none => rw [hb] at h; cases h
              | some b =>
                rw [hb] at h
                cases b <;> simp only at h <;> first | (cases h; done) | skip
                obtain ⟨L, hL, rfl⟩ := strip_loop hb
                cases h
                refine run_round (ap := some .ret) hrd hL (hQ _ ?_ (hY.set hL rfl rfl rfl rfl)) (.inr (.inl ⟨rfl, _, rfl⟩))
                rw [strip_set]; rfl
          | region os live =>
            simp only [ex] at h
            have := ih Y _ _ v H1 h H Q rfl hY hQ
            simp only [SemX, RunL, List.append_nil] at this
            exact run_region this
          | draw os bef ss chk live =>
            match ss, h with
            | [], h => simp [ex] at h
            | _ :: _ :: _, h => simp [ex] at h
            | [s], h =>
              simp only [ex] at h
              have := ih Y _ _ v H1 h H Q rfl hY hQ
              refine run_draw (K := fun r H => Run P c k (prune live r) H Q) (fun r H h => h) fun s' hs' => ?_
              simp only [List.mem_singleton] at hs'
              subst hs'
              simp only [SemX, RunD, List.append_nil] at this
              exact this
          | seq a b => simp only [ex] at h; exact run_seq (ih Y _ _ v H1 h H Q rfl hY hQ)
          | cond x a b =>
            simp only [ex] at h
            cases hv : geto r x <;> rw [hv] at h <;> first | (cases h; done) | skip
            rename_i t
            cases t
            · exact run_cond hv (ih Y _ _ v H1 h H Q rfl hY hQ)
            · exact run_cond hv (ih Y _ _ v H1 h H Q rfl hY hQ)
          | block id b => simp only [ex] at h; exact run_block (ih Y _ _ v H1 h H Q rfl hY hQ)
          | loop b => simp only [ex] at h; exact run_loop (ih Y _ _ v H1 h H Q rfl hY hQ)
          | exit id =>
            simp only [ex] at h
            cases hq : aexitTo id k with
            | some k1 => rw [hq] at h; exact run_exit hq (ih Y _ _ v H1 h H Q rfl hY hQ)
            | none =>
              rw [hq] at h
              simp only at h
              cases hrd : c.rd with
              | none => rw [hrd] at h; cases h
              | some m =>
                rw [hrd] at h
                simp only at h
                cases hb : (strip H)[m]? with
                | none => rw [hb] at h; cases h
                | some b =>
                  rw [hb] at h
                  cases b <;> simp only at h <;> first | (cases h; done) | skip
                  obtain ⟨L, hL, rfl⟩ := strip_loop hb
                  cases h
                  refine run_round (ap := some (.exit id)) hrd hL (hQ _ ?_ (hY.set hL rfl rfl rfl rfl)) (.inr (.inr ⟨id, _, rfl, rfl, hq⟩))
                  rw [strip_set]; rfl
          | scope b => simp only [ex] at h; exact run_scope (ih Y _ _ v H1 h H Q rfl hY hQ)
          | range f ps as bd =>
            simp only [ex] at h
            cases hv : geto r f <;> rw [hv] at h <;> simp only at h <;> first | (cases h; done) | skip
            rename_i g first captured
            split at h
            · cases h
            rename_i hla
            rw [forceN_eq, strip_len] at h
            cases hx : ex C n ((H.length, as, bd) :: Y) (.fn g (first ++ [.yld H.length] ++ captured)) (strip H ++ [.loop ⟨.ready, none, c.fn, c.nt, r, ps, .skip, .skip⟩]) with
            | none => rw [hx] at h; cases h
            | some y =>
              obtain ⟨u, H2⟩ := y
              rw [hx] at h
              simp only at h
              refine run_range hv (fun m hm => ?_) fun as' bd' h1 h2 h3 => ?_
              · simp only [Bool.not_eq_true', Bool.not_eq_false, loopAt, hm] at hla
                cases hb : (strip H)[m]? with
                | none => rw [hb] at hla; cases hla
                | some b =>
                  rw [hb] at hla
                  cases b <;> simp only [Bool.false_eq_true] at hla
                  obtain ⟨L, hL, _⟩ := strip_loop hb
                  exact ⟨L, hL⟩
              · refine ih _ _ _ u H2 hx _ _ (by rw [strip_push]; rfl) ?_ fun H' hs' hY' => ?_
                · intro m as2 bd2 hf L hL
                  simp only [findY] at hf
                  split at hf
                  · rename_i hm
                    cases hf
                    rw [← hm, List.getElem?_concat_length] at hL
                    cases hL
                    exact ⟨h1, h2, h3⟩
                  · rename_i hm
                    by_cases hlt : m < H.length
                    · rw [List.getElem?_append_left hlt] at hL
                      exact hY m as2 bd2 hf L hL
                    · rw [List.getElem?_eq_none (by simp; omega)] at hL; cases hL
                · subst hs'
                  cases hb : (strip H')[H.length]? with
                  | none => rw [hb] at h; cases h
                  | some b =>
                    rw [hb] at h
                    cases b <;> simp only at h <;> first | (cases h; done) | skip
                    obtain ⟨L, hL, rfl⟩ := strip_loop hb
                    split at h
                    · cases h
                    rename_i hc
                    rw [forceH_eq] at h
                    refine ⟨L, hL, isBusy_no (by simpa using hc), ih Y _ _ v H1 h _ Q ?_ hY'.dead hQ⟩
                    rw [strip_set]; rfl

end

end Go.Am

namespace Go.Am
open Go
set_option linter.unusedVariables false

mutual
def flat : AVal → Bool
  | .bool _ | .int _ _ | .str _ | .nilp | .nils | .nilf | .nilm => true
  | .agg cs => flats cs
  | .tup cs => flats cs
  | _ => false
def flats : List AVal → Bool
  | [] => true
  | c :: cs => flat c && flats cs
end

mutual
theorem flat_rel {e e' : Nm} : ∀ (a : AVal) (v : Value), flat a = true → VRel e a v → VRel e' a v
  | .bool b, _, _, h => by simpa [VRel] using h
  | .int k n, _, _, h => by simpa [VRel] using h
  | .str s, _, _, h => by simpa [VRel] using h
  | .nilp, _, _, h => by simpa [VRel] using h
  | .nils, _, _, h => by simpa [VRel] using h
  | .nilf, _, _, h => by simpa [VRel] using h
  | .nilm, _, _, h => by simpa [VRel] using h
  | .agg cs, v, hf, h => by
    simp only [VRel] at h ⊢
    obtain ⟨arr, h1, h2, h3⟩ := h
    exact ⟨arr, h1, h2, flats_rel cs _ hf h3⟩
  | .tup cs, v, hf, h => by
    simp only [VRel] at h ⊢
    obtain ⟨arr, h1, h2, h3⟩ := h
    exact ⟨arr, h1, h2, flats_rel cs _ hf h3⟩
  | .junk, _, hf, _ => by simp [flat] at hf
  | .ptr _ _, _, hf, _ => by simp [flat] at hf
  | .sptr _ _, _, hf, _ => by simp [flat] at hf
  | .slc _ _ _ _, _, hf, _ => by simp [flat] at hf
  | .imm _ _ _, _, hf, _ => by simp [flat] at hf
  | .mapv _, _, hf, _ => by simp [flat] at hf
  | .fn _ _ _, _, hf, _ => by simp [flat] at hf
  | .yld _, _, hf, _ => by simp [flat] at hf
theorem flats_rel {e e' : Nm} : ∀ (cs : List AVal) (g : Nat → Option Value), flats cs = true → VsRel e cs g → VsRel e' cs g
  | [], _, _, _ => by simp [VsRel]
  | c :: cs, g, hf, h => by
    simp only [flats, Bool.and_eq_true] at hf
    simp only [VsRel] at h ⊢
    obtain ⟨⟨v, h1, h2⟩, h3⟩ := h
    exact ⟨⟨v, h1, flat_rel c v hf.1 h2⟩, flats_rel cs _ hf.2 h3⟩
end

/-- What a function comes to in no heap at all, it comes to in any. -/
theorem fun_frame {P : Program} {f : FuncId} {args : List AVal} {v : AVal} (h : FunOK P f args [] fun av _ => av = v) (ha : flats args = true) (hv : flat v = true) (H : AHeap) (Q : AVal → AHeap → Prop) (hq : Q v H) : FunOK P f args H Q := by
  refine ⟨h.1, fun ρ vs w h1 h2 h3 cs => ?_⟩
  obtain ⟨av, H', ρ', u, w', fr, q1, q2, q3, q4, q5, q6, q7⟩ := h.2 (fun _ => none) vs w h1 (flats_rel _ _ ha h2) hrel_nil cs
  subst q1
  have hkeep : ∀ b, b < w.heap.size → w'.heap[b]? = w.heap[b]? := fun b hb => q7.keep b hb owned_nil
  have hx : Ext (nm ρ H w) (nm ρ H w') := {
    len := Nat.le_refl _
    name := fun n _ ha => ⟨ha, rfl⟩
    keep := fun b arr el fz hb ho => by
      have hb' : w.heap[b]? = some (.cells arr el fz) := hb
      exact ⟨(hkeep b (lt_of_some hb')).trans hb', ho⟩
    room := fun b r hr => by
      have hr' : room w.heap b = some r := hr
      show room w'.heap b = some r
      unfold room at hr' ⊢
      have hlt : b < w.heap.size := room_lt (by unfold room; exact hr')
      rw [hkeep b hlt]; exact hr' }
  refine ⟨av, H, ρ, u, w', fr, hq, q2, q3, q4, flat_rel _ _ hv q5, ?_, ?_⟩
  · exact hrel_of h3 hx (fun n c hc hl => .inl ⟨(List.getElem?_eq_some_iff.1 hc).1, hc, fun p hp => hkeep p (h3.lt ⟨n, alive_of hc hl, hp⟩)⟩) h3.inj
  · exact { size := q7.size, os := q7.os, tape := q7.tape, output := q7.output, len := Nat.le_refl _, name := fun n _ ha => ⟨ha, rfl⟩, keep := fun b hb _ => hkeep b hb, out := fun b hb ho => ho, room := fun b r hb hr => hx.room b r hr }

def exB (C : CT) (n : Nat) (f : FuncId) (args : List AVal) (v : AVal) : Bool := match ex C n [] (.fn f args) [] with
  | some (u, _) => aeq u v
  | none => false

theorem exB_ok {P : Program} {C : CT} (hC : AllOk P C) {n : Nat} {f : FuncId} {args : List AVal} {v : AVal} (h : exB C n f args v = true) : FunOK P f args [] fun av _ => av = v := by
  unfold exB at h
  cases hx : ex C n [] (.fn f args) [] with
  | none => rw [hx] at h; cases h
  | some y =>
    obtain ⟨u, H1⟩ := y
    rw [hx] at h
    have := aeq_ok h
    subst this
    exact ex_ok hC n [] _ _ _ _ hx [] _ rfl (fun m as bd hf => by simp [findY] at hf) fun _ _ _ => rfl

/-- A call without unknowns. -/
theorem fun_reck {P : Program} {C : CT} (hC : AllOk P C) (n : Nat) {f : FuncId} {args : List AVal} (v : AVal) (h : exB C n f args v = true) (ha : flats args = true) (hv : flat v = true) (H : AHeap) (Q : AVal → AHeap → Prop) (hq : Q v H) : FunOK P f args H Q :=
  fun_frame (exB_ok hC h) ha hv H Q hq

def exT (C : CT) (n : Nat) (c : Ctx) (k : List AItem) (r : Regs) (H : AHeap) (v : AVal) : Bool := match ex C n [] (.todo c k r) H with
  | some (u, _) => aeq u v
  | none => false

/-- The rest of a run, without unknowns. -/
theorem run_reck {P : Program} {C : CT} (hC : AllOk P C) (n : Nat) {c : Ctx} {k : List AItem} {r : Regs} {H : AHeap} {Q : AVal → AHeap → Prop} (v : AVal) (h : exT C n c k r (strip H) v = true) (hq : ∀ H', Q v H') : Run P c k r H Q := by
  unfold exT at h
  cases hx : ex C n [] (.todo c k r) (strip H) with
  | none => rw [hx] at h; cases h
  | some y =>
    obtain ⟨u, H1⟩ := y
    rw [hx] at h
    have := aeq_ok h
    subst this
    exact ex_ok hC n [] _ _ _ _ hx H Q rfl (fun m as bd hf => by simp [findY] at hf) fun H' _ _ => hq H'

def exK (C : CT) (n : Nat) (c : Ctx) (fv : AVal) (args : List AVal) (dst : Option Nat) (os : List AOper) (live : List Nat) (k : List AItem) (r : Regs) (H : AHeap) (v : AVal) : Bool := match ex C n [] (.call fv args) H with
  | some (a, H') => (match ex C n [] (.ops c os live k (rput dst a r)) H' with
    | some (u, _) => aeq u v
    | none => false)
  | none => false

theorem callK_reck {P : Program} {C : CT} (hC : AllOk P C) (n : Nat) {c : Ctx} {fv : AVal} {args : List AVal} {dst : Option Nat} {os : List AOper} {live : List Nat} {k : List AItem} {r : Regs} {H : AHeap} {Q : AVal → AHeap → Prop} (v : AVal) (h : exK C n c fv args dst os live k r (strip H) v = true) (hq : ∀ H', Q v H') : CallK P c fv args dst os live k [] r H Q := by
  unfold exK at h
  cases hx : ex C n [] (.call fv args) (strip H) with
  | none => rw [hx] at h; cases h
  | some y =>
    obtain ⟨a, H1⟩ := y
    rw [hx] at h
    simp only at h
    cases hx2 : ex C n [] (.ops c os live k (rput dst a r)) H1 with
    | none => rw [hx2] at h; cases h
    | some y2 =>
      obtain ⟨u, H2⟩ := y2
      rw [hx2] at h
      have := aeq_ok h
      subst this
      have hY : ∀ H, Yok P [] H := fun H m as bd hf => by simp [findY] at hf
      exact ex_ok hC n [] _ _ _ _ hx H _ rfl (hY _) fun H' hs _ => ex_ok hC n [] _ _ _ _ hx2 H' Q hs (hY _) fun H'' _ _ => hq H''

set_option linter.unusedVariables false

/-! ### Results with lists, reckoned -/

def mapO (f : AVal → Option AVal) : List AVal → Option (List AVal)
  | [] => some []
  | c :: cs => (match f c, mapO f cs with
    | some a, some as => some (a :: as)
    | _, _ => none)

theorem mapO_length {f : AVal → Option AVal} : ∀ {cs as : List AVal}, mapO f cs = some as → as.length = cs.length
  | [], as, h => by simp only [mapO, Option.some.injEq] at h; subst h; rfl
  | c :: cs, as, h => by
    simp only [mapO] at h
    cases h1 : f c with
    | none => rw [h1] at h; cases h
    | some a =>
      cases h2 : mapO f cs with
      | none => rw [h1, h2] at h; cases h
      | some bs =>
        rw [h1, h2] at h
        cases h
        simp [mapO_length h2]

def iceX : Nat → AHeap → AVal → Option AVal
  | 0, _, _ => none
  | d + 1, H, a => (match a with
    | .bool b => some (.bool b)
    | .int k n => some (.int k n)
    | .str s => some (.str s)
    | .nilp => some .nilp
    | .nils => some (.imm [] 0 false)
    | .nilf => some .nilf
    | .nilm => some .nilm
    | .agg cs => (mapO (iceX d H) cs).map .agg
    | .tup cs => (mapO (iceX d H) cs).map .tup
    | .slc m o n w => (match H[m]? with
      | some (.vec cs el w') => if o = 0 ∧ w' = w ∧ cs.length = n * w then (mapO (iceX d H) cs).map fun cs => .imm cs n false else none
      | _ => none)
    | _ => none)

section
variable {ρ ρ' : Nat → Option Nat} {H H' : AHeap} {w' : World} {B : Nat}

theorem mapO_rel {e e' : Nm} {f : AVal → Option AVal} (hf : ∀ a a' v, f a = some a' → VRel e a v → VRel e' a' v) : ∀ (cs as : List AVal) (g : Nat → Option Value), mapO f cs = some as → VsRel e cs g → VsRel e' as g
  | [], as, g, hi, h => by simp only [mapO, Option.some.injEq] at hi; subst hi; simp [VsRel]
  | c :: cs, as, g, hi, h => by
    simp only [mapO] at hi
    cases h1 : f c with
    | none => rw [h1] at hi; cases hi
    | some a =>
      cases h2 : mapO f cs with
      | none => rw [h1, h2] at hi; cases hi
      | some bs =>
        rw [h1, h2] at hi
        cases hi
        simp only [VsRel] at h ⊢
        obtain ⟨⟨v, h3, h4⟩, h5⟩ := h
        exact ⟨⟨v, h3, hf c a v h1 h4⟩, mapO_rel hf cs bs _ h2 h5⟩

theorem iceX_rel (hr : HRel (nm ρ' H' w')) (hnew : ∀ b, (nm ρ' H' w').Owned b → B ≤ b) (hold : ∀ b, (nm ρ H w').Owned b → b < B) : ∀ (d : Nat) (a a' : AVal) (v : Value), iceX d H' a = some a' → VRel (nm ρ' H' w') a v → VRel (nm ρ H w') a' v
  | 0, a, a', v, hi, h => by simp [iceX] at hi
  | d + 1, a, a', v, hi, h => by
    have ih := iceX_rel hr hnew hold d
    cases a <;> simp only [iceX] at hi <;> first | (cases hi; done) | skip
    case bool b => simp only [Option.some.injEq] at hi; subst hi; simpa [VRel] using h
    case int k n => simp only [Option.some.injEq] at hi; subst hi; simpa [VRel] using h
    case str s => simp only [Option.some.injEq] at hi; subst hi; simpa [VRel] using h
    case nilp => simp only [Option.some.injEq] at hi; subst hi; simpa [VRel] using h
    case nils => simp only [Option.some.injEq] at hi; subst hi; exact Sees.nils false _ _ (by simpa [VRel] using h)
    case nilf => simp only [Option.some.injEq] at hi; subst hi; simpa [VRel] using h
    case nilm => simp only [Option.some.injEq] at hi; subst hi; simpa [VRel] using h
    case agg cs =>
      simp only [Option.map_eq_some_iff] at hi
      obtain ⟨as, h1, rfl⟩ := hi
      simp only [VRel] at h ⊢
      obtain ⟨arr, h2, h3, h4⟩ := h
      exact ⟨arr, h2, by rw [mapO_length h1]; exact h3, mapO_rel ih cs as _ h1 h4⟩
    case tup cs =>
      simp only [Option.map_eq_some_iff] at hi
      obtain ⟨as, h1, rfl⟩ := hi
      simp only [VRel] at h ⊢
      obtain ⟨arr, h2, h3, h4⟩ := h
      exact ⟨arr, h2, by rw [mapO_length h1]; exact h3, mapO_rel ih cs as _ h1 h4⟩
    case slc m o n w =>
      cases hm : H'[m]? with
      | none => rw [hm] at hi; cases hi
      | some c =>
        rw [hm] at hi
        cases c <;> simp only at hi <;> first | (cases hi; done) | skip
        rename_i cs el w2
        split at hi
        rotate_left
        · cases hi
        rename_i hc
        obtain ⟨rfl, rfl, hl⟩ := hc
        simp only [Option.map_eq_some_iff] at hi
        obtain ⟨as, h1, rfl⟩ := hi
        have hcon : content H'[m]? = some cs := by rw [hm]; rfl
        simp only [VRel] at h ⊢
        obtain ⟨_, a, cap, rfl, hcap, h⟩ := h
        refine ⟨a, cap, rfl, hcap, by simp, ?_⟩
        have hal := alive_of hm rfl
        rcases content_at hr hcon with ⟨h2, rfl, _⟩ | ⟨b, arr, el', h2, h3, h4, _⟩
        · rcases h hal with ⟨_, h5, h6⟩ | ⟨h5, _⟩ | ⟨b, r, h5, _⟩
          · exact .inl ⟨List.length_eq_zero_iff.1 (by rw [mapO_length h1]; rfl), by omega⟩
          · exact .inl ⟨List.length_eq_zero_iff.1 (by rw [mapO_length h1]; rfl), h5⟩
          · rw [show (nm ρ' H' w').ρ m = ρ' m from rfl, h2] at h5; cases h5
        · rcases h hal with ⟨h5, _⟩ | ⟨h5, _⟩ | ⟨b', r, h5, h6, _⟩
          · rw [show (nm ρ' H' w').ρ m = ρ' m from rfl, h2] at h5; cases h5
          · subst h5
            have : cs = [] := List.length_eq_zero_iff.1 (by simpa using hl)
            subst this
            exact .inl ⟨List.length_eq_zero_iff.1 (by rw [mapO_length h1]; rfl), rfl⟩
          · have : some b = some b' := h2.symm.trans h5
            cases this
            have hb := hnew b ⟨m, hal, h2⟩
            refine .inr ⟨b, 0, h6, fun ho => by have := hold b ho; omega, arr, el', _, h3, ?_⟩
            exact (mapO_rel ih cs as _ h1 h4).congr fun i _ => by rw [Nat.zero_add]

end

def exI (C : CT) (n : Nat) (f : FuncId) (args : List AVal) (v : AVal) : Bool := match ex C n [] (.fn f args) [] with
  | some (u, H) => (match iceX 9 H u with
    | some u' => aeq u' v
    | none => false)
  | none => false

theorem stripB_vec {b : ABlk} {cs : List AVal} {el : TypeId} {w : Nat} (h : stripB b = .vec cs el w) : b = .vec cs el w := by
  cases b <;> simp [stripB] at h
  obtain ⟨rfl, rfl, rfl⟩ := h
  rfl

theorem mapO_congr {f g : AVal → Option AVal} (h : ∀ a, f a = g a) : ∀ cs, mapO f cs = mapO g cs
  | [] => rfl
  | c :: cs => by simp only [mapO, h, mapO_congr h cs]

theorem iceX_strip : ∀ (d : Nat) (H : AHeap) (a : AVal), iceX d (strip H) a = iceX d H a
  | 0, H, a => rfl
  | d + 1, H, a => by
    have ih := mapO_congr (iceX_strip d H)
    cases a <;> simp only [iceX, ih]
    rename_i m o n w
    rw [strip_get]
    cases H[m]? with
    | none => rfl
    | some b => cases b <;> rfl

/-- A call without unknowns, whose result has lists. -/
theorem fun_reckI {P : Program} {C : CT} (hC : AllOk P C) (n : Nat) {f : FuncId} {args : List AVal} (v : AVal) (h : exI C n f args v = true) (ha : flats args = true) (H : AHeap) (Q : AVal → AHeap → Prop) (hq : Q v H) : FunOK P f args H Q := by
  have h0 : FunOK P f args [] fun av H' => iceX 9 H' av = some v := by
    unfold exI at h
    cases hx : ex C n [] (.fn f args) [] with
    | none => rw [hx] at h; cases h
    | some y =>
      obtain ⟨u, H1⟩ := y
      rw [hx] at h
      simp only at h
      cases hi : iceX 9 H1 u with
      | none => rw [hi] at h; cases h
      | some u' =>
        rw [hi] at h
        have := aeq_ok h
        subst this
        exact ex_ok hC n [] _ _ _ _ hx [] _ rfl (fun m as bd hf => by simp [findY] at hf) fun H' hs _ => by
          rw [← iceX_strip, hs]; exact hi
  refine ⟨h0.1, fun ρ vs w h1 h2 h3 cs => ?_⟩
  obtain ⟨av, H', ρ', u, w', fr, q1, q2, q3, q4, q5, q6, q7⟩ := h0.2 (fun _ => none) vs w h1 (flats_rel _ _ ha h2) hrel_nil cs
  have hkeep : ∀ b, b < w.heap.size → w'.heap[b]? = w.heap[b]? := fun b hb => q7.keep b hb owned_nil
  have hx : Ext (nm ρ H w) (nm ρ H w') := {
    len := Nat.le_refl _
    name := fun n _ ha => ⟨ha, rfl⟩
    keep := fun b arr el fz hb ho => by
      have hb' : w.heap[b]? = some (.cells arr el fz) := hb
      exact ⟨(hkeep b (lt_of_some hb')).trans hb', ho⟩
    room := fun b r hr => by
      have hr' : room w.heap b = some r := hr
      show room w'.heap b = some r
      unfold room at hr' ⊢
      have hlt : b < w.heap.size := room_lt (by unfold room; exact hr')
      rw [hkeep b hlt]; exact hr' }
  refine ⟨v, H, ρ, u, w', fr, hq, q2, q3, q4, iceX_rel (B := w.heap.size) q6 (fun b ho => ?_) (fun b ho => h3.lt ho) 9 av v u q1 q5, ?_, ?_⟩
  · exact Nat.le_of_not_lt fun hlt => q7.out b hlt owned_nil ho
  · exact hrel_of h3 hx (fun n c hc hl => .inl ⟨(List.getElem?_eq_some_iff.1 hc).1, hc, fun p hp => hkeep p (h3.lt ⟨n, alive_of hc hl, hp⟩)⟩) h3.inj
  · exact { size := q7.size, os := q7.os, tape := q7.tape, output := q7.output, len := Nat.le_refl _, name := fun n _ ha => ⟨ha, rfl⟩, keep := fun b hb _ => hkeep b hb, out := fun b hb ho => ho, room := fun b r hb hr => hx.room b r hr }

end Go.Am

namespace Go.Am
open Go Go.ChangeShapes Go.WideShapes Go.RowKit
set_option linter.unusedVariables false

/-! ### A law whose lists weigh no more than the memory reaches -/

/-- Every list at the top has elements of at least one byte. -/
def okBytes (P : Program) : List TypeId → Bool
  | [] => true
  | t :: ts => (match P.underlying t with | some (.slice e) => decide (1 ≤ P.bytesOf e) | _ => true) && okBytes P ts

/-- No list at the top is longer than the memory reaches. -/
def Short (as : List AVal) : Prop := ∀ (j : Nat) cs n t, as[j]? = some (.imm cs n t) → n ≤ reachBytes

section
variable {H : Type} {enc : TypeId × Value → H} {P : Program} {w : World} {base : Nat} {sp : Nat → Bool} {held : Bool} {ρ : Nat → Option Nat}

theorem slice_of_imm {s : Sh} {t : TypeId} {cs : List AVal} {n : Nat} {b : Bool} (hs : okSh P s t = true) (h : FitsA s (.imm cs n b)) : ∃ e, P.underlying t = some (.slice e) := by
  cases s with
  | bool => obtain ⟨_, h⟩ := h; cases h
  | int k => obtain ⟨_, h, _⟩ := h; cases h
  | str => obtain ⟨_, h, _⟩ := h; cases h
  | slice e =>
    unfold okSh at hs
    split at hs
    · rename_i el ht; exact ⟨el, ht⟩
    · cases hs
  | struct ss => obtain ⟨_, h, _⟩ := h; cases h
  | arr n k => obtain ⟨_, h, _⟩ := h; cases h

theorem short_args : ∀ {ss : List Sh} {ts : List TypeId} {vs : List Value} {ds : List (DataW H)} {ps : List MemPlace} {as : List AVal}, okAll P ss ts = true → okBytes P ts = true →
    DataW.TrodAll enc P w 0 sp held ts vs ds ps → (DataW.weightsEach P ts ds).all (· ≤ reachBytes) = true → FitsAs ss as → VsRel (nm ρ [] w) as (fun i => vs[i]?) → Short as
  | [], ts, vs, ds, ps, as, _, _, _, _, hf, _ => by
    simp only [FitsAs] at hf; subst hf
    intro j cs n t h; simp at h
  | s :: ss, [], vs, ds, ps, as, hs, _, _, _, _, _ => by simp [okAll] at hs
  | s :: ss, t :: ts, vs, ds, ps, as, hs, hb, h, hw, hf, hr => by
    cases vs with
    | nil => cases ds <;> exact h.elim
    | cons v vs =>
      cases ds with
      | nil => exact h.elim
      | cons d ds =>
        obtain ⟨p, q, h1, h2, _⟩ := h
        simp only [okAll, Bool.and_eq_true] at hs
        simp only [okBytes, Bool.and_eq_true] at hb
        obtain ⟨a, r, rfl, a1, a2⟩ := hf
        simp only [VsRel] at hr
        obtain ⟨⟨v', hv', hr1⟩, hr2⟩ := hr
        simp only [List.getElem?_cons_zero, Option.some.injEq] at hv'
        subst hv'
        have hwt : (DataW.weightsEach P ts ds).all (· ≤ reachBytes) = true := by
          simp only [DataW.weightsEach, List.all_append, Bool.and_eq_true] at hw
          exact hw.2
        have ih := short_args hs.2 hb.2 h2 hwt a2 (hr2.congr fun i _ => by simp)
        intro j cs n tt hj
        cases j with
        | succ j => exact ih j cs n tt (by simpa using hj)
        | zero =>
          simp only [List.getElem?_cons_zero, Option.some.injEq] at hj
          subst hj
          obtain ⟨e, he⟩ := slice_of_imm hs.1 a1
          have hb1 := hb.1
          rw [he] at hb1
          simp only [decide_eq_true_eq] at hb1
          simp only [VRel] at hr1
          obtain ⟨a', cap, rfl, _, _, _⟩ := hr1
          obtain ⟨fuel, hf⟩ := h1
          rcases DataW.trod_slice he hf with ⟨hc, _⟩ | ⟨a0, len, cap0, elems, rest, m, _, hc, hx, _, _, _, hel, _⟩
          · simp [Value.cells] at hc
            omega
          · simp [Value.cells] at hc
            have hd : d = .slice (elems.map (·.1)) (rest.map (·.1)) := congrArg Prod.fst hx
            have := sized_slice hw (j := 0) rfl (congrArg some hd) he
            simp only [List.length_map] at this
            have h3 : elems.length ≤ (elems.length + rest.length) * P.bytesOf e := by
              calc elems.length ≤ elems.length + rest.length := by omega
                _ = (elems.length + rest.length) * 1 := by omega
                _ ≤ _ := Nat.mul_le_mul_left _ hb1
            omega

/-- law_calls with the lists' bound. -/
theorem law_calls_sized {f : FuncId} {fn : Func} {s : ChangeSpec} {shs : List Sh} {tb : TypeId} {apart fresh handsOn again : Bool} (hl : laidOutB P = true) (hsh : okAll P shs fn.params.toList = true) (hbt : okBytes P fn.params.toList = true) (hts : ∀ t ∈ fn.params.toList, P.readableRec t = true ∧ t < P.types.size)
    (hres : fn.resultTypes = #[tb]) (htb : P.underlying tb = some .bool) (hv : s.vars = [])
    (hsp : ∀ (H : Type) (ds : List (DataW H)), ds.length = fn.params.toList.length → (s.fn H ds).results = [.lit (.bool true)] ∧ (s.fn H ds).args = ds ∧ (s.fn H ds).vars = [])
    (h : ∀ as, FitsAs shs as → Short as → FunOK P f as [] fun av _ => av = .bool true)
    {W : World} {args : Array Value} {ds gs : List (DataW H)} {before : List MemPlace}
    (hval : ∀ (j : Nat) t v, fn.params[j]? = some t → args[j]? = some v → Value.okWide P W .any base t v) (hW : DataW.Whole enc P fn.params.toList s.vars apart W args.toList ds gs before)
    (hwt : (DataW.weightsEach P (fn.params.toList ++ s.plain.varTypes P) (ds ++ gs)).all (· ≤ reachBytes) = true) (hpv : s.plain.varTypes P = []) :
    Calls P f args W fun e W' => ∃ v, e = .returned v ∧ s.post enc P fn apart fresh handsOn again W args v W' := by
  have hW0 := hW
  have hlt := hW.lt
  obtain ⟨p, q, hA, hV, hpq, hfz, hnd⟩ := hW
  rw [hv] at hV
  obtain ⟨rfl, rfl⟩ : gs = [] ∧ q = [] := by
    cases gs with
    | nil => exact ⟨rfl, hV⟩
    | cons g gs => exact hV.elim
  simp only [List.append_nil] at hpq
  subst hpq
  rw [hpv, List.append_nil, List.append_nil] at hwt
  obtain ⟨as, a1, a2, a3⟩ := open_args (ρ := fun _ => none) hsh (fun j t v ht hv => hval j t v (by simpa using ht) (by simpa using hv)) hA
  have hlen : ds.length = fn.params.toList.length := by
    have : ∀ {ts : List TypeId} {vs : List Value} {ds : List (DataW H)} {ps : List MemPlace}, DataW.TrodAll enc P W 0 (fun _ => true) true ts vs ds ps → ds.length = ts.length := by
      intro ts
      induction ts with
      | nil => intro vs ds ps h; cases vs <;> cases ds <;> first | rfl | exact h.elim
      | cons t ts ih =>
        intro vs ds ps h
        cases vs <;> cases ds <;> first | exact h.elim | skip
        obtain ⟨_, _, _, h2, _⟩ := h
        simp [ih h2]
    exact this hA
  obtain ⟨s1, s2, s3⟩ := hsp H ds hlen
  have hshort := short_args hsh hbt hA hwt a1 a3
  refine (calls_of (h as a1 hshort) (ρ := fun _ => none) (vs := args) (w := W) (by simpa using a2.symm) (a3.congr fun i _ => by simp)).mono ?_
  rintro e W' ⟨av, H', ρ', v, rfl, rfl, hv', _, hb⟩
  have hv'' : v = .bool true := by simpa [VRel] using hv'
  subst hv''
  refine ⟨_, rfl, post_kept (pa := before) (pv := []) hW0 ?_ ?_ ?_ (by simp) hb ?_⟩
  · intro b sp' hd
    rw [hres, List.append_nil, s1]
    exact ⟨[], [], ⟨1, by simp [DataW.trod, Value.cells, htb]⟩, rfl, rfl⟩
  · intro sp' hs'
    rw [List.append_nil, s2]
    exact trodAll_stays hl hts hA hb hlt hs'
  · intro sp' hs'
    rw [List.append_nil, hv, s3]; rfl
  · exact ok_one hres rfl (by simp [Value.okWide, htb, Cell.okWide, Cell.ok])

end

theorem nums_short {k : IntKind} (hs : k.signed = false) {a : AVal} (h : FitsA (.slice (.int k)) a) {m : Nat} (hm : ∀ cs n t, a = .imm cs n t → n ≤ m) :
    ∃ bs : List Nat, Sees a (nums k false bs) ∧ (∀ b ∈ bs, (Lit.int k (b : Int)).wf = true) ∧ bs.length ≤ m := by
  obtain ⟨bs, h1, h2, h3⟩ := nats_of_fits (H := []) hs h
  refine ⟨bs, ?_, h2, ?_⟩
  · rcases h with h | ⟨gs, tight, hg, h, hl⟩
    · cases h
      have : bs = [] := List.length_eq_zero_iff.1 (by have := h1.len; simpa [slen] using this.symm)
      subst this
      exact Sees.nils false
    · cases h
      have hv := h1.view
      have hl := h1.len
      simp only [view, slen, Option.some.injEq] at hv hl
      rw [hv, hl]
      exact Sees.loose _ _ _
  · rcases h with h | ⟨gs, tight, hg, h, hl⟩
    · cases h
      have : bs = [] := List.length_eq_zero_iff.1 (by have := h1.len; simpa [slen] using this.symm)
      subst this; simp
    · cases h
      have hl := h1.len
      simp only [slen, Option.some.injEq] at hl
      have := hm _ _ _ rfl
      omega
end Go.Am

namespace Go.Am
open Go
set_option linter.unusedVariables false

/-! ### Lists that are never written to again, in the middle of a run -/

section
variable {P : Program} {c : Ctx} {k T : List AItem} {r : Regs} {H : AHeap} {Q : AVal → AHeap → Prop}

theorem run_closed (h : ClosedH H → (∀ i, closed H.length (rget r i)) → Run P c k r H Q) : Run P c k r H Q := by
  intro B ρ w tmps D b cs k' hr hl
  exact h (hrel_closed hr.heap) (fun i => closed_of _ _ (hr.regs i)) B ρ w tmps D b cs k' hr hl

theorem runO_closed {as : List AOper} (h : ClosedH H → (∀ i, closed H.length (rget r i)) → RunO P c as k r H Q) : RunO P c as k r H Q := by
  intro B ρ w tmps D b cs k' ops is hr hl ho
  exact h (hrel_closed hr.heap) (fun i => closed_of _ _ (hr.regs i)) B ρ w tmps D b cs k' ops is hr hl ho

theorem rounds_closed {b : ACode} (h : ClosedH H → (∀ i, closed H.length (rget r i)) → Rounds P c b k T r H Q) : Rounds P c b k T r H Q := run_closed h

theorem iceF_low {m : Nat} {cs : List AVal} {n : Nat} (h : n < m) : iceF m cs n = .keep n := by simp [iceF]; omega
theorem iceF_ne {m : Nat} {cs : List AVal} {n : Nat} (h : n ≠ m) : iceF m cs n = .keep n := by simp [iceF, h]
theorem iceF_at {m : Nat} {cs : List AVal} : iceF m cs m = .ice cs := by simp [iceF]
theorem iceF_keep {m : Nat} {cs : List AVal} (n n' : Nat) (h : iceF m cs n = .keep n') : n' = n := by
  unfold iceF at h
  split at h
  · cases h
  · cases h; rfl

theorem ghost_last {el : TypeId} {w : Nat} {cs : List AVal} (hH : ClosedH H) (hcs : closeds H.length cs) : Ghost (iceF H.length cs) (H ++ [.vec cs el w]) (H ++ [.dead]) := by
  refine ghost_ice (H := H ++ [.vec cs el w]) (H2 := H ++ [.dead]) (by simp [content]) (colds_of (L := H.length) (fun _ h => iceF_low h) _ hcs) (mvs_id (L := H.length) (fun _ h => iceF_low h) _ hcs) (by simp) (by simp) ?_
  intro n c hn hc
  have hlt : n < H.length := by
    have := (List.getElem?_eq_some_iff.1 hc).1
    simp at this; omega
  rw [List.getElem?_append_left hlt] at hc ⊢
  exact ⟨c, hc, mv_blk (L := H.length) (fun _ h => iceF_low h) (hH n c hc)⟩

/-- The last block, a new list, is iced. -/
theorem run_iceLast {el : TypeId} {w : Nat} {cs : List AVal} (hH : ClosedH H) (hcs : closeds H.length cs) (hrd : ∀ n, c.rd = some n → n < H.length) (h : Run P c k (mvRegs (iceF H.length cs) r) (H ++ [.dead]) Q) : Run P c k r (H ++ [.vec cs el w]) Q :=
  run_pre (fun _ => ghost_last hH hcs) iceF_keep (by simp) (fun n hn => iceF_low (hrd n hn)) h

theorem runO_iceLast {el : TypeId} {w : Nat} {cs : List AVal} {as : List AOper} (hH : ClosedH H) (hcs : closeds H.length cs) (hrd : ∀ n, c.rd = some n → n < H.length) (h : RunO P c as k (mvRegs (iceF H.length cs) r) (H ++ [.dead]) Q) : RunO P c as k r (H ++ [.vec cs el w]) Q :=
  runO_pre (fun _ => ghost_last hH hcs) iceF_keep (by simp) (fun n hn => iceF_low (hrd n hn)) h

theorem runL_iceLast {el : TypeId} {w : Nat} {cs : List AVal} {os : List AOper} {live : List Nat} (hH : ClosedH H) (hcs : closeds H.length cs) (hrd : ∀ n, c.rd = some n → n < H.length) (h : RunL P c os live k T (mvRegs (iceF H.length cs) r) (H ++ [.dead]) Q) : RunL P c os live k T r (H ++ [.vec cs el w]) Q :=
  runO_iceLast hH hcs hrd h

/-- A list somewhere is iced; the others' blocks are told. -/
theorem run_iceAt {m : Nat} {H2 : AHeap} {el : TypeId} {w L : Nat} {cs : List AVal} (hm : H[m]? = some (.vec cs el w)) (hcs : closeds L cs) (hL : L ≤ m) (hrd : ∀ n, c.rd = some n → n ≠ m) (hl : H2.length = H.length) (hd : H2[m]? = some .dead)
    (hb : ClosedH H → ∀ n c, n ≠ m → H[n]? = some c → ∃ c2, H2[n]? = some c2 ∧ Mv (iceF m cs) c c2)
    (h : Run P c k (mvRegs (iceF m cs) r) H2 Q) : Run P c k r H Q :=
  run_pre (fun hH => ghost_ice (by rw [hm]; rfl) (colds_of (L := L) (fun _ h => iceF_low (Nat.lt_of_lt_of_le h hL)) _ hcs) (mvs_id (L := L) (fun _ h => iceF_low (Nat.lt_of_lt_of_le h hL)) _ hcs) hl hd (hb hH)) iceF_keep hl (fun n hn => iceF_ne (hrd n hn)) h

end

theorem mv_nums {f : Nat → To} {k : IntKind} {t : Bool} {xs : List Nat} : mv f (nums k t xs) = nums k t xs := by
  simp only [nums, mv]
  congr 1
  rw [mvs_map, List.map_map]
  exact List.map_congr_left fun x _ => rfl
theorem mv_ints {f : Nat → To} {t : Bool} {xs : List Int} : mv f (ints t xs) = ints t xs := by
  simp only [ints, mv]
  congr 1
  rw [mvs_map, List.map_map]
  exact List.map_congr_left fun x _ => rfl
theorem mv_iceAt {m n w : Nat} {cs : List AVal} (h : cs.length = n * w) : mv (iceF m cs) (.slc m 0 n w) = .imm cs n false := by
  simp only [mv, iceF_at, mvSlc, List.drop_zero, ← h, List.take_length]
theorem mv_low {m n : Nat} {cs : List AVal} {a : AVal} (h : closed m a) : mv (iceF m cs) a = a := mv_id (L := m) (fun _ h => iceF_low h) a h

theorem nums_eq (k : IntKind) (xs : List Nat) {n : Nat} (h : n = xs.length) (t : Bool) : AVal.imm (xs.map fun n : Nat => AVal.int k (n : Int)) n t = nums k t xs := by subst h; rfl

/-- The heap behind an append to an own list. -/
def killA (H : AHeap) : AVal → AHeap
  | .slc m _ _ _ => H.set m .dead
  | _ => H

theorem killA_len (H : AHeap) (a : AVal) : (killA H a).length = H.length := by cases a <;> simp [killA]

theorem Own.append3 {w : Nat} {el : TypeId} {B : Nat} {H : AHeap} {a x : AVal} {n k : Nat} {cs ys : List AVal} (h : Own w el B H a n cs) (bytes : Nat) (h1 : srcLen x = some k) (h2 : srcCells H x = some ys) (hy : ys.length = k * w) (hw : 0 < w)
    (hl : (n + k) * bytes ≤ 140737488355328) (hl2 : n + k ≤ 9223372036854775807) (hc : ys.all AVal.cellish = true) :
    ∃ p, appendA H el w bytes a x = some (p, .slc H.length 0 (n + k) w, killA H a ++ [.vec (cs ++ ys) el w]) ∧ p := by
  have hcs := h.len
  rcases h.is with ⟨rfl, rfl⟩ | ⟨m, hm, rfl, hb⟩
  · have : cs = [] := List.length_eq_zero_iff.1 (by simpa using hcs)
    subst this
    rw [Nat.zero_add] at hl hl2
    refine ⟨_, by simp only [appendA, h1, h2, Nat.zero_add, List.nil_append, killA]; rfl, ?_⟩
    exact ⟨hy, hw, hl, hl2⟩
  · refine ⟨_, by simp only [appendA, h1, h2, hb, killA]; rfl, ?_⟩
    exact ⟨hy, hw, hl, hl2, trivial, trivial, trivial, trivial, hcs, hc⟩

theorem killA_get {H : AHeap} {a : AVal} {n : Nat} (h : n ∉ a.names) : (killA H a)[n]? = H[n]? := by
  cases a <;> simp only [killA] <;> first | rfl | skip
  rw [List.getElem?_set_ne]
  intro e; apply h; simp [AVal.names, e]

/-! ### Texts and bytes -/

theorem goK_s2b (P : Program) (c : Ctx) (Q : AVal → AHeap → Prop) (T : List AItem) (K : Mode → Prop) (dst : Option Nat) (g : Option (Nat × Bool)) (os : List AOper) (live : List Nat) (k : List AItem) (r : Regs) (H : AHeap) (x1 : AOpd) : GoK P c Q T K (some true) ⟨dst, (.s2b x1), g⟩ os live k r H = ResK K (evalOp (geto r) H (.s2b x1)) dst os live k r := rfl
theorem dgoK_s2b (P : Program) (c : Ctx) (Q : AVal → AHeap → Prop) (T : List AItem) (K : Mode → Prop) (d : DS) (dst : Option Nat) (g : Option (Nat × Bool)) (i : Nat) (is : List Nat) (log : Log) (r : Regs) (H : AHeap) (x1 : AOpd) : DGoK P c Q T K d (some true) ⟨dst, (.s2b x1), g⟩ i is log r H = DResK K d (evalOp (geto r) H (.s2b x1)) (.s2b x1) dst i is log r := rfl
theorem isEff_s2b (x1 : AOpd) : isEff (.s2b x1) = false := rfl
theorem isPure_s2b (x1 : AOpd) : isPure (.s2b x1) = true := rfl
theorem goK_b2s (P : Program) (c : Ctx) (Q : AVal → AHeap → Prop) (T : List AItem) (K : Mode → Prop) (dst : Option Nat) (g : Option (Nat × Bool)) (os : List AOper) (live : List Nat) (k : List AItem) (r : Regs) (H : AHeap) (x1 : AOpd) : GoK P c Q T K (some true) ⟨dst, (.b2s x1), g⟩ os live k r H = ResK K (evalOp (geto r) H (.b2s x1)) dst os live k r := rfl
theorem dgoK_b2s (P : Program) (c : Ctx) (Q : AVal → AHeap → Prop) (T : List AItem) (K : Mode → Prop) (d : DS) (dst : Option Nat) (g : Option (Nat × Bool)) (i : Nat) (is : List Nat) (log : Log) (r : Regs) (H : AHeap) (x1 : AOpd) : DGoK P c Q T K d (some true) ⟨dst, (.b2s x1), g⟩ i is log r H = DResK K d (evalOp (geto r) H (.b2s x1)) (.b2s x1) dst i is log r := rfl
theorem isEff_b2s (x1 : AOpd) : isEff (.b2s x1) = false := rfl
theorem isPure_b2s (x1 : AOpd) : isPure (.b2s x1) = false := rfl

theorem goK_mark (P : Program) (c : Ctx) (Q : AVal → AHeap → Prop) (T : List AItem) (K : Mode → Prop) (dst : Option Nat) (g : Option (Nat × Bool)) (os : List AOper) (live : List Nat) (k : List AItem) (r : Regs) (H : AHeap) (x1 : AOpd) : GoK P c Q T K (some true) ⟨dst, (.mark x1), g⟩ os live k r H = ResK K (evalOp (geto r) H (.mark x1)) dst os live k r := rfl
theorem dgoK_mark (P : Program) (c : Ctx) (Q : AVal → AHeap → Prop) (T : List AItem) (K : Mode → Prop) (d : DS) (dst : Option Nat) (g : Option (Nat × Bool)) (i : Nat) (is : List Nat) (log : Log) (r : Regs) (H : AHeap) (x1 : AOpd) : DGoK P c Q T K d (some true) ⟨dst, (.mark x1), g⟩ i is log r H = DResK K d (evalOp (geto r) H (.mark x1)) (.mark x1) dst i is log r := rfl
theorem isEff_mark (x1 : AOpd) : isEff (.mark x1) = true := rfl
theorem isPure_mark (x1 : AOpd) : isPure (.mark x1) = false := rfl

def markB (n off len z : Nat) (H : AHeap) : Option ABlk → Option (Prop × AVal × AHeap)
  | some (.vec cs el z') => some (off = 0 ∧ z = 1 ∧ cs.length = len ∧ 0 < len, .imm cs len false, H.set n .dead)
  | _ => none
theorem markA_slc (H : AHeap) (n off len z : Nat) : markA H (.slc n off len z) = markB n off len z H H[n]? := by
  simp only [markA]
  cases H[n]? with
  | none => rfl
  | some b => cases b <;> rfl
theorem evalOp_mark (g : AOpd → AVal) (H : AHeap) (x : AOpd) : evalOp g H (.mark x) = appR (markA H (g x)) := by
  simp only [evalOp]; cases markA H (g x) <;> rfl

/-- The bytes of a text, as numbers. -/
def bytesOf (s : ByteArray) : List Nat := s.data.toList.map fun b => b.toNat

theorem s2b_nums (s : ByteArray) : AVal.imm (s2bA s) s.size false = nums .u8 false (bytesOf s) := by
  simp only [nums, s2bA, bytesOf, List.map_map, List.length_map]
  congr 1

def s2bR (H : AHeap) : AVal → Res
  | .str s => .ok True (nums .u8 false (bytesOf s)) H
  | _ => .bad

theorem evalOp_s2b (g : AOpd → AVal) (H : AHeap) (x : AOpd) : evalOp g H (.s2b x) = s2bR H (g x) := by
  simp only [evalOp]
  cases g x <;> simp only [s2bR] <;> first | rfl | rw [s2b_nums]

/-- The text of bytes. -/
def textOf (xs : List Nat) : ByteArray := ⟨(xs.map UInt8.ofNat).toArray⟩

theorem b2sA_nums : ∀ (xs : List Nat) (s : ByteArray), b2sA (xs.map fun n : Nat => AVal.int .u8 (n : Int)) s = some ⟨s.data ++ (xs.map UInt8.ofNat).toArray⟩
  | [], s => by simp [b2sA]
  | x :: xs, s => by
    rw [List.map_cons, b2sA, b2sA_nums xs]
    simp [ByteArray.push]

theorem b2s_nats (g : AOpd → AVal) {H : AHeap} {x : AOpd} {xs : List Nat} (h : Nats .u8 H (g x) xs) : evalOp g H (.b2s x) = .ok True (.str (textOf xs)) H := by
  simp only [evalOp, h.len, h.view, b2sA_nums]
  simp [textOf, ByteArray.empty, ByteArray.emptyWithCapacity]
  rfl

/-- A variable's block is never written to again. -/
theorem ice_ptr {H L : AHeap} {Q : AVal → AHeap → Prop} {el : TypeId} {cs : List AVal} (hc : closeds H.length cs) (hq : Q (.sptr (.imm cs cs.length true) 0) H) : IceQ H Q (.ptr H.length 0) (H ++ .cells cs el :: L) := by
  refine ⟨keeps_append _ _, [(H.length, cs)], .sptr (.imm cs cs.length true) 0, ?_, ?_, hq⟩
  · intro p hp
    simp only [List.mem_singleton] at hp
    subst hp
    exact ⟨cs, by simp [content], (mvs_id (L := H.length) (fun _ h => toF_low h) _ hc).symm, colds_of (L := H.length) (fun _ h => toF_low h) _ hc⟩
  · have : toF H.length [] [(H.length, cs)] H.length = .ice cs := by simp [toF, findN, findI]
    simp only [mv, mvs, this, mvPtr]
    exact Sees.refl _

theorem run_VT {P : Program} {c : Ctx} {K : List AItem} {r : Regs} {H : AHeap} {Q : AVal → AHeap → Prop} (n : Nat) (k T : List AItem) (e : K = k ++ T) (h : V P c Q T n (.todo k r H)) : Run P c K r H Q := by subst e; exact run_V n h

end Go.Am

namespace Go.Am
open Go
set_option linter.unusedVariables false

/-! ### Ranges over functions that write to variables of their own -/

abbrev VarN := Nat × TypeId × (Nat → List AVal)

/-- The variables' cells behind j rounds. -/
def VarsN (vs : List VarN) (j : Nat) (H : AHeap) : Prop := ∀ v ∈ vs, H[v.1]? = some (.cells (v.2.2 j) v.2.1)

theorem VarsN.get {vs : List VarN} {j : Nat} {H : AHeap} (h : VarsN vs j H) {c : Nat} {T : TypeId} {f : Nat → List AVal} (hv : (c, T, f) ∈ vs) : H[c]? = some (.cells (f j) T) := h _ hv
theorem varsN_nil {j : Nat} {H : AHeap} : VarsN [] j H := fun v hv => by cases hv
theorem varsN_cons {j : Nat} {H : AHeap} {c : Nat} {T : TypeId} {f : Nat → List AVal} {vs : List VarN} (h : H[c]? = some (.cells (f j) T)) (hs : VarsN vs j H) : VarsN ((c, T, f) :: vs) j H := fun v hv => by
  rcases List.mem_cons.1 hv with rfl | hv
  · exact h
  · exact hs v hv

/-- What a function that yields items comes to, and writes to what is its own. -/
def IterO (P : Program) (g : FuncId) (args : List AVal) (n : Nat) (item : Nat → List AVal) (len : Nat) (own : List Nat) (H : AHeap) : Prop :=
  ∀ I, Fed P n item len I → ∀ fp, I true 0 fp H → (∀ m ∈ own, m ∉ fp) → FunOK P g args H fun av H' => ∃ b j fp', H.length ≤ H'.length ∧ (∀ m, m < H.length → m ∉ fp → m ∉ own → H'[m]? = H[m]?) ∧ (b = true → j = len) ∧ I b j fp' H'

theorem Iter.toO {P : Program} {g : FuncId} {args : List AVal} {n : Nat} {item : Nat → List AVal} {len : Nat} {own : List Nat} {H : AHeap} (h : Iter P g args n item len own H) : IterO P g args n item len own H :=
  fun I hI fp h0 ho => (h I hI fp h0 ho).mono fun av H' ⟨b, j, fp', q1, q2, q3, q4⟩ => ⟨b, j, fp', q1, fun m a b _ => q2 m a b, q3, q4⟩

/-- How a round ends. -/
def AccQN (vs : List VarN) (A : Acc) (n : Nat) (L : LoopState → Option AJump → ALoop) (j : Nat) (stop : Option AJump) (a : AVal) (H1 : AHeap) (av : AVal) (H' : AHeap) : Prop :=
  H1.length ≤ H'.length ∧ (∀ m, m < H1.length → m ≠ n → m ∉ vs.map (·.1) → m ≠ A.c → m ∉ a.names → H'[m]? = H1[m]?) ∧ VarsN vs (j + 1) H' ∧ (∃ a', A.at_ (j + 1) H' a' ∧ ∀ m ∈ a'.names, m ∈ a.names ∨ H1.length ≤ m) ∧
    av = .bool stop.isNone ∧ H'[n]? = some (.loop (L (if stop.isNone then .ready else .done) stop))

section
variable {P : Program} {c : Ctx} {k : List AItem} {r : Regs} {H : AHeap} {Q : AVal → AHeap → Prop}

theorem range_ofO {f : AOpd} {ps : List Nat} {as bd : ACode} {g : FuncId} {first captured : List AVal} (hf : geto r f = .fn g first captured) (hrd : ∀ n, c.rd = some n → ∃ L, H[n]? = some (.loop L))
    {item : Nat → List AVal} {len : Nat} (hitem : ∀ j, (item j).length = ps.length) (J : Nat → List Nat → AHeap → Prop) (S : AJump → Nat → List Nat → AHeap → Prop) (hJ : ∀ j, Foot (J j)) (hS : ∀ ap j, Foot (S ap j)) {fp0 : List Nat} (h0 : J 0 fp0 H)
    (hbody : ∀ as' bd' j fp H1, j < len → H.length ∉ fp → H.length < H1.length → H1[H.length]? = some (.loop (lrec c r ps as' bd' .ready none)) → J j fp H1 →
      Run P ⟨c.fn, c.nt, [], some H.length⟩ [.code as, .begin, .code bd] ((ps.zip (item j)).reverse ++ r) H1 (RoundQ c r ps as' bd' H.length J S j fp H1))
    (own : List Nat) (hown : ∀ m ∈ own, m < H.length ∧ m ∉ fp0)
    (hiter : ∀ H1, H1.length = H.length + 1 → (∀ m, m < H.length → H1[m]? = H[m]?) → IterO P g (first ++ [.yld H.length] ++ captured) H.length item len own H1)
    (hend : ∀ fp H', H.length < H'.length → (∀ m, m < H.length → m ∉ fp0 → m ∉ own → H'[m]? = H[m]?) → J len fp H' → Run P c k r H' Q)
    (hstop : ∀ ap j fp H', H.length < H'.length → (∀ m, m < H.length → m ∉ fp0 → m ∉ own → H'[m]? = H[m]?) → S ap j fp H' → Run P c (jumpItems (some ap) ++ k) r H' Q) :
    Run P c (.code (.range f ps as bd) :: k) r H Q := by
  refine run_range hf hrd fun as' bd' hc1 hc2 hps => ?_
  have hn0 : H.length ∉ fp0 := fun h => Nat.lt_irrefl _ ((hJ 0).lt _ _ h0 _ h)
  -- what the iterating function knows
  let I : Bool → Nat → List Nat → AHeap → Prop := fun b j fp H' => ∃ fp1, fp = H.length :: fp1 ∧ H.length ∉ fp1 ∧ H.length < H'.length ∧
    ((b = true ∧ H'[H.length]? = some (.loop (lrec c r ps as' bd' .ready none)) ∧ J j fp1 H') ∨ (b = false ∧ ∃ ap, H'[H.length]? = some (.loop (lrec c r ps as' bd' .done (some ap))) ∧ S ap j fp1 H'))
  have hI : Fed P H.length item len I := {
    foot := fun b j => {
      lt := by
        rintro fp H' ⟨fp1, rfl, h1, h2, h3⟩ m hm
        rcases List.mem_cons.1 hm with rfl | hm
        · exact h2
        · rcases h3 with ⟨_, _, h3⟩ | ⟨_, ap, _, h3⟩
          · exact (hJ _).lt _ _ h3 m hm
          · exact (hS _ _).lt _ _ h3 m hm
      stable := by
        rintro fp H' H2 ⟨fp1, rfl, h1, h2, h3⟩ hle hk
        refine ⟨fp1, rfl, h1, Nat.lt_of_lt_of_le h2 hle, ?_⟩
        have hk0 := hk H.length (by simp)
        have hk1 : ∀ m ∈ fp1, H2[m]? = H'[m]? := fun m hm => hk m (by simp [hm])
        rcases h3 with ⟨hb, h4, h3⟩ | ⟨hb, ap, h4, h3⟩
        · exact .inl ⟨hb, hk0.trans h4, (hJ _).stable _ _ _ h3 hle hk1⟩
        · exact .inr ⟨hb, ap, hk0.trans h4, (hS _ _).stable _ _ _ h3 hle hk1⟩ }
    step := by
      rintro j fp H1 hj ⟨fp1, rfl, h1, h2, h3⟩
      rcases h3 with ⟨_, h4, h3⟩ | ⟨hb, _⟩
      rotate_left
      · cases hb
      refine ⟨_, h4, rfl, hitem j, as, bd, hc1, hc2, hps, ?_⟩
      refine (hbody as' bd' j fp1 H1 hj h1 h2 h4 h3).mono ?_
      rintro av H' ⟨fp', ht, hn', h⟩
      refine ⟨H.length :: fp', ht, ?_⟩
      have hlt : H.length < H'.length := Nat.lt_of_lt_of_le h2 ht.le
      rcases h with ⟨rfl, q1, q2⟩ | ⟨ap, rfl, q1, q2⟩
      · exact .inl ⟨rfl, fp', rfl, hn', hlt, .inl ⟨rfl, q1, q2⟩⟩
      · exact .inr ⟨rfl, fp', rfl, hn', hlt, .inr ⟨rfl, ap, q1, q2⟩⟩ }
  have hpush : ∀ m, m < H.length → (H ++ [ABlk.loop ⟨.ready, none, c.fn, c.nt, r, ps, as', bd'⟩])[m]? = H[m]? := fun m hm => List.getElem?_append_left hm
  have hI0 : I true 0 (H.length :: fp0) (H ++ [ABlk.loop ⟨.ready, none, c.fn, c.nt, r, ps, as', bd'⟩]) :=
    ⟨fp0, rfl, hn0, by simp, .inl ⟨rfl, by simp [lrec], (hJ 0).stable _ _ _ h0 (by simp) fun m hm => hpush m ((hJ 0).lt _ _ h0 m hm)⟩⟩
  refine (hiter _ (by simp) hpush I hI _ hI0 fun m hm => by
    obtain ⟨h1, h2⟩ := hown m hm
    simp only [List.mem_cons, not_or]
    exact ⟨by omega, h2⟩).mono ?_
  rintro av H' ⟨b, j, fp', q1, q2, q3, fp1, rfl, q4, q5, q6⟩
  have hkept : ∀ m, m < H.length → m ∉ fp0 → m ∉ own → (H'.set H.length ABlk.dead)[m]? = H[m]? := by
    intro m hm hmf hmo
    rw [List.getElem?_set_ne (by omega), q2 m (by simp; omega) (by simp [hmf]; omega) hmo, hpush m hm]
  have hset : ∀ m ∈ fp1, (H'.set H.length ABlk.dead)[m]? = H'[m]? := by
    intro m hm
    rw [List.getElem?_set_ne]
    intro he; subst he; exact q4 hm
  rcases q6 with ⟨hb, q7, q8⟩ | ⟨hb, ap, q7, q8⟩
  · refine ⟨_, q7, by simp [lrec], ?_⟩
    have := q3 hb
    subst this
    simpa [lrec, jumpItems] using hend fp1 _ (by simpa using q5) hkept ((hJ _).stable _ _ _ q8 (by simp) hset)
  · refine ⟨_, q7, by simp [lrec], ?_⟩
    simpa [lrec] using hstop ap j fp1 _ (by simpa using q5) hkept ((hS _ _).stable _ _ _ q8 (by simp) hset)


theorem range_accO {f : AOpd} {ps : List Nat} {as bd : ACode} {g : FuncId} {first captured : List AVal} (hf : geto r f = .fn g first captured) (hrd : ∀ n, c.rd = some n → ∃ L, H[n]? = some (.loop L))
    {item : Nat → List AVal} {len : Nat} (hitem : ∀ j, (item j).length = ps.length) (vs : List VarN) (A : Acc) (stop : Nat → Option AJump) {a0 : AVal} (h0 : VarsN vs 0 H) (h0a : A.at_ 0 H a0) (own : List Nat) (hown : ∀ m ∈ own, m < H.length ∧ m ∉ vs.map (·.1) ∧ m ≠ A.c ∧ m ∉ a0.names)
    (hbody : ∀ as' bd' j H1 a, j < len → (∀ i, i < j → stop i = none) → H.length < H1.length → (∀ m, m < H.length → m ∉ vs.map (·.1) → m ≠ A.c → m ∉ a0.names → m ∉ own → H1[m]? = H[m]?) → H1[H.length]? = some (.loop (lrec c r ps as' bd' .ready none)) → VarsN vs j H1 → A.at_ j H1 a →
      Run P ⟨c.fn, c.nt, [], some H.length⟩ [.code as, .begin, .code bd] ((ps.zip (item j)).reverse ++ r) H1 (AccQN vs A H.length (lrec c r ps as' bd') j (stop j) a H1))
    (hiter : ∀ H1, H1.length = H.length + 1 → (∀ m, m < H.length → H1[m]? = H[m]?) → IterO P g (first ++ [.yld H.length] ++ captured) H.length item len own H1)
    (hend : ∀ H' a, H.length < H'.length → (∀ m, m < H.length → m ∉ vs.map (·.1) → m ≠ A.c → m ∉ a0.names → m ∉ own → H'[m]? = H[m]?) → (∀ i, i < len → stop i = none) → VarsN vs len H' → A.at_ len H' a → Run P c k r H' Q)
    (hstop : ∀ ap j H' a, H.length < H'.length → (∀ m, m < H.length → m ∉ vs.map (·.1) → m ≠ A.c → m ∉ a0.names → m ∉ own → H'[m]? = H[m]?) → j < len → stop j = some ap → (∀ i, i < j → stop i = none) → VarsN vs (j + 1) H' → A.at_ (j + 1) H' a → Run P c (jumpItems (some ap) ++ k) r H' Q) :
    Run P c (.code (.range f ps as bd) :: k) r H Q := by
  let other : List Nat := (List.range H.length).filter (fun m => !(vs.map (·.1)).contains m && !(m == A.c) && !a0.names.contains m && !own.contains m)
  have hother : ∀ m, m ∈ other ↔ m < H.length ∧ m ∉ vs.map (·.1) ∧ m ≠ A.c ∧ m ∉ a0.names ∧ m ∉ own := fun m => by
    simp only [other, List.mem_filter, List.mem_range, Bool.and_eq_true, Bool.not_eq_true', beq_eq_false_iff_ne, List.contains_eq_mem, decide_eq_false_iff_not, and_assoc]
  -- what is known behind j rounds
  let G : Nat → List Nat → AHeap → Prop := fun j fp H' => ∃ a, fp = vs.map (·.1) ++ A.c :: (a.names ++ other) ∧ VarsN vs j H' ∧ A.at_ j H' a ∧ (∀ m ∈ other, H'[m]? = H[m]?) ∧ H.length ≤ H'.length ∧ ∀ m ∈ a.names, m ∈ a0.names ∨ H.length ≤ m
  have hG : ∀ j, Foot (G j) := fun j => {
    lt := by
      rintro fp H' ⟨a, rfl, h1, h2, h3, h4, h5⟩ m hm
      simp only [List.mem_append, List.mem_cons] at hm
      rcases hm with hm | rfl | hm | hm
      · obtain ⟨v, hv, rfl⟩ := List.mem_map.1 hm
        exact (List.getElem?_eq_some_iff.1 (h1 v hv)).1
      · exact (List.getElem?_eq_some_iff.1 h2.1).1
      · exact (h2.2.lt m hm).2
      · exact Nat.lt_of_lt_of_le ((hother m).1 hm).1 h4
    stable := by
      rintro fp H' H2 ⟨a, rfl, h1, h2, h3, h4, h5⟩ hle hk
      exact ⟨a, rfl, fun v hv => (hk v.1 (by simp; exact .inl ⟨_, _, hv⟩)).trans (h1 v hv), ⟨(hk A.c (by simp)).trans h2.1, h2.2.moved fun m hm => hk m (by simp [hm])⟩, fun m hm => (hk m (by simp [hm])).trans (h3 m hm), Nat.le_trans h4 hle, h5⟩ }
  refine range_ofO hf hrd hitem (fun j fp H' => G j fp H' ∧ ∀ i, i < j → stop i = none) (fun ap j fp H' => G j fp H' ∧ ∃ i, j = i + 1 ∧ i < len ∧ stop i = some ap ∧ ∀ i', i' < i → stop i' = none)
    (fun j => ⟨fun fp H' h => (hG j).lt fp H' h.1, fun fp H' H2 h hle hk => ⟨(hG j).stable fp H' H2 h.1 hle hk, h.2⟩⟩)
    (fun ap j => ⟨fun fp H' h => (hG j).lt fp H' h.1, fun fp H' H2 h hle hk => ⟨(hG j).stable fp H' H2 h.1 hle hk, h.2⟩⟩)
    (fp0 := vs.map (·.1) ++ A.c :: (a0.names ++ other)) ⟨⟨a0, rfl, h0, h0a, fun _ _ => rfl, Nat.le_refl _, fun m hm => .inl hm⟩, fun i hi => by omega⟩ ?_ own (fun m hm => by
      obtain ⟨h1, h2, h3, h4⟩ := hown m hm
      refine ⟨h1, fun hh => ?_⟩
      simp only [List.mem_append, List.mem_cons] at hh
      rcases hh with hh | hh | hh | hh
      · exact h2 hh
      · exact h3 hh
      · exact h4 hh
      · exact ((hother m).1 hh).2.2.2.2 hm) hiter ?_ ?_
  · rintro as' bd' j fp H1 hj hn hl hrec ⟨⟨a, rfl, hv, ha, ho, hle, hnm⟩, hst⟩
    have hkm : ∀ m, m < H.length → m ∉ vs.map (·.1) → m ≠ A.c → m ∉ a0.names → m ∉ own → H1[m]? = H[m]? := fun m a b c d e => ho m ((hother m).2 ⟨a, b, c, d, e⟩)
    refine (hbody as' bd' j H1 a hj hst hl hkm hrec hv ha).mono ?_
    rintro av H' ⟨q1, q2, q3, ⟨a', q4, q5⟩, rfl, q6⟩
    have hn' : H.length ∉ vs.map (·.1) ++ A.c :: (a'.names ++ other) := by
      intro hm
      simp only [List.mem_append, List.mem_cons] at hm hn
      rcases hm with hm | hm | hm | hm
      · exact hn (.inl hm)
      · exact hn (.inr (.inl hm))
      · rcases q5 _ hm with h | h
        · exact hn (.inr (.inr (.inl h)))
        · omega
      · exact hn (.inr (.inr (.inr hm)))
    have ho' : ∀ m ∈ other, H'[m]? = H[m]? := fun m hm => by
      obtain ⟨h1, h2, h3, h4, _⟩ := (hother m).1 hm
      rw [q2 m (by omega) (by omega) h2 h3 ?_, ho m hm]
      intro h5
      rcases hnm m h5 with h6 | h6
      · exact h4 h6
      · omega
    have hg : G (j + 1) (vs.map (·.1) ++ A.c :: (a'.names ++ other)) H' := ⟨a', rfl, q3, q4, ho', by omega, fun m hm => by
      rcases q5 m hm with h | h
      · exact hnm m h
      · exact .inr (by omega)⟩
    refine ⟨_, ⟨q1, fun m hm => ?_, fun m hm hf => ?_⟩, hn', ?_⟩
    · simp only [List.mem_append, List.mem_cons] at hm ⊢
      rcases hm with rfl | hm | rfl | hm | hm
      · exact .inl (.inl rfl)
      · exact .inl (.inr (.inl hm))
      · exact .inl (.inr (.inr (.inl rfl)))
      · rcases q5 m hm with h | h
        · exact .inl (.inr (.inr (.inr (.inl h))))
        · exact .inr h
      · exact .inl (.inr (.inr (.inr (.inr hm))))
    · simp only [List.mem_append, List.mem_cons, not_or] at hf
      exact q2 m hm hf.1 hf.2.1 hf.2.2.1 hf.2.2.2.1
    · cases hs : stop j with
      | none =>
        rw [hs] at q6
        refine .inl ⟨rfl, q6, hg, fun i hi => ?_⟩
        by_cases hij : i < j
        · exact hst i hij
        · have : i = j := by omega
          subst this; exact hs
      | some ap =>
        rw [hs] at q6
        exact .inr ⟨ap, rfl, q6, hg, j, rfl, hj, hs, hst⟩
  · rintro fp H' hl hk ⟨⟨a, rfl, hv, ha, ho, hle, hnm⟩, hst⟩
    exact hend H' a hl (fun m a b c d e => ho m ((hother m).2 ⟨a, b, c, d, e⟩)) hst hv ha
  · rintro ap j fp H' hl hk ⟨⟨a, rfl, hv, ha, ho, hle, hnm⟩, i, rfl, hi, hs, hst⟩
    exact hstop ap i H' a hl (fun m a b c d e => ho m ((hother m).2 ⟨a, b, c, d, e⟩)) hi hs hst hv ha

end

/-! ### Names below -/

mutual
theorem closed_mono {L L' : Nat} (h : L ≤ L') : ∀ (a : AVal), closed L a → closed L' a
  | .ptr n off, x => Nat.lt_of_lt_of_le x h
  | .slc n off len sz, x => Nat.lt_of_lt_of_le x h
  | .mapv n, x => Nat.lt_of_lt_of_le x h
  | .yld n, x => Nat.lt_of_lt_of_le x h
  | .sptr s off, x => closed_mono h s x
  | .imm cs len t, x => closeds_mono h cs x
  | .fn g a b, x => ⟨closeds_mono h a x.1, closeds_mono h b x.2⟩
  | .agg cs, x => closeds_mono h cs x
  | .tup cs, x => closeds_mono h cs x
  | .junk, _ => trivial
  | .bool _, _ => trivial
  | .int _ _, _ => trivial
  | .str _, _ => trivial
  | .nilp, _ => trivial
  | .nils, _ => trivial
  | .nilf, _ => trivial
  | .nilm, _ => trivial
theorem closeds_mono {L L' : Nat} (h : L ≤ L') : ∀ (cs : List AVal), closeds L cs → closeds L' cs
  | [], _ => trivial
  | c :: cs, x => ⟨closed_mono h c x.1, closeds_mono h cs x.2⟩
end

theorem closedB_mono {L L' : Nat} (h : L ≤ L') {c : ABlk} (x : closedB L c) : closedB L' c := by
  cases c with
  | dead => trivial
  | cells cs el => exact closeds_mono h cs x
  | vec cs el sz => exact closeds_mono h cs x
  | map es => exact fun p hp => ⟨closed_mono h _ (x p hp).1, closed_mono h _ (x p hp).2⟩
  | loop l => exact fun i => closed_mono h _ (x i)

theorem ClosedH.push {H : AHeap} (h : ClosedH H) {b : ABlk} (hb : closedB (H.length + 1) b) : ClosedH (H ++ [b]) := by
  intro n c hc
  rw [List.length_append, List.length_singleton]
  by_cases hn : n < H.length
  · rw [List.getElem?_append_left hn] at hc
    exact closedB_mono (by omega) (h n c hc)
  · rw [List.getElem?_append_right (by omega)] at hc
    have : n - H.length = 0 := by
      have := (List.getElem?_eq_some_iff.1 hc).1
      simp at this; omega
    rw [this] at hc
    cases hc; exact hb

theorem mvI_ptr {m n o : Nat} {cs : List AVal} (h : n ≠ m) : mv (iceF m cs) (.ptr n o) = .ptr n o := by simp only [mv, iceF_ne h, mvPtr]
theorem mvI_yld {m n : Nat} {cs : List AVal} (h : n ≠ m) : mv (iceF m cs) (.yld n) = .yld n := by simp only [mv, iceF_ne h, mvYld]
theorem mvI_slc {m n o l z : Nat} {cs : List AVal} (h : n ≠ m) : mv (iceF m cs) (.slc n o l z) = .slc n o l z := by simp only [mv, iceF_ne h, mvSlc]
theorem mvI_int {f : Nat → To} {k : IntKind} {n : Int} : mv f (.int k n) = .int k n := rfl
theorem mvI_bool {f : Nat → To} {b : Bool} : mv f (.bool b) = .bool b := rfl
theorem mvI_nils {f : Nat → To} : mv f .nils = .nils := rfl
theorem mvRegs_nil {f : Nat → To} : mvRegs f [] = [] := rfl
theorem mvRegs_cons {f : Nat → To} {i : Nat} {v : AVal} {r : Regs} : mvRegs f ((i, v) :: r) = (i, mv f v) :: mvRegs f r := rfl

/-- A variable of some cells that is never written to again. -/
def cellN (cs : List AVal) : AVal := .sptr (.imm cs cs.length true) 0

theorem load_imm {H : AHeap} {cs : List AVal} {n o : Nat} {t : Bool} (h : o < cs.length) : loadA H none (.sptr (.imm cs n t) o) = some (True, cs.getD o .junk) := by
  simp only [loadA, cellsAt, view, Option.map_some]
  congr 2
  · simp; omega
  · rw [List.headD_eq_head?_getD, List.head?_drop]
    simp [List.getD_eq_getElem?_getD]
theorem load_immN {H : AHeap} {cs : List AVal} {n o k : Nat} {t : Bool} (h : o + k ≤ cs.length) : loadA H (some k) (.sptr (.imm cs n t) o) = some (True, .agg ((cs.drop o).take k)) := by
  simp only [loadA, cellsAt, view, Option.map_some]
  congr 2
  simp; omega

theorem ice_cloN {H L : AHeap} {Q : AVal → AHeap → Prop} {g : FuncId} {cs : List AVal} {T : TypeId} (ha : closeds H.length cs) (hq : Q (.fn g [] [cellN cs]) H) : IceQ H Q (.fn g [] [.ptr H.length 0]) (H ++ .cells cs T :: L) := by
  refine ⟨keeps_append _ _, [(H.length, cs)], .fn g [] [cellN cs], ?_, ?_, hq⟩
  · intro p hp
    simp only [List.mem_singleton] at hp
    subst hp
    exact ⟨cs, by simp [content], (mvs_id (L := H.length) (fun _ h => toF_low h) _ ha).symm, colds_of (L := H.length) (fun _ h => toF_low h) _ ha⟩
  · have : toF H.length [] [(H.length, cs)] H.length = .ice cs := by simp [toF, findN, findI]
    simp only [mv, mvs, this, mvPtr]
    exact Sees.refl _

end Go.Am

namespace Go.Am
open Go
set_option linter.unusedVariables false

/-! ### Methods that write to one block that was there, and hand back a new list -/

/-- What such a method's end is asked. -/
def MutIceQ (H : AHeap) (p : Nat) (Q : AVal → AHeap → Prop) (av : AVal) (H' : AHeap) : Prop :=
  H.length ≤ H'.length ∧ (∀ n, n < H.length → n ≠ p → H'[n]? = H[n]?) ∧ ∃ b, H'[p]? = some b ∧ closedB H.length b ∧ ∃ is av',
    (∀ p ∈ is, ∃ cs0, content H'[p.1]? = some cs0 ∧ p.2 = mvs (toF H.length [] is) cs0 ∧ colds (toF H.length [] is) cs0) ∧ Sees (mv (toF H.length [] is) av) av' ∧ Q av' (H.set p b)

theorem fun_mutice {P : Program} {f : FuncId} {fn : AFun} {args : List AVal} {H : AHeap} {Q : AVal → AHeap → Prop} (hf : okFun P f fn = true) (p : Nat)
    (h : closeds H.length args → FunOK P f args H (MutIceQ H p Q)) : FunOK P f args H Q := by
  refine fun_less (Q' := fun av H' => ∃ av', Sees av av' ∧ Q av' H') (fun_gh (fun _ ha => h ha) (fun av H' hc _ ⟨hle, hk, b, hb, hcb, is, av', his, hs, hq⟩ => ?_) (callable_of hf)) fun _ _ h => h
  have := left_of (H' := H') hc hle [] is (fun n c hn hx => by
    by_cases hnp : n = p
    · subst hnp
      rw [hb] at hx; cases hx
      exact .inr (mv_blk (L := H.length) (fun _ h => toF_low h) hcb)
    · exact .inl (by rw [← hk n hn hnp]; exact hx)) (by simp) his (by simp)
  refine ⟨_, _, this, av', hs, ?_⟩
  have e : H'.take H.length ++ List.map (fun m => mvBlk (toF H.length [] is) (H'.getD m .dead)) [] = H.set p b := by
    simp only [List.map_nil, List.append_nil]
    refine List.ext_getElem? fun i => ?_
    rw [List.getElem?_take]
    by_cases hi : i < H.length
    · rw [if_pos hi]
      by_cases hip : i = p
      · subst hip
        rw [List.getElem?_set_self hi, hb]
      · rw [List.getElem?_set_ne (fun h => hip h.symm), hk i hi hip]
    · rw [if_neg hi, List.getElem?_eq_none (by simp; omega)]
  rw [e]; exact hq

theorem mutice_own {H H' : AHeap} {p : Nat} {Q : AVal → AHeap → Prop} {a : AVal} {b : ABlk} {w n : Nat} {el : TypeId} {cs : List AVal} (h1 : H.length ≤ H'.length) (h2 : ∀ n, n < H.length → n ≠ p → H'[n]? = H[n]?) (h3 : H'[p]? = some b) (h4 : closedB H.length b)
    (ho : Own w el H.length H' a n cs) (hc : closeds H.length cs) (hq : Q (.imm cs n false) (H.set p b)) : MutIceQ H p Q a H' := by
  refine ⟨h1, h2, b, h3, h4, ?_⟩
  have hl := ho.len
  rcases ho.is with ⟨rfl, rfl⟩ | ⟨m, hb, rfl, hm⟩
  · have : cs = [] := List.length_eq_zero_iff.1 (by simpa using hl)
    subst this
    exact ⟨[], _, by simp, Sees.nils false, hq⟩
  · refine ⟨[(m, cs)], .imm cs n false, ?_, ?_, hq⟩
    · intro p hp
      simp only [List.mem_singleton] at hp
      subst hp
      exact ⟨cs, by simp [hm, content], (mvs_id (L := H.length) (fun _ h => toF_low h) cs hc).symm, colds_of (L := H.length) (fun _ h => toF_low h) cs hc⟩
    · have : toF H.length [] [(m, cs)] m = .ice cs := by
        unfold toF; rw [if_neg (by omega)]; simp [findN, findI]
      simp only [mv, this, mvSlc, List.drop_zero, ← hl, List.take_length]
      exact Sees.refl _

theorem mutice_flat {H H' : AHeap} {p : Nat} {Q : AVal → AHeap → Prop} {a : AVal} {b : ABlk} (h1 : H.length ≤ H'.length) (h2 : ∀ n, n < H.length → n ≠ p → H'[n]? = H[n]?) (h3 : H'[p]? = some b) (h4 : closedB H.length b)
    (ha : closed H.length a) (hq : Q a (H.set p b)) : MutIceQ H p Q a H' :=
  ⟨h1, h2, b, h3, h4, [], a, by simp, by rw [mv_id (L := H.length) (fun _ h => toF_low h) a ha]; exact Sees.refl _, hq⟩

theorem set_self {α : Type} {l : List α} {i : Nat} {x : α} (h : l[i]? = some x) : l.set i x = l := by
  apply List.ext_getElem?
  intro j
  by_cases hj : i = j
  · subst hj
    obtain ⟨hl, hx⟩ := List.getElem?_eq_some_iff.1 h
    rw [List.getElem?_set_self hl, h]
  · rw [List.getElem?_set_ne hj]

/-- A closure is called. -/
theorem callK_clo {P : Program} {c : Ctx} {T : List AItem} {Q : AVal → AHeap → Prop} {f : FuncId} {cap args : List AVal} {dst : Option Nat} {os : List AOper} {live : List Nat} {k : List AItem} {r : Regs} {H : AHeap} (h : FunOK P f (args ++ cap) H fun av H' => RunL P c os live k T (rput dst av r) H' Q) : CallK P c (.fn f [] cap) args dst os live k T r H Q := by
  simpa [CallK, CallV] using h

set_option linter.unusedVariables false
set_option linter.unusedSimpArgs false

section
variable {P : Program} {c : Ctx} {k : List AItem} {r : Regs} {H : AHeap} {Q : AVal → AHeap → Prop}

theorem range_accW {f : AOpd} {ps : List Nat} {as bd : ACode} {g : FuncId} {first captured : List AVal} (hf : geto r f = .fn g first captured) (hrd : ∀ n, c.rd = some n → ∃ L, H[n]? = some (.loop L))
    {item : Nat → List AVal} {len : Nat} (hitem : ∀ j, (item j).length = ps.length) (vs : List VarN) (A : Acc) (stop : Nat → Option AJump) {a0 : AVal} (h0 : VarsN vs 0 H) (h0a : A.at_ 0 H a0) (own : List Nat) (hown : ∀ m ∈ own, m < H.length ∧ m ∉ vs.map (·.1) ∧ m ≠ A.c ∧ m ∉ a0.names)
    (hbody : ∀ as' bd' j H1 a, j < len → (∀ i, i < j → stop i = none) → H.length < H1.length → (∀ m, m < H.length → m ∉ vs.map (·.1) → m ≠ A.c → m ∉ a0.names → m ∉ own → H1[m]? = H[m]?) → H1[H.length]? = some (.loop (lrec c r ps as' bd' .ready none)) → VarsN vs j H1 → A.at_ j H1 a →
      Run P ⟨c.fn, c.nt, [], some H.length⟩ [.code as, .begin, .code bd] ((ps.zip (item j)).reverse ++ r) H1 (AccQN vs A H.length (lrec c r ps as' bd') j (stop j) a H1))
    (hiter : ∀ H1, H1.length = H.length + 1 → (∀ m, m < H.length → H1[m]? = H[m]?) → Iter P g (first ++ [.yld H.length] ++ captured) H.length item len own H1)
    (hend : ∀ H' a, H.length < H'.length → (∀ m, m < H.length → m ∉ vs.map (·.1) → m ≠ A.c → m ∉ a0.names → H'[m]? = H[m]?) → (∀ i, i < len → stop i = none) → VarsN vs len H' → A.at_ len H' a → Run P c k r H' Q)
    (hstop : ∀ ap j H' a, H.length < H'.length → (∀ m, m < H.length → m ∉ vs.map (·.1) → m ≠ A.c → m ∉ a0.names → H'[m]? = H[m]?) → j < len → stop j = some ap → (∀ i, i < j → stop i = none) → VarsN vs (j + 1) H' → A.at_ (j + 1) H' a → Run P c (jumpItems (some ap) ++ k) r H' Q) :
    Run P c (.code (.range f ps as bd) :: k) r H Q := by
  let other : List Nat := (List.range H.length).filter (fun m => !(vs.map (·.1)).contains m && !(m == A.c) && !a0.names.contains m && !own.contains m)
  have hother : ∀ m, m ∈ other ↔ m < H.length ∧ m ∉ vs.map (·.1) ∧ m ≠ A.c ∧ m ∉ a0.names ∧ m ∉ own := fun m => by
    simp only [other, List.mem_filter, List.mem_range, Bool.and_eq_true, Bool.not_eq_true', beq_eq_false_iff_ne, List.contains_eq_mem, decide_eq_false_iff_not, and_assoc]
  have hown2 : ∀ m ∈ own, m < H.length ∧ m ∉ vs.map (·.1) ++ A.c :: (a0.names ++ other) := fun m hm => by
      obtain ⟨h1, h2, h3, h4⟩ := hown m hm
      refine ⟨h1, fun hh => ?_⟩
      simp only [List.mem_append, List.mem_cons] at hh
      rcases hh with hh | hh | hh | hh
      · exact h2 hh
      · exact h3 hh
      · exact h4 hh
      · exact ((hother m).1 hh).2.2.2.2 hm
  -- what is known behind j rounds
  let G : Nat → List Nat → AHeap → Prop := fun j fp H' => ∃ a, fp = vs.map (·.1) ++ A.c :: (a.names ++ other) ∧ VarsN vs j H' ∧ A.at_ j H' a ∧ (∀ m ∈ other, H'[m]? = H[m]?) ∧ H.length ≤ H'.length ∧ ∀ m ∈ a.names, m ∈ a0.names ∨ H.length ≤ m
  have hG : ∀ j, Foot (G j) := fun j => {
    lt := by
      rintro fp H' ⟨a, rfl, h1, h2, h3, h4, h5⟩ m hm
      simp only [List.mem_append, List.mem_cons] at hm
      rcases hm with hm | rfl | hm | hm
      · obtain ⟨v, hv, rfl⟩ := List.mem_map.1 hm
        exact (List.getElem?_eq_some_iff.1 (h1 v hv)).1
      · exact (List.getElem?_eq_some_iff.1 h2.1).1
      · exact (h2.2.lt m hm).2
      · exact Nat.lt_of_lt_of_le ((hother m).1 hm).1 h4
    stable := by
      rintro fp H' H2 ⟨a, rfl, h1, h2, h3, h4, h5⟩ hle hk
      exact ⟨a, rfl, fun v hv => (hk v.1 (by simp; exact .inl ⟨_, _, hv⟩)).trans (h1 v hv), ⟨(hk A.c (by simp)).trans h2.1, h2.2.moved fun m hm => hk m (by simp [hm])⟩, fun m hm => (hk m (by simp [hm])).trans (h3 m hm), Nat.le_trans h4 hle, h5⟩ }
  refine range_of hf hrd hitem (fun j fp H' => G j fp H' ∧ ∀ i, i < j → stop i = none) (fun ap j fp H' => G j fp H' ∧ ∃ i, j = i + 1 ∧ i < len ∧ stop i = some ap ∧ ∀ i', i' < i → stop i' = none)
    (fun j => ⟨fun fp H' h => (hG j).lt fp H' h.1, fun fp H' H2 h hle hk => ⟨(hG j).stable fp H' H2 h.1 hle hk, h.2⟩⟩)
    (fun ap j => ⟨fun fp H' h => (hG j).lt fp H' h.1, fun fp H' H2 h hle hk => ⟨(hG j).stable fp H' H2 h.1 hle hk, h.2⟩⟩)
    (fp0 := vs.map (·.1) ++ A.c :: (a0.names ++ other)) ⟨⟨a0, rfl, h0, h0a, fun _ _ => rfl, Nat.le_refl _, fun m hm => .inl hm⟩, fun i hi => by omega⟩ ?_ own hown2 hiter ?_ ?_
  · rintro as' bd' j fp H1 hj hn hl hrec ⟨⟨a, rfl, hv, ha, ho, hle, hnm⟩, hst⟩
    have hkm : ∀ m, m < H.length → m ∉ vs.map (·.1) → m ≠ A.c → m ∉ a0.names → m ∉ own → H1[m]? = H[m]? := fun m a b c d e => ho m ((hother m).2 ⟨a, b, c, d, e⟩)
    refine (hbody as' bd' j H1 a hj hst hl hkm hrec hv ha).mono ?_
    rintro av H' ⟨q1, q2, q3, ⟨a', q4, q5⟩, rfl, q6⟩
    have hn' : H.length ∉ vs.map (·.1) ++ A.c :: (a'.names ++ other) := by
      intro hm
      simp only [List.mem_append, List.mem_cons] at hm hn
      rcases hm with hm | hm | hm | hm
      · exact hn (.inl hm)
      · exact hn (.inr (.inl hm))
      · rcases q5 _ hm with h | h
        · exact hn (.inr (.inr (.inl h)))
        · omega
      · exact hn (.inr (.inr (.inr hm)))
    have ho' : ∀ m ∈ other, H'[m]? = H[m]? := fun m hm => by
      obtain ⟨h1, h2, h3, h4, _⟩ := (hother m).1 hm
      rw [q2 m (by omega) (by omega) h2 h3 ?_, ho m hm]
      intro h5
      rcases hnm m h5 with h6 | h6
      · exact h4 h6
      · omega
    have hg : G (j + 1) (vs.map (·.1) ++ A.c :: (a'.names ++ other)) H' := ⟨a', rfl, q3, q4, ho', by omega, fun m hm => by
      rcases q5 m hm with h | h
      · exact hnm m h
      · exact .inr (by omega)⟩
    refine ⟨_, ⟨q1, fun m hm => ?_, fun m hm hf => ?_⟩, hn', ?_⟩
    · simp only [List.mem_append, List.mem_cons] at hm ⊢
      rcases hm with rfl | hm | rfl | hm | hm
      · exact .inl (.inl rfl)
      · exact .inl (.inr (.inl hm))
      · exact .inl (.inr (.inr (.inl rfl)))
      · rcases q5 m hm with h | h
        · exact .inl (.inr (.inr (.inr (.inl h))))
        · exact .inr h
      · exact .inl (.inr (.inr (.inr (.inr hm))))
    · simp only [List.mem_append, List.mem_cons, not_or] at hf
      exact q2 m hm hf.1 hf.2.1 hf.2.2.1 hf.2.2.2.1
    · cases hs : stop j with
      | none =>
        rw [hs] at q6
        refine .inl ⟨rfl, q6, hg, fun i hi => ?_⟩
        by_cases hij : i < j
        · exact hst i hij
        · have : i = j := by omega
          subst this; exact hs
      | some ap =>
        rw [hs] at q6
        exact .inr ⟨ap, rfl, q6, hg, j, rfl, hj, hs, hst⟩
  · rintro fp H' hl hk ⟨⟨a, rfl, hv, ha, ho, hle, hnm⟩, hst⟩
    exact hend H' a hl (fun m a b c d => by
      by_cases e : m ∈ own
      · exact hk m a (hown2 m e).2
      · exact ho m ((hother m).2 ⟨a, b, c, d, e⟩)) hst hv ha
  · rintro ap j fp H' hl hk ⟨⟨a, rfl, hv, ha, ho, hle, hnm⟩, i, rfl, hi, hs, hst⟩
    exact hstop ap i H' a hl (fun m a b c d => by
      by_cases e : m ∈ own
      · exact hk m a (hown2 m e).2
      · exact ho m ((hother m).2 ⟨a, b, c, d, e⟩)) hi hs hst hv ha


/-- How a round ends. -/
def VarsNQ (vs : List VarN) (n : Nat) (L : LoopState → Option AJump → ALoop) (j : Nat) (stop : Option AJump) (H1 : AHeap) (av : AVal) (H' : AHeap) : Prop :=
  H1.length ≤ H'.length ∧ (∀ m, m < H1.length → m ≠ n → m ∉ vs.map (·.1) → H'[m]? = H1[m]?) ∧ VarsN vs (j + 1) H' ∧ av = .bool stop.isNone ∧ H'[n]? = some (.loop (L (if stop.isNone then .ready else .done) stop))

theorem varsNQ_mk {vs : List VarN} {n : Nat} {L : LoopState → Option AJump → ALoop} {j : Nat} {stop : Option AJump} {H1 : AHeap} {av : AVal} {H' : AHeap} (hs : av = .bool stop.isNone) (h1 : H1.length ≤ H'.length) (h2 : ∀ m, m < H1.length → m ≠ n → m ∉ vs.map (·.1) → H'[m]? = H1[m]?) (h3 : VarsN vs (j + 1) H') (h5 : H'[n]? = some (.loop (L (if stop.isNone then .ready else .done) stop))) : VarsNQ vs n L j stop H1 av H' := ⟨h1, h2, h3, hs, h5⟩

theorem range_varsW {f : AOpd} {ps : List Nat} {as bd : ACode} {g : FuncId} {first captured : List AVal} (hf : geto r f = .fn g first captured) (hrd : ∀ n, c.rd = some n → ∃ L, H[n]? = some (.loop L))
    {item : Nat → List AVal} {len : Nat} (hitem : ∀ j, (item j).length = ps.length) (vs : List VarN) (stop : Nat → Option AJump) (h0 : VarsN vs 0 H) (own : List Nat) (hown : ∀ m ∈ own, m < H.length ∧ m ∉ vs.map (·.1))
    (hbody : ∀ as' bd' j H1, j < len → (∀ i, i < j → stop i = none) → H.length < H1.length → (∀ m, m < H.length → m ∉ vs.map (·.1) → m ∉ own → H1[m]? = H[m]?) → H1[H.length]? = some (.loop (lrec c r ps as' bd' .ready none)) → VarsN vs j H1 →
      Run P ⟨c.fn, c.nt, [], some H.length⟩ [.code as, .begin, .code bd] ((ps.zip (item j)).reverse ++ r) H1 (VarsNQ vs H.length (lrec c r ps as' bd') j (stop j) H1))
    (hiter : ∀ H1, H1.length = H.length + 1 → (∀ m, m < H.length → H1[m]? = H[m]?) → Iter P g (first ++ [.yld H.length] ++ captured) H.length item len own H1)
    (hend : ∀ H', H.length < H'.length → (∀ m, m < H.length → m ∉ vs.map (·.1) → H'[m]? = H[m]?) → (∀ i, i < len → stop i = none) → VarsN vs len H' → Run P c k r H' Q)
    (hstop : ∀ ap j H', H.length < H'.length → (∀ m, m < H.length → m ∉ vs.map (·.1) → H'[m]? = H[m]?) → j < len → stop j = some ap → (∀ i, i < j → stop i = none) → VarsN vs (j + 1) H' → Run P c (jumpItems (some ap) ++ k) r H' Q) :
    Run P c (.code (.range f ps as bd) :: k) r H Q := by
  let other : List Nat := (List.range H.length).filter (fun m => !(vs.map (·.1)).contains m && !own.contains m)
  have hother : ∀ m, m ∈ other ↔ m < H.length ∧ m ∉ vs.map (·.1) ∧ m ∉ own := fun m => by
    simp only [other, List.mem_filter, List.mem_range, Bool.and_eq_true, Bool.not_eq_true', beq_eq_false_iff_ne, List.contains_eq_mem, decide_eq_false_iff_not, and_assoc]
  have hown2 : ∀ m ∈ own, m < H.length ∧ m ∉ vs.map (·.1) ++ other := fun m hm => by
    refine ⟨(hown m hm).1, fun hh => ?_⟩
    rcases List.mem_append.1 hh with hh | hh
    · exact (hown m hm).2 hh
    · exact ((hother m).1 hh).2.2 hm
  let G : Nat → List Nat → AHeap → Prop := fun j fp H' => fp = vs.map (·.1) ++ other ∧ VarsN vs j H' ∧ (∀ m ∈ other, H'[m]? = H[m]?) ∧ H.length ≤ H'.length
  have hlt : ∀ m ∈ vs.map (·.1), m < H.length := fun m hm => by
    obtain ⟨v, hv, rfl⟩ := List.mem_map.1 hm
    exact (List.getElem?_eq_some_iff.1 (h0 v hv)).1
  have hG : ∀ j, Foot (G j) := fun j => {
    lt := by
      rintro fp H' ⟨rfl, h1, h3, h4⟩ m hm
      rcases List.mem_append.1 hm with hm | hm
      · exact Nat.lt_of_lt_of_le (hlt m hm) h4
      · exact Nat.lt_of_lt_of_le ((hother m).1 hm).1 h4
    stable := by
      rintro fp H' H2 ⟨rfl, h1, h3, h4⟩ hle hk
      exact ⟨rfl, fun v hv => (hk v.1 (by simp; exact .inl ⟨_, _, hv⟩)).trans (h1 v hv), fun m hm => (hk m (by simp [hm])).trans (h3 m hm), Nat.le_trans h4 hle⟩ }
  refine range_of hf hrd hitem (fun j fp H' => G j fp H' ∧ ∀ i, i < j → stop i = none) (fun ap j fp H' => G j fp H' ∧ ∃ i, j = i + 1 ∧ i < len ∧ stop i = some ap ∧ ∀ i', i' < i → stop i' = none)
    (fun j => ⟨fun fp H' h => (hG j).lt fp H' h.1, fun fp H' H2 h hle hk => ⟨(hG j).stable fp H' H2 h.1 hle hk, h.2⟩⟩)
    (fun ap j => ⟨fun fp H' h => (hG j).lt fp H' h.1, fun fp H' H2 h hle hk => ⟨(hG j).stable fp H' H2 h.1 hle hk, h.2⟩⟩)
    (fp0 := vs.map (·.1) ++ other) ⟨⟨rfl, h0, fun _ _ => rfl, Nat.le_refl _⟩, fun i hi => by omega⟩ ?_ own hown2 hiter ?_ ?_
  · rintro as' bd' j fp H1 hj hn hl hrec ⟨⟨rfl, hv, ho, hle⟩, hst⟩
    have hkm : ∀ m, m < H.length → m ∉ vs.map (·.1) → m ∉ own → H1[m]? = H[m]? := fun m a b e => ho m ((hother m).2 ⟨a, b, e⟩)
    refine (hbody as' bd' j H1 hj hst hl hkm hrec hv).mono ?_
    rintro av H' ⟨q1, q2, q3, rfl, q6⟩
    have ho' : ∀ m ∈ other, H'[m]? = H[m]? := fun m hm => by
      obtain ⟨h1, h2, _⟩ := (hother m).1 hm
      rw [q2 m (by omega) (by omega) h2, ho m hm]
    have hg : G (j + 1) (vs.map (·.1) ++ other) H' := ⟨rfl, q3, ho', by omega⟩
    refine ⟨_, ⟨q1, fun m hm => .inl hm, fun m hm hf => ?_⟩, hn, ?_⟩
    · simp only [List.mem_append, List.mem_cons, not_or] at hf
      exact q2 m hm hf.1 hf.2.1
    · cases hs : stop j with
      | none =>
        rw [hs] at q6
        refine .inl ⟨rfl, q6, hg, fun i hi => ?_⟩
        by_cases hij : i < j
        · exact hst i hij
        · have : i = j := by omega
          subst this; exact hs
      | some ap =>
        rw [hs] at q6
        exact .inr ⟨ap, rfl, q6, hg, j, rfl, hj, hs, hst⟩
  · rintro fp H' hl hk ⟨⟨rfl, hv, ho, hle⟩, hst⟩
    exact hend H' hl (fun m a b => by
      by_cases e : m ∈ own
      · exact hk m a (hown2 m e).2
      · exact ho m ((hother m).2 ⟨a, b, e⟩)) hst hv
  · rintro ap j fp H' hl hk ⟨⟨rfl, hv, ho, hle⟩, i, rfl, hi, hs, hst⟩
    exact hstop ap i H' hl (fun m a b => by
      by_cases e : m ∈ own
      · exact hk m a (hown2 m e).2
      · exact ho m ((hother m).2 ⟨a, b, e⟩)) hi hs hst hv

end

theorem fillAt_one {cs : List AVal} {j : Nat} {v : AVal} : fillAt cs j [v] = cs.set j v := rfl

theorem Own.split {el : TypeId} {B : Nat} {H : AHeap} {a : AVal} {n : Nat} {cs : List AVal} (h : Own 1 el B H a n cs) (hn : 0 < n) : ∃ m, B ≤ m ∧ m < H.length ∧ a = .slc m 0 n 1 ∧ H[m]? = some (.vec cs el 1) ∧ cs.length = n := by
  have hl := h.len
  rcases h.is with ⟨rfl, rfl⟩ | ⟨m, hb, rfl, hm⟩
  · omega
  · exact ⟨m, hb, (List.getElem?_eq_some_iff.1 hm).1, rfl, hm, by omega⟩

theorem store_vec {el : TypeId} {H : AHeap} {m n j : Nat} {cs : List AVal} {v : AVal} (hm : H[m]? = some (.vec cs el 1)) (hl : cs.length = n) (hj : j < n) (hv : v.cells = [v]) (hc : v.cellish = true) :
    storeA H 1 (.sptr (.slc m 0 n 1) j) v = some (True, H.set m (.vec (cs.set j v) el 1)) := by
  simp only [storeA, hm, hv, Nat.zero_add, fillAt_one]
  congr 2
  simp [hc]; omega

theorem load_vec {el : TypeId} {H : AHeap} {m n j : Nat} {cs : List AVal} (hm : H[m]? = some (.vec cs el 1)) (hl : cs.length = n) (hj : j < n) : loadA H none (.sptr (.slc m 0 n 1) j) = some (True, cs.getD j .junk) :=
  Own.load (w := 1) (el := el) (B := 0) (n := n) (cs := cs) ⟨by omega, .inr ⟨m, by omega, rfl, hm⟩⟩ (by omega)

theorem view_vec {el : TypeId} {H : AHeap} {m n : Nat} {cs : List AVal} (hm : H[m]? = some (.vec cs el 1)) (hl : cs.length = n) : (Am.view H (.slc m 0 n 1)).isSome = true :=
  Own.isSome (w := 1) (el := el) (B := 0) (n := n) (cs := cs) ⟨by omega, .inr ⟨m, by omega, rfl, hm⟩⟩

theorem slice_slc {m o n : Nat} {lo hi : Option Int} {l r : Nat} (hl : lo.getD 0 = l) (hr : hi.getD n = r) (hle : l ≤ r) (hrn : r ≤ n) : sliceA 1 (.slc m o n 1) lo hi none = some (True, .slc m (o + l) (r - l) 1) := by
  simp only [sliceA, bounds, hl, hr, Int.toNat_natCast, Nat.mul_one, Option.getD_none]
  congr 2
  simp; omega

theorem srcCells_slcv {el : TypeId} {H : AHeap} {m o n : Nat} {cs : List AVal} (hm : H[m]? = some (.vec cs el 1)) (h : o + n ≤ cs.length) : srcCells H (.slc m o n 1) = some ((cs.drop o).take n) := by
  simp only [srcCells, Am.view, hm, content, Nat.mul_one]
  simp [h]

/-! ### The least of some numbers -/

theorem goK_minN (P : Program) (c : Ctx) (Q : AVal → AHeap → Prop) (T : List AItem) (K : Mode → Prop) (dst : Option Nat) (g : Option (Nat × Bool)) (os : List AOper) (live : List Nat) (k : List AItem) (r : Regs) (H : AHeap) (xs : List AOpd) : GoK P c Q T K (some true) ⟨dst, (.minN xs), g⟩ os live k r H = ResK K (evalOp (geto r) H (.minN xs)) dst os live k r := rfl
theorem dgoK_minN (P : Program) (c : Ctx) (Q : AVal → AHeap → Prop) (T : List AItem) (K : Mode → Prop) (d : DS) (dst : Option Nat) (g : Option (Nat × Bool)) (i : Nat) (is : List Nat) (log : Log) (r : Regs) (H : AHeap) (xs : List AOpd) : DGoK P c Q T K d (some true) ⟨dst, (.minN xs), g⟩ i is log r H = DResK K d (evalOp (geto r) H (.minN xs)) (.minN xs) dst i is log r := rfl
theorem isEff_minN (xs : List AOpd) : isEff (.minN xs) = false := rfl
theorem isPure_minN (xs : List AOpd) : isPure (.minN xs) = true := rfl
def minR (H : AHeap) : Option AVal → Res
  | some v => .ok True v H
  | none => .bad
theorem evalOp_minN (g : AOpd → AVal) (H : AHeap) (xs : List AOpd) : evalOp g H (.minN xs) = minR H (minA (xs.map g)) := by
  simp only [evalOp]
  cases minA (xs.map g) <;> rfl
theorem minA_int (k : IntKind) (a : Int) (vs : List AVal) : minA (.int k a :: vs) = minGo k a vs := rfl
theorem minGo_int (k k' : IntKind) (a b : Int) (vs : List AVal) : minGo k a (.int k' b :: vs) = minGo k (if b < a then b else a) vs := rfl
theorem minGo_nil (k : IntKind) (a : Int) : minGo k a [] = some (.int k a) := rfl
theorem minR_some (H : AHeap) (v : AVal) : minR H (some v) = .ok True v H := rfl

end Go.Am

namespace Go.Am
open Go
set_option linter.unusedVariables false
set_option linter.unusedSimpArgs false

/-! ### A list of which it isn't known whether it is nil -/

section
variable {P : Program} {ρ : Nat → Option Nat} {H : AHeap} {w : World}

theorem eqnil_ok (hr : HRel (nm ρ H w)) {neg : Bool} {t el : TypeId} (ht : P.underlying t = some (.slice el)) {X Y : Operand} (p : Option Addr) (i j : Nat) :
    ResOk P (do eqGuard (if neg then .neq else .eql) t X Y (.slice p i j) (.slice none 0 0); binOp (if neg then .neq else .eql) t (.slice p i j) (.slice none 0 0)) ρ H w (.bool (if neg then !p.isNone else p.isNone)) H := by
  have := eq_by (P := P) (t := t) (X := X) (Y := Y) (x := .slice p i j) (y := .slice none 0 0) (neg := neg) (r := p.isNone) hr (fun op => guard_plain ⟨by simp, by simp⟩) (by simp only [binOp]; exact ⟨by simp, by simp⟩)
    (by have := run_equalIn_slice (P := P) (w := w) (d := 9999) ht p none i j 0 0 (.inr rfl); simpa using this)
  exact this
end

section
variable {P : Program} {c : Ctx} {k : List AItem} {r : Regs} {H : AHeap} {Q : AVal → AHeap → Prop}

theorem imm_nil {e : Nm} {cs : List AVal} {n : Nat} {t : Bool} {v : Value} (h : VRel e (.imm cs n t) v) : ∃ p i j, v = .slice p i j ∧ (p = none → cs = [] ∧ n = 0) := by
  simp only [VRel] at h
  obtain ⟨a, cap, rfl, _, _, h⟩ := h
  refine ⟨a, n, cap, rfl, fun hn => ?_⟩
  rcases h with h | ⟨b, o, rfl, _⟩
  · exact h
  · cases hn

/-- An operation of whose result only some things are known. -/
theorem runO_any {a : AOper} {as : List AOper} (hw : wants r a.guard = some true) (hcall : ∀ f args, a.op ≠ .call f args) (S : AVal → AHeap → Prop)
    (hop : ∀ (o : Oper) (ρ : Nat → Option Nat) (w : World) (tmps : Array Value), okOp P o.op a.op = true → RRel (nm ρ H w) r tmps → HRel (nm ρ H w) → ∃ av H', S av H' ∧ OpOk P (execOp (evalv tmps) o) ρ H w av H')
    (h : ∀ av H', S av H' → RunO P c as k (rput a.dst av r) H' Q) : RunO P c (a :: as) k r H Q := by
  intro B ρ w tmps D b cs k' ops is hr hl ho
  obtain ⟨i, is', o, rfl, ho1, ho2, ho3⟩ := opsRel_cons ho
  obtain ⟨e1, e2, _, e4⟩ := okOper_inv ho2
  have hwt := wanted_ok ho2 hr.regs hw
  rcases e4 with ⟨cl, x, f, args, _, hop', _⟩ | ⟨e4, _⟩
  · exact absurd hop' (hcall _ _)
  · obtain ⟨av, H', hS, rr, v, w', ρ', g1, g2, g3, g4, g5⟩ := hop o ρ w tmps e4 hr.regs hr.heap
    have hx := g5.ext
    obtain ⟨tmps', p1, p2, p3⟩ := put_rel (hr.regs.ext hx) g3 (dst := a.dst) (fun d hd => by rw [hr.nt]; exact e2 d hd) (marks D)
    have hfin : (b.atR ⟨tmps, marks D⟩ (.inRegion ops (i :: is') :: k')).finish v = b.atR ⟨tmps', marks D⟩ (.inRegion ops is' :: k') := by
      rw [Frame.finish_atR, ho1, ← p1, ← e1]; rfl
    have hg := stepGR_op (P := P) (b := b) (a := ⟨tmps, marks D⟩) (k := k') (cs := cs) (w := w) (rest := is') ho1 hwt
    rw [Oper.semAt_eq _ _ _ (not_defer e4), eval_act] at hg
    refine (h av H' hS B ρ' w' tmps' D b cs k' ops is' (hr.next g5 g4 p2 p3) hl ho3).steps (.one ?_) (g5.mono hr.le)
    refine step_lone_go ?_
    rw [hg, ← hfin]
    rcases g2 with rfl | ⟨rfl, rfl⟩
    · simp [stepG.apply, g1]
    · simp [stepG.apply, g1]

theorem runO_isnil {a : AOper} {as : List AOper} {neg : Bool} {x y : AOpd} (hop : a.op = .eq neg .slice x y) (hw : wants r a.guard = some true) {cs : List AVal} {n : Nat} {t : Bool} (hx : geto r x = .imm cs n t) (hy : geto r y = .nils)
    (h : ∀ b : Bool, (b = true → cs = [] ∧ n = 0) → RunO P c as k (rput a.dst (.bool (if neg then !b else b)) r) H Q) : RunO P c (a :: as) k r H Q := by
  refine runO_any hw (by rw [hop]; simp) (fun av H' => H' = H ∧ ∃ b : Bool, (b = true → cs = [] ∧ n = 0) ∧ av = .bool (if neg then !b else b)) ?_ ?_
  · intro o ρ w tmps e4 hrr hh
    rw [hop] at e4
    obtain ⟨dst, op, ty, pos, aft, gd⟩ := o
    simp only at e4
    unfold okOp at e4
    split at e4 <;> first | (cases e4; done) | (rename_i e5; cases e5; done) | skip
    rename_i op' t' x' y' yt neg' k'' x'' y'' e5
    cases e5
    simp only [Bool.and_eq_true, decide_eq_true_eq] at e4
    obtain ⟨⟨⟨rfl, h1⟩, h2⟩, h3⟩ := e4
    simp only [eqKindOk] at h3
    split at h3 <;> first | (cases h3; done) | skip
    rename_i hd
    have ra := cOpd_rel h1 hrr
    have rb := cOpd_rel h2 hrr
    rw [hx] at ra
    rw [hy] at rb
    obtain ⟨p, i1, j1, ev, hp⟩ := imm_nil ra
    have ev2 : evalv tmps y' = .slice none 0 0 := by simpa [VRel] using rb
    refine ⟨_, H, ⟨rfl, p.isNone, fun hb => hp (by simpa using hb), rfl⟩, ?_⟩
    exact (eqnil_ok (P := P) hh (neg := neg) hd (X := x') (Y := y') p i1 j1).val fun v w' hh' => by
      simp only [execOp]
      rw [← ev, ← ev2] at hh'
      exact run_v hh'
  · rintro av H' ⟨rfl, b, hb, rfl⟩
    exact h b hb

theorem runL_isnil {T : List AItem} {dst : Option Nat} {os : List AOper} {live : List Nat} {neg : Bool} {x y : AOpd} {cs : List AVal} {n : Nat} {t : Bool} (hx : geto r x = .imm cs n t) (hy : geto r y = .nils)
    (h : ∀ b : Bool, (b = true → cs = [] ∧ n = 0) → RunL P c os live k T (rput dst (.bool (if neg then !b else b)) r) H Q) : RunL P c (⟨dst, .eq neg .slice x y, none⟩ :: os) live k T r H Q :=
  runO_isnil (a := ⟨dst, .eq neg .slice x y, none⟩) rfl rfl hx hy h
end

theorem at_0s {H L : AHeap} {c : Nat} {b : ABlk} : (H.set c b ++ L)[H.length]? = L[0]? := by
  have := at_0 (H0 := H.set c b) (L := L); rwa [List.length_set] at this
theorem at_ks {H L : AHeap} {c k : Nat} {b : ABlk} : (H.set c b ++ L)[H.length + k]? = L[k]? := by
  have := at_k (H0 := H.set c b) (L := L) (k := k); rwa [List.length_set] at this
theorem set_0s {H L : AHeap} {c : Nat} {b x : ABlk} : (H.set c b ++ L).set H.length x = H.set c b ++ L.set 0 x := by
  have := set_0 (H0 := H.set c b) (L := L) (b := x); rwa [List.length_set] at this
theorem set_ks {H L : AHeap} {c k : Nat} {b x : ABlk} : (H.set c b ++ L).set (H.length + k) x = H.set c b ++ L.set k x := by
  have := set_k (H0 := H.set c b) (L := L) (k := k) (b := x); rwa [List.length_set] at this

/-- Several values in one; lists of its own are never written to again. -/
theorem ice_agg {H H' : AHeap} {Q : AVal → AHeap → Prop} (l : List (AVal × AVal)) (hk : Keeps H H') (hf : ∀ p ∈ l, Fin H H' p.1 p.2) (hq : Q (.agg (l.map (·.2))) H) : IceQ H Q (.agg (l.map (·.1))) H' := by
  refine ⟨hk, icesOf H.length l, .agg (l.map (·.2)), ice_many hf, ?_, hq⟩
  simp only [mv, mvs_map, List.map_map]
  refine Sees.agg ⟨by simp, fun i h1 h2 => ?_⟩
  simp only [List.getElem_map, Function.comp]
  exact ice_fin1 hf (List.getElem_mem (by simpa using h1))

/-! ### More rules of evaluation, under one name -/

theorem stdx : ((((type_of% @goK_s2b ∧ (type_of% @dgoK_s2b ∧ type_of% @isEff_s2b)) ∧ ((type_of% @isPure_s2b ∧ type_of% @goK_b2s) ∧ (type_of% @dgoK_b2s ∧ type_of% @isEff_b2s))) ∧ ((type_of% @isPure_b2s ∧ (type_of% @evalOp_s2b ∧ type_of% @goK_mark)) ∧ ((type_of% @dgoK_mark ∧ type_of% @isEff_mark) ∧ (type_of% @isPure_mark ∧ type_of% @evalOp_mark)))) ∧ (((type_of% @markA_slc ∧ (type_of% @goK_minN ∧ type_of% @dgoK_minN)) ∧ ((type_of% @isEff_minN ∧ type_of% @isPure_minN) ∧ (type_of% @evalOp_minN ∧ type_of% @minA_int))) ∧ ((type_of% @minGo_int ∧ (type_of% @minGo_nil ∧ type_of% @minR_some)) ∧ ((type_of% @Go.Am.s2bR.eq_1 ∧ type_of% @Go.Am.markB.eq_1) ∧ (type_of% @List.map_cons.{0, 0} ∧ type_of% @List.map_nil.{0, 0}))))) :=
  ⟨⟨⟨⟨@goK_s2b, ⟨@dgoK_s2b, @isEff_s2b⟩⟩, ⟨⟨@isPure_s2b, @goK_b2s⟩, ⟨@dgoK_b2s, @isEff_b2s⟩⟩⟩, ⟨⟨@isPure_b2s, ⟨@evalOp_s2b, @goK_mark⟩⟩, ⟨⟨@dgoK_mark, @isEff_mark⟩, ⟨@isPure_mark, @evalOp_mark⟩⟩⟩⟩, ⟨⟨⟨@markA_slc, ⟨@goK_minN, @dgoK_minN⟩⟩, ⟨⟨@isEff_minN, @isPure_minN⟩, ⟨@evalOp_minN, @minA_int⟩⟩⟩, ⟨⟨@minGo_int, ⟨@minGo_nil, @minR_some⟩⟩, ⟨⟨@Go.Am.s2bR.eq_1, @Go.Am.markB.eq_1⟩, ⟨@List.map_cons.{0, 0}, @List.map_nil.{0, 0}⟩⟩⟩⟩⟩

theorem lnx : ((type_of% @List.length_append.{0} ∧ (type_of% @List.length_cons.{0} ∧ type_of% @List.length_nil.{0})) ∧ ((type_of% @List.length_set.{0} ∧ type_of% @List.length_map.{0, 0}) ∧ (type_of% @List.length_take.{0} ∧ type_of% @List.length_drop.{0}))) :=
  ⟨⟨@List.length_append.{0}, ⟨@List.length_cons.{0}, @List.length_nil.{0}⟩⟩, ⟨⟨@List.length_set.{0}, @List.length_map.{0, 0}⟩, ⟨@List.length_take.{0}, @List.length_drop.{0}⟩⟩⟩
end Go.Am

namespace Go.Am
open Go
set_option linter.unusedVariables false
set_option linter.unusedSimpArgs false

/-! ### An iterator that ranges over another one, and hands on -/

section
variable {P : Program} {n : Nat} {item : Nat → List AVal} {len : Nat} {I : Bool → Nat → List Nat → AHeap → Prop}

/-- The blocks of ks are as they were at first; so far cnt j items were handed on. -/
def relayJ (I : Bool → Nat → List Nat → AHeap → Prop) (ks : List Nat) (H0 : AHeap) (cnt : Nat → Nat) (j : Nat) (fp : List Nat) (H : AHeap) : Prop :=
  ∃ fpI, fp = ks ++ fpI ∧ (∀ m ∈ ks, m ∉ fpI ∧ m < H0.length ∧ H[m]? = H0[m]?) ∧ H0.length ≤ H.length ∧ I true (cnt j) fpI H
def relayS (I : Bool → Nat → List Nat → AHeap → Prop) (ks : List Nat) (H0 : AHeap) (e : AJump) (ap : AJump) (j : Nat) (fp : List Nat) (H : AHeap) : Prop :=
  ap = e ∧ ∃ k fpI, fp = ks ++ fpI ∧ (∀ m ∈ ks, m ∉ fpI ∧ m < H0.length ∧ H[m]? = H0[m]?) ∧ H0.length ≤ H.length ∧ I false k fpI H

theorem relayJ_foot (hI : Fed P n item len I) (ks : List Nat) (H0 : AHeap) (cnt : Nat → Nat) (j : Nat) : Foot (relayJ I ks H0 cnt j) where
  lt := by
    rintro fp H ⟨fpI, rfl, h1, h2, h3⟩ m hm
    rcases List.mem_append.1 hm with hm | hm
    · exact Nat.lt_of_lt_of_le (h1 m hm).2.1 h2
    · exact (hI.foot true _).lt _ _ h3 m hm
  stable := by
    rintro fp H H' ⟨fpI, rfl, h1, h2, h3⟩ hle hk
    exact ⟨fpI, rfl, fun m hm => ⟨(h1 m hm).1, (h1 m hm).2.1, (hk m (by simp [hm])).trans (h1 m hm).2.2⟩, Nat.le_trans h2 hle, (hI.foot true _).stable _ _ _ h3 hle fun m hm => hk m (by simp [hm])⟩
theorem relayS_foot (hI : Fed P n item len I) (ks : List Nat) (H0 : AHeap) (e ap : AJump) (j : Nat) : Foot (relayS I ks H0 e ap j) where
  lt := by
    rintro fp H ⟨_, k, fpI, rfl, h1, h2, h3⟩ m hm
    rcases List.mem_append.1 hm with hm | hm
    · exact Nat.lt_of_lt_of_le (h1 m hm).2.1 h2
    · exact (hI.foot false _).lt _ _ h3 m hm
  stable := by
    rintro fp H H' ⟨e1, k, fpI, rfl, h1, h2, h3⟩ hle hk
    exact ⟨e1, k, fpI, rfl, fun m hm => ⟨(h1 m hm).1, (h1 m hm).2.1, (hk m (by simp [hm])).trans (h1 m hm).2.2⟩, Nat.le_trans h2 hle, (hI.foot false _).stable _ _ _ h3 hle fun m hm => hk m (by simp [hm])⟩

/-- What an item's handing on comes to, in a round whose loop lies at l. -/
structure Relayed (ks : List Nat) (H0 H1 : AHeap) (l : Nat) (b : ABlk) (fpI fp' : List Nat) (H' : AHeap) (I : Bool → Nat → List Nat → AHeap → Prop) : Prop where
  loop : H'[l]? = some b
  ln : l ∉ fp'
  kept : ∀ m ∈ ks, m ∉ fp' ∧ m < H0.length ∧ H'[m]? = H0[m]?
  le : H1.length ≤ H'.length
  le0 : H0.length ≤ H'.length
  touch : ∀ b', Touches (l :: (ks ++ fpI)) H1 (l :: (ks ++ fp')) (H'.set l b')
  set : ∀ b' x k, I x k fp' H' → I x k fp' (H'.set l b')

theorem relay_step (hI : Fed P n item len I) {ks : List Nat} {H0 H1 L : AHeap} {l j : Nat} {b : ABlk} {fpI : List Nat} (hj : j < len) (hl : l < H1.length) (hl0 : H0.length ≤ l) (hln : l ∉ fpI) (hk : ∀ m ∈ ks, m ∉ fpI ∧ m < H0.length ∧ H1[m]? = H0[m]?) (hi : I true j fpI H1) :
    CallV P (.yld n) (item j) (H1.set l b ++ L) fun av H' => ∃ fp', Relayed ks H0 H1 l b fpI fp' H' I ∧ ((av = .bool true ∧ I true (j + 1) fp' H') ∨ (av = .bool false ∧ I false (j + 1) fp' H')) := by
  have hi2 : I true j fpI (H1.set l b ++ L) := (hI.foot true j).stable _ _ _ hi (by simp) fun m hm => by
    have h1 := (hI.foot true j).lt _ _ hi m hm
    rw [List.getElem?_append_left (by simp; omega), List.getElem?_set_ne (by rintro rfl; exact hln hm)]
  refine CallV.mono (hI.step j fpI _ hj hi2) fun av H' hh => ?_
  obtain ⟨fp', ht, hh⟩ := hh
  have hle := ht.le
  rw [List.length_append, List.length_set] at hle
  have hq : ∀ m, m < H1.length → m ≠ l → m ∉ fpI → H'[m]? = H1[m]? := fun m h1 h2 h3 => by
    rw [ht.kept m (by simp; omega) h3, List.getElem?_append_left (by simp; omega), List.getElem?_set_ne (fun e => h2 e.symm)]
  have hnew : ∀ m, m ∈ fp' → m ∈ fpI ∨ H1.length ≤ m := fun m hm => by
    rcases ht.feet m hm with h | h
    · exact .inl h
    · rw [List.length_append, List.length_set] at h; exact .inr (by omega)
  have hln' : l ∉ fp' := fun hm => by
    rcases hnew _ hm with h | h
    · exact hln h
    · omega
  refine ⟨fp', ⟨?_, hln', fun m hm => ?_, by omega, by omega, fun b' => ⟨by simp; omega, fun m hm => ?_, fun m hm hf => ?_⟩, fun b' x k hx => ?_⟩, hh⟩
  · rw [ht.kept l (by simp; omega) hln, List.getElem?_append_left (by simp; omega), List.getElem?_set_self hl]
  · obtain ⟨a1, a2, a3⟩ := hk m hm
    refine ⟨fun h => ?_, a2, (hq m (by omega) (by omega) a1).trans a3⟩
    rcases hnew _ h with h | h
    · exact a1 h
    · omega
  · simp only [List.mem_cons, List.mem_append] at hm ⊢
    rcases hm with rfl | hm | hm
    · exact .inl (.inl rfl)
    · exact .inl (.inr (.inl hm))
    · rcases hnew _ hm with h | h
      · exact .inl (.inr (.inr h))
      · exact .inr h
  · simp only [List.mem_cons, List.mem_append, not_or] at hf
    rw [List.getElem?_set_ne (fun e => hf.1 e.symm)]
    exact hq m hm hf.1 hf.2.2
  · exact (hI.foot x k).stable _ _ _ hx (by simp) fun m hm => by rw [List.getElem?_set_ne (by rintro rfl; exact hln' hm)]

variable {c : Ctx} {r : Regs} {ps : List Nat} {as' bd' : Code} {ks : List Nat} {H0 H1 H' : AHeap} {l j : Nat} {fpI fp' : List Nat} {cnt : Nat → Nat} {e : AJump}

theorem relay_next {b : ABlk} (hr : Relayed ks H0 H1 l b fpI fp' H' I) (hl0 : H0.length ≤ l) (hi : I true (cnt (j + 1)) fp' H') :
    RoundQ c r ps as' bd' l (relayJ I ks H0 cnt) (relayS I ks H0 e) j (ks ++ fpI) H1 (.bool true) (H'.set l (.loop (lrec c r ps as' bd' .ready none))) := by
  have hll : l < H'.length := (List.getElem?_eq_some_iff.1 hr.loop).1
  refine ⟨ks ++ fp', hr.touch _, ?_, .inl ⟨rfl, List.getElem?_set_self hll, fp', rfl, fun m hm => ?_, by simp; exact hr.le0, hr.set _ _ _ hi⟩⟩
  · simp only [List.mem_append, not_or]
    exact ⟨fun h => by have := (hr.kept l h).2.1; omega, hr.ln⟩
  · obtain ⟨a1, a2, a3⟩ := hr.kept m hm
    exact ⟨a1, a2, by rw [List.getElem?_set_ne (by omega)]; exact a3⟩
theorem relay_stop {b : ABlk} {k : Nat} (hr : Relayed ks H0 H1 l b fpI fp' H' I) (hl0 : H0.length ≤ l) (hi : I false k fp' H') :
    RoundQ c r ps as' bd' l (relayJ I ks H0 cnt) (relayS I ks H0 e) j (ks ++ fpI) H1 (.bool false) (H'.set l (.loop (lrec c r ps as' bd' .done (some e)))) := by
  have hll : l < H'.length := (List.getElem?_eq_some_iff.1 hr.loop).1
  refine ⟨ks ++ fp', hr.touch _, ?_, .inr ⟨e, rfl, List.getElem?_set_self hll, rfl, k, fp', rfl, fun m hm => ?_, by simp; exact hr.le0, hr.set _ _ _ hi⟩⟩
  · simp only [List.mem_append, not_or]
    exact ⟨fun h => by have := (hr.kept l h).2.1; omega, hr.ln⟩
  · obtain ⟨a1, a2, a3⟩ := hr.kept m hm
    exact ⟨a1, a2, by rw [List.getElem?_set_ne (by omega)]; exact a3⟩
/-- A round that hands nothing on. -/
theorem relay_skip {L : AHeap} (hI : Fed P n item len I) (hl : l < H1.length) (hl0 : H0.length ≤ l) (hn : l ∉ ks ++ fpI) (hk : ∀ m ∈ ks, m ∉ fpI ∧ m < H0.length ∧ H1[m]? = H0[m]?) {b : ABlk} (hi : I true (cnt (j + 1)) fpI H1) :
    RoundQ c r ps as' bd' l (relayJ I ks H0 cnt) (relayS I ks H0 e) j (ks ++ fpI) H1 (.bool true) ((H1.set l b ++ L).set l (.loop (lrec c r ps as' bd' .ready none))) := by
  have hn' := hn
  simp only [List.mem_append, not_or] at hn'
  have hq : ∀ m, m < H1.length → m ≠ l → ((H1.set l b ++ L).set l (.loop (lrec c r ps as' bd' .ready none)))[m]? = H1[m]? := fun m h1 h2 => by
    rw [List.getElem?_set_ne (fun e => h2 e.symm), List.getElem?_append_left (by simp; omega), List.getElem?_set_ne (fun e => h2 e.symm)]
  refine ⟨ks ++ fpI, ⟨by simp, fun m hm => .inl hm, fun m hm hf => ?_⟩, hn, .inl ⟨rfl, List.getElem?_set_self (by simp; omega), fpI, rfl, fun m hm => ?_, by simp; omega, ?_⟩⟩
  · simp only [List.mem_cons, not_or] at hf
    exact hq m hm hf.1
  · obtain ⟨a1, a2, a3⟩ := hk m hm
    exact ⟨a1, a2, (hq m (by omega) (by omega)).trans a3⟩
  · exact (hI.foot true _).stable _ _ _ hi (by simp) fun m hm => hq m ((hI.foot true _).lt _ _ hi m hm) (by rintro rfl; exact hn'.2 hm)
end
end Go.Am

namespace Go.Am
open Go
set_option linter.unusedVariables false
set_option linter.unusedSimpArgs false

/-! ### Functions behind which the old blocks are told, and nothing new is left -/

def TrimQ (H : AHeap) (Q : AVal → AHeap → Prop) (av : AVal) (H' : AHeap) : Prop :=
  ∃ H2 : AHeap, H2.length = H.length ∧ H.length ≤ H'.length ∧ (∀ n, n < H.length → H'[n]? = H2[n]?) ∧ (∀ n c, n < H.length → H2[n]? = some c → H[n]? = some c ∨ closedB H.length c) ∧ ∃ is av',
    (∀ p ∈ is, ∃ cs0, content H'[p.1]? = some cs0 ∧ p.2 = mvs (toF H.length [] is) cs0 ∧ colds (toF H.length [] is) cs0) ∧ Sees (mv (toF H.length [] is) av) av' ∧ Q av' H2

theorem fun_trim {P : Program} {f : FuncId} {fn : AFun} {args : List AVal} {H : AHeap} {Q : AVal → AHeap → Prop} (hf : okFun P f fn = true) (h : closeds H.length args → FunOK P f args H (TrimQ H Q)) : FunOK P f args H Q := by
  refine fun_less (Q' := fun av H' => ∃ av', Sees av av' ∧ Q av' H') (fun_gh (fun _ ha => h ha) (fun av H' hc _ ⟨H2, hl2, hle, hk, hcl, is, av', his, hs, hq⟩ => ?_) (callable_of hf)) fun _ _ h => h
  have := left_of (H' := H') hc hle [] is (fun n c hn hx => by
    rw [hk n hn] at hx
    rcases hcl n c hn hx with h | h
    · exact .inl h
    · exact .inr (mv_blk (L := H.length) (fun _ h => toF_low h) h)) (by simp) his (by simp)
  refine ⟨_, _, this, av', hs, ?_⟩
  have e : H'.take H.length ++ List.map (fun m => mvBlk (toF H.length [] is) (H'.getD m .dead)) [] = H2 := by
    simp only [List.map_nil, List.append_nil]
    refine List.ext_getElem? fun i => ?_
    rw [List.getElem?_take]
    by_cases hi : i < H.length
    · rw [if_pos hi, hk i hi]
    · rw [if_neg hi, List.getElem?_eq_none (by omega)]
  rw [e]; exact hq

theorem trim_flat {H H' : AHeap} (H2 : AHeap) {Q : AVal → AHeap → Prop} {a : AVal} (hl2 : H2.length = H.length) (hle : H.length ≤ H'.length) (hk : ∀ n, n < H.length → H'[n]? = H2[n]?) (hcl : ∀ n c, n < H.length → H2[n]? = some c → H[n]? = some c ∨ closedB H.length c)
    (ha : closed H.length a) (hq : Q a H2) : TrimQ H Q a H' :=
  ⟨H2, hl2, hle, hk, hcl, [], a, by simp, by rw [mv_id (L := H.length) (fun n h => toF_low h) a ha]; exact Sees.refl _, hq⟩
theorem trim_sees {H H' : AHeap} (H2 : AHeap) {Q : AVal → AHeap → Prop} {a a' : AVal} (hl2 : H2.length = H.length) (hle : H.length ≤ H'.length) (hk : ∀ n, n < H.length → H'[n]? = H2[n]?) (hcl : ∀ n c, n < H.length → H2[n]? = some c → H[n]? = some c ∨ closedB H.length c)
    (ha : closed H.length a) (hs : Sees a a') (hq : Q a' H2) : TrimQ H Q a H' :=
  ⟨H2, hl2, hle, hk, hcl, [], a', by simp, by rw [mv_id (L := H.length) (fun n h => toF_low h) a ha]; exact hs, hq⟩
theorem trim_own {H H' : AHeap} (H2 : AHeap) {Q : AVal → AHeap → Prop} {a : AVal} {w n : Nat} {el : TypeId} {cs : List AVal} (hl2 : H2.length = H.length) (hle : H.length ≤ H'.length) (hk : ∀ n, n < H.length → H'[n]? = H2[n]?) (hcl : ∀ n c, n < H.length → H2[n]? = some c → H[n]? = some c ∨ closedB H.length c)
    (ho : Own w el H.length H' a n cs) (hc : closeds H.length cs) (hq : Q (.imm cs n false) H2) : TrimQ H Q a H' := by
  refine ⟨H2, hl2, hle, hk, hcl, ?_⟩
  have hl := ho.len
  rcases ho.is with ⟨rfl, rfl⟩ | ⟨m, hb, rfl, hm⟩
  · have : cs = [] := List.length_eq_zero_iff.1 (by simpa using hl)
    subst this
    exact ⟨[], _, by simp, Sees.nils false, hq⟩
  · refine ⟨[(m, cs)], .imm cs n false, ?_, ?_, hq⟩
    · intro p hp
      simp only [List.mem_singleton] at hp
      subst hp
      exact ⟨cs, by simp [hm, content], (mvs_id (L := H.length) (fun _ h => toF_low h) cs hc).symm, colds_of (L := H.length) (fun _ h => toF_low h) cs hc⟩
    · have : toF H.length [] [(m, cs)] m = .ice cs := by
        unfold toF; rw [if_neg (by omega)]; simp [findN, findI]
      simp only [mv, this, mvSlc, List.drop_zero, ← hl, List.take_length]
      exact Sees.refl _
/-- Several values, lists of its own among them. -/
theorem trim_tup {H H' : AHeap} (H2 : AHeap) {Q : AVal → AHeap → Prop} (l : List (AVal × AVal)) (hl2 : H2.length = H.length) (hle : H.length ≤ H'.length) (hk : ∀ n, n < H.length → H'[n]? = H2[n]?) (hcl : ∀ n c, n < H.length → H2[n]? = some c → H[n]? = some c ∨ closedB H.length c)
    (hf : ∀ p ∈ l, Fin H H' p.1 p.2) (hq : Q (.tup (l.map (·.2))) H2) : TrimQ H Q (.tup (l.map (·.1))) H' := by
  refine ⟨H2, hl2, hle, hk, hcl, icesOf H.length l, .tup (l.map (·.2)), ice_many hf, ?_, hq⟩
  simp only [mv, mvs_map, List.map_map]
  refine Sees.tup ⟨by simp, fun i h1 h2 => ?_⟩
  simp only [List.getElem_map, Function.comp]
  exact ice_fin1 hf (List.getElem_mem (by simpa using h1))
end Go.Am

/-
  The abstract machine, part 47: a block of which less is told. By an AI agent. No person has read it.
-/
set_option linter.unusedSimpArgs false
set_option linter.unusedVariables false

namespace Go.Am
open Go

variable {P : Program} {c : Ctx} {k : List AItem} {r : Regs} {H : AHeap} {Q : AVal → AHeap → Prop}

theorem vsRel_seesL {e : Nm} {cs cs' : List AVal} {g : Nat → Option Value} (hs : SeesL cs cs') (h : VsRel e cs g) : VsRel e cs' g := vsRel_sees hs h

/-- A heap in which a block tells less. -/
theorem set_len {m : Nat} {B : ABlk} : (H.set m B).length = H.length := List.length_set
theorem set_alive {m : Nat} {cs cs' : List AVal} {T : TypeId} (hm : H[m]? = some (.cells cs T)) (n : Nat) : alive (H.set m (.cells cs' T)) n = alive H n := by
  unfold alive
  by_cases h : m = n
  · subst h
    rw [List.getElem?_set_self (List.getElem?_eq_some_iff.1 hm).1, hm]; rfl
  · rw [List.getElem?_set_ne h]

theorem set_owned {m : Nat} {cs cs' : List AVal} {T : TypeId} (hm : H[m]? = some (.cells cs T)) (ρ : Nat → Option Nat) (w : World) (b : Nat) : (nm ρ (H.set m (.cells cs' T)) w).Owned b ↔ (nm ρ H w).Owned b := by
  unfold Nm.Owned nm
  simp only [set_alive hm]

theorem set_ext {m : Nat} {cs cs' : List AVal} {T : TypeId} (hm : H[m]? = some (.cells cs T)) (ρ : Nat → Option Nat) (w : World) : Ext (nm ρ H w) (nm ρ (H.set m (.cells cs' T)) w) where
  len := by simp [nm]
  name n _ ha := by
    refine ⟨?_, rfl⟩
    have : alive (H.set m (.cells cs' T)) n = true := ha
    rw [set_alive hm] at this; exact this
  keep b arr el fz hb ho := ⟨hb, fun h => ho ((set_owned hm ρ w b).1 h)⟩
  room b r hr := hr

theorem run_told {m : Nat} {cs cs' : List AVal} {T : TypeId} (hm : H[m]? = some (.cells cs T)) (hs : SeesL cs cs') (h : Run P c k r (H.set m (.cells cs' T)) Q) : Run P c k r H Q := by
  intro B ρ w tmps D b cs0 k' hr hlow
  have hx := set_ext (cs' := cs') hm ρ w
  have hreal : Real P c r (H.set m (.cells cs' T)) B ρ w tmps D b cs0 := {
    le := hr.le
    nt := hr.nt
    regs := hr.regs.ext hx
    heap := {
      blk := fun n c hc => by
        change (H.set m (.cells cs' T))[n]? = some c at hc
        by_cases hn : m = n
        · subst hn
          rw [List.getElem?_set_self (List.getElem?_eq_some_iff.1 hm).1] at hc
          cases hc
          have h0 := hr.heap.blk m _ hm
          obtain ⟨b, arr, h1, h2, h3, h4⟩ := h0
          exact ⟨b, arr, h1, h2, by rw [h3, hs.1], vsRel_sees hs (VsRel.ext hx _ _ h4)⟩
        · rw [List.getElem?_set_ne hn] at hc
          exact (hr.heap.blk n c hc).ext hx (fun b _ _ => rfl)
      inj := fun n1 n2 b h1 h2 h3 h4 => by
        refine hr.heap.inj n1 n2 b ?_ ?_ h3 h4
        · have : alive (H.set m (.cells cs' T)) n1 = true := h1
          rw [set_alive hm] at this; exact this
        · have : alive (H.set m (.cells cs' T)) n2 = true := h2
          rw [set_alive hm] at this; exact this }
    dfr := ⟨hr.dfr.nodup, fun d hd => by
      obtain ⟨h1, h2, h3⟩ := hr.dfr.is d hd
      exact ⟨h1, h2, fun h => h3 ((set_owned hm ρ w _).1 h)⟩⟩
    rd := by
      have := hr.rd
      cases hro : c.rd with
      | none => rw [hro] at this; exact this
      | some n =>
        rw [hro] at this
        obtain ⟨l, h1, h2, h3⟩ := this
        exact ⟨l, h1, VRel.ext hx _ _ h2, h3⟩
    fn := hr.fn
    kind := hr.kind
    ctx := hr.ctx }
  obtain ⟨av, H', ρ', v, w', m', q1, q2, q3, q4, q5, q6⟩ := h B ρ w tmps D b cs0 k' hreal hlow
  refine ⟨av, H', ρ', v, w', m', q1, q2, q3, q4, q5, ?_⟩
  exact {
    size := q6.size
    os := q6.os
    tape := q6.tape
    output := q6.output
    len := by have := q6.len; rw [List.length_set] at this; exact this
    name := fun n hn ha => by
      obtain ⟨h1, h2⟩ := q6.name n (by rw [List.length_set]; exact hn) ha
      rw [set_alive hm] at h1
      exact ⟨h1, h2⟩
    keep := fun b hb ho => q6.keep b hb fun h => ho ((set_owned hm ρ w b).1 h)
    out := fun b hb ho => q6.out b hb fun h => ho ((set_owned hm ρ w b).1 h)
    room := q6.room }
end Go.Am
