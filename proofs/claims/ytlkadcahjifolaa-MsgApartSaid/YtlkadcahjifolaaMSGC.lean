/-
  Lemmas on the way to the statements of this seat. By an AI agent. No person has read it.
-/
import Derived.Test.YtlkadcahjifolaaAm6
import Derived.Test.YtlkadcahjifolaaMSGA
import Derived.Test.YtlkadcahjifolaaMSGB
set_option linter.unusedSimpArgs false
set_option linter.unusedVariables false

namespace Go.Am
open Go

def shHead : Sh := .struct [.int .i64, .int .i64, .int .u32, .int .i64, .int .i64]
def shFrame : Sh := .struct [shHead, .slice (.int .u8)]

/-- A frame that is handed in. -/
theorem frame_fits {a : AVal} (h : FitsA shFrame a) : ∃ (v k s i c : Int) (bs : List Nat), Sees a (.agg [.int .i64 v, .int .i64 k, .int .u32 s, .int .i64 i, .int .i64 c, nums .u8 false bs]) ∧
    (Lit.int .i64 v).wf = true ∧ (Lit.int .i64 k).wf = true ∧ (Lit.int .u32 s).wf = true ∧ (Lit.int .i64 i).wf = true ∧ (Lit.int .i64 c).wf = true ∧ (∀ b ∈ bs, (Lit.int .u8 (b : Int)).wf = true) ∧ bs.length ≤ 9223372036854775807 := by
  obtain ⟨l, rfl, h⟩ := h
  obtain ⟨l1, l2, rfl, h1, h2⟩ := h
  obtain ⟨l3, l4, rfl, h3, h4⟩ := h2
  have h4' : l4 = [] := h4
  subst h4'
  obtain ⟨_, _, rfl, ⟨v, rfl, b1⟩, h1⟩ := h1
  obtain ⟨_, _, rfl, ⟨k, rfl, b2⟩, h1⟩ := h1
  obtain ⟨_, _, rfl, ⟨s, rfl, b3⟩, h1⟩ := h1
  obtain ⟨_, _, rfl, ⟨i, rfl, b4⟩, h1⟩ := h1
  obtain ⟨_, _, rfl, ⟨c, rfl, b5⟩, h1⟩ := h1
  have h1' : _ = ([] : List AVal) := h1
  subst h1'
  have h5 : ∃ x, l3 = [x] := by
    rcases h3 with rfl | ⟨gs, t, _, rfl, _⟩
    · exact ⟨_, rfl⟩
    · exact ⟨_, rfl⟩
  obtain ⟨x, rfl⟩ := h5
  obtain ⟨bs, q1, q2, q3⟩ := nums_fits (k := .u8) rfl (show FitsA (.slice (.int .u8)) x from h3)
  exact ⟨v, k, s, i, c, bs, Sees.agg (SeesL.cons (Sees.refl _) (SeesL.cons (Sees.refl _) (SeesL.cons (Sees.refl _) (SeesL.cons (Sees.refl _) (SeesL.cons (Sees.refl _) (SeesL.cons q1 SeesL.nil)))))), b1, b2, b3, b4, b5, q2, q3⟩

def shMsg : Sh := .struct [.int .i64, .arr 6 .i64, .slice (.struct [.int .i64, .int .i64]), .slice (.int .i64), .str, .str]

theorem arr6_fits {l : List AVal} (h : Fits (.arr 6 .i64) l) : ∃ a b c d e f : Int, l = [.int .i64 a, .int .i64 b, .int .i64 c, .int .i64 d, .int .i64 e, .int .i64 f] := by
  obtain ⟨hl, h⟩ := h
  obtain ⟨a, ha, _⟩ := h 0 (by omega)
  obtain ⟨b, hb, _⟩ := h 1 (by omega)
  obtain ⟨c, hc, _⟩ := h 2 (by omega)
  obtain ⟨d, hd, _⟩ := h 3 (by omega)
  obtain ⟨e, he, _⟩ := h 4 (by omega)
  obtain ⟨f, hf, _⟩ := h 5 (by omega)
  match l, hl with
  | [x0, x1, x2, x3, x4, x5], _ =>
    simp only [List.getElem?_cons_zero, List.getElem?_cons_succ, Option.some.injEq] at ha hb hc hd he hf
    exact ⟨a, b, c, d, e, f, by rw [ha, hb, hc, hd, he, hf]⟩

theorem slice_fits {s : Sh} {l : List AVal} (h : Fits (.slice s) l) : ∃ p : AVal, l = [p] ∧ p.cellish = true ∧ p.cells = [p] := by
  rcases h with rfl | ⟨gs, t, _, rfl, _⟩
  · exact ⟨_, rfl, rfl, rfl⟩
  · exact ⟨_, rfl, rfl, rfl⟩

/-- A message that is handed in. -/
theorem msg_fits {a : AVal} (h : FitsA shMsg a) : ∃ (k n0 n1 n2 n3 n4 n5 : Int) (p c : AVal) (t g : ByteArray), a = .agg [.int .i64 k, .int .i64 n0, .int .i64 n1, .int .i64 n2, .int .i64 n3, .int .i64 n4, .int .i64 n5, p, c, .str t, .str g] ∧
    p.cellish = true ∧ c.cellish = true := by
  obtain ⟨l, rfl, h⟩ := h
  obtain ⟨_, _, rfl, ⟨k, rfl, _⟩, h⟩ := h
  obtain ⟨l2, _, rfl, h2, h⟩ := h
  obtain ⟨n0, n1, n2, n3, n4, n5, rfl⟩ := arr6_fits h2
  obtain ⟨l3, _, rfl, h3, h⟩ := h
  obtain ⟨p, rfl, hp, _⟩ := slice_fits h3
  obtain ⟨l4, _, rfl, h4, h⟩ := h
  obtain ⟨c, rfl, hc, _⟩ := slice_fits h4
  obtain ⟨_, _, rfl, ⟨t, rfl, _⟩, h⟩ := h
  obtain ⟨_, _, rfl, ⟨g, rfl, _⟩, h⟩ := h
  have h' : _ = ([] : List AVal) := h
  subst h'
  exact ⟨k, n0, n1, n2, n3, n4, n5, p, c, t, g, rfl, hp, hc⟩
end Go.Am

namespace Go.Proofs.Ytlkadcahjifolaa
open Go Go.Am
set_option linter.unusedSimpArgs false
set_option linter.unusedVariables false

def in64 (x : Int) : Prop := -9223372036854775808 ≤ x ∧ x ≤ 9223372036854775807
theorem wf_i64 {z : Int} (wz : (Lit.int .i64 z).wf = true) : in64 z := by
  simp only [Lit.wf, Bool.and_eq_true, decide_eq_true_eq, IntKind.min, IntKind.max, IntKind.signed, IntKind.bits] at wz
  simp at wz
  exact ⟨by omega, by omega⟩

theorem slice_one2 {s : Sh} {l : List AVal} (h : Fits (.slice s) l) : ∃ p : AVal, l = [p] ∧ Fits (.slice s) [p] := by
  rcases h with rfl | ⟨gs, t, hg, rfl, hl⟩
  · exact ⟨_, rfl, .inl rfl⟩
  · exact ⟨_, rfl, .inr ⟨gs, t, hg, rfl, hl⟩⟩

theorem ints_fits2 {a : AVal} (h : Fits (.slice (.int .i64)) [a]) : ∃ zs : List Int, Sees a (ints false zs) ∧ (∀ z ∈ zs, in64 z) ∧ zs.length ≤ 9223372036854775807 := by
  rcases h with h | ⟨gs, t, hg, h, hl⟩
  · cases h
    exact ⟨[], Sees.nils false, by simp, by simp⟩
  · cases h
    have : ∃ zs : List Int, gs = zs.map (fun z => [AVal.int .i64 z]) ∧ ∀ z ∈ zs, in64 z := by
      clear hl
      induction gs with
      | nil => exact ⟨[], rfl, by simp⟩
      | cons g gs ih =>
        obtain ⟨zs, rfl, hz⟩ := ih fun x hx => hg x (by simp [hx])
        obtain ⟨z, rfl, hw⟩ := hg g (by simp)
        refine ⟨z :: zs, rfl, fun y hy => ?_⟩
        rcases List.mem_cons.1 hy with rfl | hy
        · exact wf_i64 hw
        · exact hz y hy
    obtain ⟨zs, rfl, hz⟩ := this
    refine ⟨zs, ?_, hz, by simpa using hl⟩
    have e : (zs.map fun z => [AVal.int .i64 z]).flatten = zs.map fun z : Int => AVal.int .i64 z := by
      clear hl hg hz
      induction zs with
      | nil => rfl
      | cons z zs ih => simp only [List.map_cons, List.flatten_cons, ih]; rfl
    rw [e]
    have : ints false zs = .imm (zs.map fun z : Int => AVal.int .i64 z) (zs.map fun z => [AVal.int .i64 z]).length false := by simp [ints]
    rw [this]
    exact Sees.loose _ _ _

theorem pts_fits {a : AVal} (h : Fits (.slice (.struct [.int .i64, .int .i64])) [a]) : ∃ zs : List (Int × Int), Sees a (recs encP false zs) ∧ (∀ z ∈ zs, in64 z.1 ∧ in64 z.2) ∧ zs.length ≤ 9223372036854775807 := by
  rcases h with h | ⟨gs, t, hg, h, hl⟩
  · cases h
    exact ⟨[], Sees.nils false, by simp, by simp⟩
  · cases h
    have : ∃ zs : List (Int × Int), gs = zs.map encP ∧ ∀ z ∈ zs, in64 z.1 ∧ in64 z.2 := by
      clear hl
      induction gs with
      | nil => exact ⟨[], rfl, by simp⟩
      | cons g gs ih =>
        obtain ⟨zs, rfl, hz⟩ := ih fun x hx => hg x (by simp [hx])
        obtain ⟨_, _, rfl, ⟨x, rfl, hx⟩, h2⟩ := hg g (by simp)
        obtain ⟨_, _, rfl, ⟨y, rfl, hy⟩, h3⟩ := h2
        have h3' : _ = ([] : List AVal) := h3
        subst h3'
        refine ⟨(x, y) :: zs, rfl, fun y hy' => ?_⟩
        rcases List.mem_cons.1 hy' with rfl | hy'
        · exact ⟨wf_i64 hx, wf_i64 hy⟩
        · exact hz y hy'
    obtain ⟨zs, rfl, hz⟩ := this
    refine ⟨zs, ?_, hz, by simpa using hl⟩
    have : recs encP false zs = .imm (zs.map encP).flatten (zs.map encP).length false := by simp [recs, List.flatMap]
    rw [this]
    exact Sees.loose _ _ _

/-- The ranges of a message's numbers. -/
structure Mg.rng (m : Mg) : Prop where
  k : in64 m.k
  n : in64 m.n0 ∧ in64 m.n1 ∧ in64 m.n2 ∧ in64 m.n3 ∧ in64 m.n4 ∧ in64 m.n5
  p : ∀ z ∈ m.p, in64 z.1 ∧ in64 z.2
  c : ∀ z ∈ m.c, in64 z
structure Mg.lens (m : Mg) : Prop where
  p : m.p.length ≤ 9223372036854775807
  c : m.c.length ≤ 9223372036854775807
  t : m.t.size ≤ 9223372036854775807
  g : m.g.size ≤ 9223372036854775807

theorem arr6_wf {l : List AVal} (h : Fits (.arr 6 .i64) l) : ∃ a b c d e f : Int, l = [.int .i64 a, .int .i64 b, .int .i64 c, .int .i64 d, .int .i64 e, .int .i64 f] ∧ in64 a ∧ in64 b ∧ in64 c ∧ in64 d ∧ in64 e ∧ in64 f := by
  obtain ⟨hl, h⟩ := h
  obtain ⟨a, ha, wa⟩ := h 0 (by omega)
  obtain ⟨b, hb, wb⟩ := h 1 (by omega)
  obtain ⟨c, hc, wc⟩ := h 2 (by omega)
  obtain ⟨d, hd, wd⟩ := h 3 (by omega)
  obtain ⟨e, he, we⟩ := h 4 (by omega)
  obtain ⟨f, hf, wf⟩ := h 5 (by omega)
  match l, hl with
  | [x0, x1, x2, x3, x4, x5], _ =>
    simp only [List.getElem?_cons_zero, List.getElem?_cons_succ, Option.some.injEq] at ha hb hc hd he hf
    exact ⟨a, b, c, d, e, f, by rw [ha, hb, hc, hd, he, hf], wf_i64 wa, wf_i64 wb, wf_i64 wc, wf_i64 wd, wf_i64 we, wf_i64 wf⟩

/-- A message that is handed in. -/
theorem msg_fits2 {a : AVal} (h : FitsA shMsg a) : ∃ m : Mg, Sees a (.agg (encM m)) ∧ m.lens ∧ m.rng := by
  obtain ⟨l, rfl, h⟩ := h
  obtain ⟨_, _, rfl, ⟨k, rfl, wk⟩, h⟩ := h
  obtain ⟨l2, _, rfl, h2, h⟩ := h
  obtain ⟨n0, n1, n2, n3, n4, n5, rfl, w⟩ := arr6_wf h2
  obtain ⟨l3, _, rfl, h3, h⟩ := h
  obtain ⟨p, rfl, hp⟩ := slice_one2 h3
  obtain ⟨ps, p1, p2, p3⟩ := pts_fits hp
  obtain ⟨l4, _, rfl, h4, h⟩ := h
  obtain ⟨c, rfl, hc⟩ := slice_one2 h4
  obtain ⟨cs, c1, c2, c3⟩ := ints_fits2 hc
  obtain ⟨_, _, rfl, ⟨t, rfl, ht⟩, h⟩ := h
  obtain ⟨_, _, rfl, ⟨g, rfl, hg⟩, h⟩ := h
  have h' : _ = ([] : List AVal) := h
  subst h'
  refine ⟨⟨k, n0, n1, n2, n3, n4, n5, ps, cs, t, g⟩, Sees.agg ?_, ⟨p3, c3, ht, hg⟩, ⟨wf_i64 wk, w, p2, c2⟩⟩
  exact .cons (.refl _) (.cons (.refl _) (.cons (.refl _) (.cons (.refl _) (.cons (.refl _) (.cons (.refl _) (.cons (.refl _) (.cons p1 (.cons c1 (.refl _)))))))))
set_option linter.unusedSimpArgs false
set_option linter.unusedVariables false

theorem put_k (m : Mg) (j v : Int) : (m.put j v).k = m.k ∧ (m.put j v).p = m.p ∧ (m.put j v).c = m.c := by
  unfold Mg.put
  repeat' split
  all_goals exact ⟨rfl, rfl, rfl⟩
theorem withoutM_k (m : Mg) (f : Fld) : (withoutM m f).k = m.k ∧ (withoutM m f).p.length ≤ m.p.length ∧ (withoutM m f).c.length ≤ m.c.length ∧ (withoutM m f).t.size ≤ m.t.size ∧ (withoutM m f).g.size ≤ m.g.size := by
  unfold withoutM Mg.put
  repeat' split
  all_goals exact ⟨rfl, by simp, by simp, by first | exact Nat.zero_le _ | simp, by first | exact Nat.zero_le _ | simp⟩
theorem projF_k (m : Mg) (f : Fld) : (projF m f).k = m.k ∧ (projF m f).p.length ≤ m.p.length ∧ (projF m f).c.length ≤ m.c.length ∧ (projF m f).t.size ≤ m.t.size ∧ (projF m f).g.size ≤ m.g.size := by
  have h := withoutM_k m f
  unfold projF Mg.put
  repeat' split
  all_goals exact h
theorem projGo_k {v : Int} : ∀ (l : List Fld) (m : Mg), (projGo v l m).k = m.k ∧ (projGo v l m).p.length ≤ m.p.length ∧ (projGo v l m).c.length ≤ m.c.length ∧ (projGo v l m).t.size ≤ m.t.size ∧ (projGo v l m).g.size ≤ m.g.size
  | [], m => ⟨rfl, Nat.le_refl _, Nat.le_refl _, Nat.le_refl _, Nat.le_refl _⟩
  | f :: fs, m => by
    rw [projGo]
    split
    · exact projGo_k fs m
    · obtain ⟨a1, a2, a3, a4, a5⟩ := projGo_k (v := v) fs (projF m f)
      obtain ⟨b1, b2, b3, b4, b5⟩ := projF_k m f
      exact ⟨a1.trans b1, by omega, by omega, by omega, by omega⟩
theorem projectM_k (m : Mg) (v : Int) : (projectM m v).k = m.k := (projGo_k (fieldsOf m.k) m).1
theorem projectM_small {m : Mg} (h : m.small) (v : Int) : (projectM m v).small := by
  obtain ⟨_, a, b, _, _⟩ := projGo_k (v := v) (fieldsOf m.k) m
  exact ⟨by have := h.p; unfold projectM; omega, by have := h.c; unfold projectM; omega⟩
theorem projectM_fine2 {m : Mg} (h : m.fine2) (v : Int) : (projectM m v).fine2 := by
  obtain ⟨_, a, b, c, d⟩ := projGo_k (v := v) (fieldsOf m.k) m
  obtain ⟨h1, h2, h3, h4⟩ := h
  unfold projectM
  exact ⟨by omega, by omega, by omega, by omega⟩

theorem projectM_ne {m : Mg} {v : Int} (h : v ≠ 1) : projectM m v = m := projGo_ne h _ _

/-- What version 1 makes of a message. -/
theorem projectM_one (m : Mg) : projectM m 1 = if m.k = 1 then { m with n2 := 500, g := ⟨#[]⟩ } else if m.k = 2 then { m with n2 := 0 } else if m.k = 3 then { m with n2 := 1 } else if m.k = 4 then { m with n5 := 100 } else if m.k = 5 then { m with n3 := 0, n4 := 1 } else m := by
  obtain ⟨k, n0, n1, n2, n3, n4, n5, p, c, t, g⟩ := m
  simp only
  by_cases h1 : k = 1
  · subst h1; simp [projectM, fieldsOf, projGo, projF, withoutM, Mg.put]
  by_cases h2 : k = 2
  · subst h2; simp [projectM, fieldsOf, projGo, projF, withoutM, Mg.put]
  by_cases h3 : k = 3
  · subst h3; simp [projectM, fieldsOf, projGo, projF, withoutM, Mg.put]
  by_cases h4 : k = 4
  · subst h4; simp [projectM, fieldsOf, projGo, projF, withoutM, Mg.put]
  by_cases h5 : k = 5
  · subst h5; simp [projectM, fieldsOf, projGo, projF, withoutM, Mg.put]
  simp [projectM, fieldsOf, projGo, h1, h2, h3, h4, h5]

theorem proj_proj (m : Mg) (v : Int) : projectM (projectM m v) v = projectM m v := by
  by_cases hv : v = 1
  · subst hv
    rw [projectM_one (projectM m 1), projectM_k]
    have h := projectM_one m
    by_cases h1 : m.k = 1
    · rw [if_pos h1] at h ⊢; rw [h]
    rw [if_neg h1] at h ⊢
    by_cases h2 : m.k = 2
    · rw [if_pos h2] at h ⊢; rw [h]
    rw [if_neg h2] at h ⊢
    by_cases h3 : m.k = 3
    · rw [if_pos h3] at h ⊢; rw [h]
    rw [if_neg h3] at h ⊢
    by_cases h4 : m.k = 4
    · rw [if_pos h4] at h ⊢; rw [h]
    rw [if_neg h4] at h ⊢
    by_cases h5 : m.k = 5
    · rw [if_pos h5] at h ⊢; rw [h]
    rw [if_neg h5] at h ⊢
  · rw [projectM_ne hv, projectM_ne hv]

theorem rgo_zero {m : Mg} : ∀ {l : List Fld}, rgo m l = 0 ↔ ∀ f ∈ l, rwrongE m f = 0
  | [] => by simp [rgo]
  | f :: fs => by
    rw [rgo, List.forall_mem_cons, ← rgo_zero]
    split
    · rename_i h; simp [h]
    · rename_i h; simp [h]

theorem checkM_zero (m : Mg) : checkM m = 0 ↔ fieldsOf m.k ≠ [] ∧ (∀ f ∈ fieldsOf m.k, rwrongE m f = 0) ∧ (fieldsOf m.k).foldl withoutM m = { mg0 with k := m.k } := by
  by_cases hl : fieldsOf m.k = []
  · simp [checkM, hl, chkGo]
  · rw [checkM_eq m hl, ← rgo_zero]
    by_cases h0 : rgo m (fieldsOf m.k) = 0
    · rw [if_pos h0]
      by_cases h1 : (fieldsOf m.k).foldl withoutM m = { mg0 with k := m.k }
      · simp [h1, hl, h0]
      · simp [h1]
    · rw [if_neg h0]; simp [h0]

theorem empty_any : (bytesOf ⟨#[]⟩).any badB = false := rfl
theorem empty_size : ByteArray.size ⟨#[]⟩ = 0 := rfl

theorem check_proj {m : Mg} (h : checkM m = 0) (v : Int) : checkM (projectM m v) = 0 := by
  by_cases hv : v = 1
  case neg => rw [projectM_ne hv]; exact h
  subst hv
  rw [checkM_zero] at h ⊢
  obtain ⟨h0, h1, h2⟩ := h
  rw [projectM_k]
  refine ⟨h0, ?_⟩
  have he := projectM_one m
  generalize projectM m 1 = y at *
  obtain ⟨k, n0, n1, n2, n3, n4, n5, p, c, t, g⟩ := m
  simp only at h0 h1 h2 he ⊢
  by_cases k1 : k = 1
  · subst k1
    rw [if_pos rfl] at he
    subst he
    simp [fieldsOf, withoutM, Mg.put, mg0, rwrongE, Mg.num, rtextE, empty_any, empty_size] at h1 h2 ⊢
    exact ⟨⟨h1.1, h1.2.1, h1.2.2.2.1⟩, h2⟩
  rw [if_neg k1] at he
  by_cases k2 : k = 2
  · subst k2
    rw [if_pos rfl] at he
    subst he
    simp [fieldsOf, withoutM, Mg.put, mg0, rwrongE, Mg.num] at h1 h2 ⊢
    exact ⟨by omega, h2⟩
  rw [if_neg k2] at he
  by_cases k3 : k = 3
  · subst k3
    rw [if_pos rfl] at he
    subst he
    simp [fieldsOf, withoutM, Mg.put, mg0, rwrongE, Mg.num] at h1 h2 ⊢
    exact ⟨by omega, h2⟩
  rw [if_neg k3] at he
  by_cases k4 : k = 4
  · subst k4
    rw [if_pos rfl] at he
    subst he
    simp [fieldsOf, withoutM, Mg.put, mg0, rwrongE, Mg.num] at h1 h2 ⊢
    exact ⟨by omega, h2⟩
  rw [if_neg k4] at he
  by_cases k5 : k = 5
  · subst k5
    rw [if_pos rfl] at he
    subst he
    simp [fieldsOf, withoutM, Mg.put, mg0, rwrongE, Mg.num] at h1 h2 ⊢
    exact ⟨by omega, h2⟩
  exact absurd (by simp [fieldsOf, k1, k2, k3, k4, k5]) h0

theorem check_new (k : Int) : (newM k).k = 0 ∨ checkM (newM k) = 0 := by
  unfold newM
  split
  · right; decide +kernel
  split
  · right; decide +kernel
  split
  · right; decide +kernel
  split
  · right; decide +kernel
  split
  · right; decide +kernel
  · left; rfl

theorem newM_small (k : Int) : (newM k).small ∧ (newM k).fine2 := by
  unfold newM
  repeat' split
  all_goals exact ⟨⟨by decide, by decide⟩, by decide, by decide, by decide, by decide⟩

theorem find_name {k : Int} {f : Fld} (hf : f ∈ fieldsOf k) : findF k f.name = some f := by
  by_cases h1 : k = 1
  · subst h1; revert f; decide +kernel
  by_cases h2 : k = 2
  · subst h2; revert f; decide +kernel
  by_cases h3 : k = 3
  · subst h3; revert f; decide +kernel
  by_cases h4 : k = 4
  · subst h4; revert f; decide +kernel
  by_cases h5 : k = 5
  · subst h5; revert f; decide +kernel
  simp [fieldsOf, h1, h2, h3, h4, h5] at hf

theorem news_fact {k : Int} {f : Fld} (hf : f ∈ fieldsOf k) (hp : 0 ≤ f.place) (v : Int) : checkM ((newM k).put f.place v) = if f.least ≤ v ∧ v ≤ f.most then 0 else 5 := by
  have hne : fieldsOf ((newM k).put f.place v).k ≠ [] := by
    rw [(put_k _ _ _).1]
    unfold fieldsOf at hf ⊢
    unfold newM
    repeat' split at hf
    all_goals first | (simp_all; done) | simp_all [mg0]
  rw [checkM_eq _ hne, (put_k _ _ _).1]
  clear hne
  by_cases h1 : k = 1
  · subst h1
    simp [fieldsOf] at hf
    rcases hf with rfl | rfl | rfl | rfl | rfl <;> simp [fieldsOf, newM, Mg.put, rgo, rwrongE, Mg.num, withoutM, mg0, show rpathE [(0, 0)] = 0 from by decide, show rtextE ⟨#[]⟩ 16 = 0 from by decide +kernel] at hp ⊢ <;> (repeat' split) <;> omega
  by_cases h2 : k = 2
  · subst h2
    simp [fieldsOf] at hf
    rcases hf with rfl | rfl | rfl <;> simp [fieldsOf, newM, Mg.put, rgo, rwrongE, Mg.num, withoutM, mg0] at hp ⊢ <;> (repeat' split) <;> omega
  by_cases h3 : k = 3
  · subst h3
    simp [fieldsOf] at hf
    rcases hf with rfl | rfl | rfl | rfl <;> simp [fieldsOf, newM, Mg.put, rgo, rwrongE, Mg.num, withoutM, mg0, show rcellsE [0] = 0 from by decide] at hp ⊢ <;> (repeat' split) <;> omega
  by_cases h4 : k = 4
  · subst h4
    simp [fieldsOf] at hf
    rcases hf with rfl | rfl | rfl | rfl | rfl | rfl <;> simp [fieldsOf, newM, Mg.put, rgo, rwrongE, Mg.num, withoutM, mg0] at hp ⊢ <;> (repeat' split) <;> omega
  by_cases h5 : k = 5
  · subst h5
    simp [fieldsOf] at hf
    rcases hf with rfl | rfl | rfl | rfl | rfl | rfl <;> simp [fieldsOf, newM, Mg.put, rgo, rwrongE, Mg.num, withoutM, mg0, show rtextE ⟨#[]⟩ 64 = 0 from by decide +kernel] at hp ⊢ <;> (repeat' split) <;> omega
  simp [fieldsOf, h1, h2, h3, h4, h5] at hf
end Go.Proofs.Ytlkadcahjifolaa
