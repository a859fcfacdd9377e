/-
  Lemmas on the way to the statements of this seat. By an AI agent. No person has read it.
-/
import Derived.Test.YtgjldipoagkncaaAm6

namespace Go.Am
open Go

def shHead : Sh := .struct [.int .i64, .int .i64, .int .u32, .int .i64, .int .i64]
def shFrame : Sh := .struct [shHead, .slice (.int .u8)]

/-- A frame that is handed in. -/
theorem frame_fits {a : AVal} (h : FitsA shFrame a) : ∃ (v k s i c : Int) (bs : List Nat), Sees a (.agg [.int .i64 v, .int .i64 k, .int .u32 s, .int .i64 i, .int .i64 c, nums .u8 false bs]) ∧
    (Lit.int .i64 v).wf = true ∧ (Lit.int .i64 k).wf = true ∧ (Lit.int .u32 s).wf = true ∧ (Lit.int .i64 i).wf = true ∧ (Lit.int .i64 c).wf = true ∧ (∀ b ∈ bs, (Lit.int .u8 (b : Int)).wf = true) ∧ bs.length ≤ 9223372036854775807 := by
  obtain ⟨l, rfl, h⟩ := h
  obtain ⟨l1, l2, rfl, h1, h2⟩ := h
  obtain ⟨l3, l4, rfl, h3, h4⟩ := h2
  have h4' : l4 = [] := h4
  subst h4'
  obtain ⟨_, _, rfl, ⟨v, rfl, b1⟩, h1⟩ := h1
  obtain ⟨_, _, rfl, ⟨k, rfl, b2⟩, h1⟩ := h1
  obtain ⟨_, _, rfl, ⟨s, rfl, b3⟩, h1⟩ := h1
  obtain ⟨_, _, rfl, ⟨i, rfl, b4⟩, h1⟩ := h1
  obtain ⟨_, _, rfl, ⟨c, rfl, b5⟩, h1⟩ := h1
  have h1' : _ = ([] : List AVal) := h1
  subst h1'
  have h5 : ∃ x, l3 = [x] := by
    rcases h3 with rfl | ⟨gs, t, _, rfl, _⟩
    · exact ⟨_, rfl⟩
    · exact ⟨_, rfl⟩
  obtain ⟨x, rfl⟩ := h5
  obtain ⟨bs, q1, q2, q3⟩ := nums_fits (k := .u8) rfl (show FitsA (.slice (.int .u8)) x from h3)
  exact ⟨v, k, s, i, c, bs, Sees.agg (SeesL.cons (Sees.refl _) (SeesL.cons (Sees.refl _) (SeesL.cons (Sees.refl _) (SeesL.cons (Sees.refl _) (SeesL.cons (Sees.refl _) (SeesL.cons q1 SeesL.nil)))))), b1, b2, b3, b4, b5, q2, q3⟩
end Go.Am

namespace Go.Am
open Go

def shMsg : Sh := .struct [.int .i64, .arr 6 .i64, .slice (.struct [.int .i64, .int .i64]), .slice (.int .i64), .str, .str]

theorem arr6_fits {l : List AVal} (h : Fits (.arr 6 .i64) l) : ∃ a b c d e f : Int, l = [.int .i64 a, .int .i64 b, .int .i64 c, .int .i64 d, .int .i64 e, .int .i64 f] := by
  obtain ⟨hl, h⟩ := h
  obtain ⟨a, ha, _⟩ := h 0 (by omega)
  obtain ⟨b, hb, _⟩ := h 1 (by omega)
  obtain ⟨c, hc, _⟩ := h 2 (by omega)
  obtain ⟨d, hd, _⟩ := h 3 (by omega)
  obtain ⟨e, he, _⟩ := h 4 (by omega)
  obtain ⟨f, hf, _⟩ := h 5 (by omega)
  match l, hl with
  | [x0, x1, x2, x3, x4, x5], _ =>
    simp only [List.getElem?_cons_zero, List.getElem?_cons_succ, Option.some.injEq] at ha hb hc hd he hf
    exact ⟨a, b, c, d, e, f, by rw [ha, hb, hc, hd, he, hf]⟩

theorem slice_fits {s : Sh} {l : List AVal} (h : Fits (.slice s) l) : ∃ p : AVal, l = [p] ∧ p.cellish = true ∧ p.cells = [p] := by
  rcases h with rfl | ⟨gs, t, _, rfl, _⟩
  · exact ⟨_, rfl, rfl, rfl⟩
  · exact ⟨_, rfl, rfl, rfl⟩

/-- A message that is handed in. -/
theorem msg_fits {a : AVal} (h : FitsA shMsg a) : ∃ (k n0 n1 n2 n3 n4 n5 : Int) (p c : AVal) (t g : ByteArray), a = .agg [.int .i64 k, .int .i64 n0, .int .i64 n1, .int .i64 n2, .int .i64 n3, .int .i64 n4, .int .i64 n5, p, c, .str t, .str g] ∧
    p.cellish = true ∧ c.cellish = true := by
  obtain ⟨l, rfl, h⟩ := h
  obtain ⟨_, _, rfl, ⟨k, rfl, _⟩, h⟩ := h
  obtain ⟨l2, _, rfl, h2, h⟩ := h
  obtain ⟨n0, n1, n2, n3, n4, n5, rfl⟩ := arr6_fits h2
  obtain ⟨l3, _, rfl, h3, h⟩ := h
  obtain ⟨p, rfl, hp, _⟩ := slice_fits h3
  obtain ⟨l4, _, rfl, h4, h⟩ := h
  obtain ⟨c, rfl, hc, _⟩ := slice_fits h4
  obtain ⟨_, _, rfl, ⟨t, rfl, _⟩, h⟩ := h
  obtain ⟨_, _, rfl, ⟨g, rfl, _⟩, h⟩ := h
  have h' : _ = ([] : List AVal) := h
  subst h'
  exact ⟨k, n0, n1, n2, n3, n4, n5, p, c, t, g, rfl, hp, hc⟩
end Go.Am
