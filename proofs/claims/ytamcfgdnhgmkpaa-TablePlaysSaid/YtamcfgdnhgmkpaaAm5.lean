/-
  States under other names: what becomes of lists that are never written to again; the rules of evaluation as sets. By an AI agent. No person has read it.
-/
import Derived.Test.YtamcfgdnhgmkpaaAm4
set_option linter.unusedSimpArgs false
set_option linter.unusedVariables false

namespace Go.Am
open Go
set_option linter.unusedVariables false

/-! ### The same state under other names -/

/-- What becomes of a name: it gets another one; its block is never written to again; it is no more. -/
inductive To where
  | keep (n : Nat)
  | ice (cs : List AVal)
  | lost

def mvPtr (off : Nat) : To → AVal
  | .keep n => .ptr n off
  | .ice cs => .sptr (.imm cs cs.length true) off
  | .lost => .junk
def mvSlc (off len sz : Nat) : To → AVal
  | .keep n => .slc n off len sz
  | .ice cs => .imm ((cs.drop off).take (len * sz)) len false
  | .lost => .junk
def mvMap : To → AVal
  | .keep n => .mapv n
  | _ => .junk
def mvYld : To → AVal
  | .keep n => .yld n
  | _ => .junk

mutual
def mv (f : Nat → To) : AVal → AVal
  | .ptr n off => mvPtr off (f n)
  | .slc n off len sz => mvSlc off len sz (f n)
  | .mapv n => mvMap (f n)
  | .yld n => mvYld (f n)
  | .sptr s off => .sptr (mv f s) off
  | .imm cs len tight => .imm (mvs f cs) len tight
  | .fn g a b => .fn g (mvs f a) (mvs f b)
  | .agg cs => .agg (mvs f cs)
  | .tup cs => .tup (mvs f cs)
  | .junk => .junk
  | .bool b => .bool b
  | .int k n => .int k n
  | .str s => .str s
  | .nilp => .nilp
  | .nils => .nils
  | .nilf => .nilf
  | .nilm => .nilm
def mvs (f : Nat → To) : List AVal → List AVal
  | [] => []
  | c :: cs => mv f c :: mvs f cs
end

theorem mvs_map (f : Nat → To) : ∀ cs : List AVal, mvs f cs = cs.map (mv f)
  | [] => rfl
  | c :: cs => by simp [mvs, mvs_map f cs]

theorem mvs_length (f : Nat → To) (cs : List AVal) : (mvs f cs).length = cs.length := by simp [mvs_map]

mutual
def closed (L : Nat) : AVal → Prop
  | .ptr n _ => n < L
  | .slc n _ _ _ => n < L
  | .mapv n => n < L
  | .yld n => n < L
  | .sptr s _ => closed L s
  | .imm cs _ _ => closeds L cs
  | .fn _ a b => closeds L a ∧ closeds L b
  | .agg cs => closeds L cs
  | .tup cs => closeds L cs
  | _ => True
def closeds (L : Nat) : List AVal → Prop
  | [] => True
  | c :: cs => closed L c ∧ closeds L cs
end

mutual
theorem closed_of {e : Nm} : ∀ (a : AVal) (v : Value), VRel e a v → closed e.H.length a
  | .ptr n off, v, h => by simp only [VRel] at h; exact h.1
  | .slc n off len sz, v, h => by simp only [VRel] at h; exact h.1
  | .mapv n, v, h => by simp only [VRel] at h; exact h.1
  | .yld n, v, h => by simp only [VRel] at h; exact h.1
  | .sptr s off, v, h => by
    simp only [VRel] at h
    obtain ⟨b, o, len, cap, _, h⟩ := h
    exact closed_of s _ h
  | .imm cs len t, v, h => by
    simp only [VRel] at h
    obtain ⟨a, cap, _, _, _, h⟩ := h
    rcases h with ⟨rfl, _⟩ | ⟨b, o, _, _, arr, el, fz, _, h⟩
    · exact trivial
    · exact closeds_of cs _ h
  | .fn g a b, v, h => by
    simp only [VRel] at h
    obtain ⟨xs, ys, _, _, _, h1, h2⟩ := h
    exact ⟨closeds_of a _ h1, closeds_of b _ h2⟩
  | .agg cs, v, h => by
    simp only [VRel] at h
    obtain ⟨arr, _, _, h⟩ := h
    exact closeds_of cs _ h
  | .tup cs, v, h => by
    simp only [VRel] at h
    obtain ⟨arr, _, _, h⟩ := h
    exact closeds_of cs _ h
  | .junk, _, _ => trivial
  | .bool _, _, _ => trivial
  | .int _ _, _, _ => trivial
  | .str _, _, _ => trivial
  | .nilp, _, _ => trivial
  | .nils, _, _ => trivial
  | .nilf, _, _ => trivial
  | .nilm, _, _ => trivial
theorem closeds_of {e : Nm} : ∀ (cs : List AVal) (g : Nat → Option Value), VsRel e cs g → closeds e.H.length cs
  | [], _, _ => trivial
  | c :: cs, g, h => by
    simp only [VsRel] at h
    obtain ⟨⟨v, _, h1⟩, h2⟩ := h
    exact ⟨closed_of c v h1, closeds_of cs _ h2⟩
end

mutual
theorem mv_id {L : Nat} {f : Nat → To} (hf : ∀ n, n < L → f n = .keep n) : ∀ (a : AVal), closed L a → mv f a = a
  | .ptr n off, h => by simp only [mv, hf n h, mvPtr]
  | .slc n off len sz, h => by simp only [mv, hf n h, mvSlc]
  | .mapv n, h => by simp only [mv, hf n h, mvMap]
  | .yld n, h => by simp only [mv, hf n h, mvYld]
  | .sptr s off, h => by simp only [mv, mv_id hf s h]
  | .imm cs len t, h => by simp only [mv, mvs_id hf cs h]
  | .fn g a b, h => by simp only [mv, mvs_id hf a h.1, mvs_id hf b h.2]
  | .agg cs, h => by simp only [mv, mvs_id hf cs h]
  | .tup cs, h => by simp only [mv, mvs_id hf cs h]
  | .junk, _ => rfl
  | .bool _, _ => rfl
  | .int _ _, _ => rfl
  | .str _, _ => rfl
  | .nilp, _ => rfl
  | .nils, _ => rfl
  | .nilf, _ => rfl
  | .nilm, _ => rfl
theorem mvs_id {L : Nat} {f : Nat → To} (hf : ∀ n, n < L → f n = .keep n) : ∀ (cs : List AVal), closeds L cs → mvs f cs = cs
  | [], _ => rfl
  | c :: cs, h => by simp only [mvs, mv_id hf c h.1, mvs_id hf cs h.2]
end

def mvRegs (f : Nat → To) : Regs → Regs
  | [] => []
  | (i, v) :: r => (i, mv f v) :: mvRegs f r

theorem rget_mv (f : Nat → To) : ∀ (r : Regs) (i : Nat), rget (mvRegs f r) i = mv f (rget r i)
  | [], i => rfl
  | (j, v) :: r, i => by
    simp only [mvRegs, rget]
    split
    · rfl
    · exact rget_mv f r i

def mvEs (f : Nat → To) : List (AVal × AVal) → List (AVal × AVal)
  | [] => []
  | (k, v) :: es => (mv f k, mv f v) :: mvEs f es

theorem mvEs_map (f : Nat → To) : ∀ es, mvEs f es = es.map fun p => (mv f p.1, mv f p.2)
  | [] => rfl
  | (k, v) :: es => by simp [mvEs, mvEs_map f es]

def mvBlk (f : Nat → To) : ABlk → ABlk
  | .dead => .dead
  | .cells cs el => .cells (mvs f cs) el
  | .vec cs el sz => .vec (mvs f cs) el sz
  | .map es => .map (mvEs f es)
  | .loop l => .loop { l with regs := mvRegs f l.regs }

theorem mvBlk_live (f : Nat → To) (c : ABlk) : (mvBlk f c).isLive = c.isLive := by cases c <;> rfl

mutual
/-- No name in it is iced. -/
def cold (f : Nat → To) : AVal → Prop
  | .ptr n _ => ∀ cs, f n ≠ .ice cs
  | .slc n _ _ _ => ∀ cs, f n ≠ .ice cs
  | .sptr s _ => cold f s
  | .imm cs _ _ => colds f cs
  | .fn _ a b => colds f a ∧ colds f b
  | .agg cs => colds f cs
  | .tup cs => colds f cs
  | _ => True
def colds (f : Nat → To) : List AVal → Prop
  | [] => True
  | c :: cs => cold f c ∧ colds f cs
end

mutual
theorem cold_of {L : Nat} {f : Nat → To} (hf : ∀ n, n < L → f n = .keep n) : ∀ (a : AVal), closed L a → cold f a
  | .ptr n off, h => by simp [cold, hf n h]
  | .slc n off len sz, h => by simp [cold, hf n h]
  | .sptr s off, h => cold_of hf s h
  | .imm cs len t, h => colds_of hf cs h
  | .fn g a b, h => ⟨colds_of hf a h.1, colds_of hf b h.2⟩
  | .agg cs, h => colds_of hf cs h
  | .tup cs, h => colds_of hf cs h
  | .mapv _, _ => trivial
  | .yld _, _ => trivial
  | .junk, _ => trivial
  | .bool _, _ => trivial
  | .int _ _, _ => trivial
  | .str _, _ => trivial
  | .nilp, _ => trivial
  | .nils, _ => trivial
  | .nilf, _ => trivial
  | .nilm, _ => trivial
theorem colds_of {L : Nat} {f : Nat → To} (hf : ∀ n, n < L → f n = .keep n) : ∀ (cs : List AVal), closeds L cs → colds f cs
  | [], _ => trivial
  | c :: cs, h => ⟨cold_of hf c h.1, colds_of hf cs h.2⟩
end

theorem colds_get {f : Nat → To} : ∀ {cs : List AVal}, colds f cs → ∀ (i : Nat) (h : i < cs.length), cold f cs[i]
  | c :: cs, h, 0, _ => h.1
  | c :: cs, h, i + 1, hi => colds_get h.2 i (by simpa using hi)

theorem closeds_get {L : Nat} : ∀ {cs : List AVal}, closeds L cs → ∀ (i : Nat) (h : i < cs.length), closed L cs[i]
  | c :: cs, h, 0, _ => h.1
  | c :: cs, h, i + 1, hi => closeds_get h.2 i (by simpa using hi)

/-- The block under other names. -/
def Mv (f : Nat → To) (c c2 : ABlk) : Prop := c2 = mvBlk f c ∨ ∃ l, c = .loop l ∧ c2 = c ∧ ∀ i, mv f (rget l.regs i) = rget l.regs i

theorem Mv.live {f : Nat → To} {c c2 : ABlk} (h : Mv f c c2) : c2.isLive = c.isLive := by
  rcases h with rfl | ⟨l, rfl, rfl, _⟩
  · exact mvBlk_live f c
  · rfl

/-- One heap is the other one under other names. -/
structure Ghost (f : Nat → To) (H H2 : AHeap) : Prop where
  live : ∀ n', alive H2 n' = true → ∃ n c c2, f n = .keep n' ∧ H[n]? = some c ∧ H2[n']? = some c2 ∧ Mv f c c2
  ice : ∀ n cs, f n = .ice cs → n < H.length → ∃ cs0, content H[n]? = some cs0 ∧ cs = mvs f cs0 ∧ colds f cs0
  lt : ∀ n n', n < H.length → f n = .keep n' → n' < H2.length
  inj : ∀ n m n', f n = .keep n' → f m = .keep n' → n = m

theorem content_live {H : AHeap} {n : Nat} {cs : List AVal} (h : content H[n]? = some cs) : alive H n = true := by
  cases hn : H[n]? with
  | none => simp [hn, content] at h
  | some c => cases c <;> simp [hn, content] at h <;> exact alive_of hn rfl

section
variable {f : Nat → To} {ρ ρ2 : Nat → Option Nat} {H H2 : AHeap} {w : World}

structure GRho (f : Nat → To) (ρ ρ2 : Nat → Option Nat) : Prop where
  eq : ∀ n n', f n = .keep n' → ρ2 n' = ρ n

theorem grho (hg : Ghost f H H2) (ρ : Nat → Option Nat) : ∃ ρ2, GRho f ρ ρ2 := by
  refine ⟨fun n' => by classical exact if h : ∃ n, f n = .keep n' then ρ h.choose else none, ⟨fun n n' h => ?_⟩⟩
  have hx : ∃ n, f n = .keep n' := ⟨n, h⟩
  simp only [dif_pos hx]
  rw [hg.inj _ _ _ hx.choose_spec h]

theorem ghost_live (hg : Ghost f H H2) (hρ : GRho f ρ ρ2) {n n' : Nat} (h : f n = .keep n') (ha : alive H2 n' = true) : alive H n = true ∧ ρ2 n' = ρ n := by
  obtain ⟨m, c, c2, h1, h2, h3, hm⟩ := hg.live n' ha
  have := hg.inj _ _ _ h1 h
  subst this
  refine ⟨alive_of h2 ?_, hρ.eq _ _ h⟩
  obtain ⟨c', h4, h5⟩ := alive_some ha
  rw [h3] at h4; cases h4
  rwa [hm.live] at h5

theorem ghost_unowned (hg : Ghost f H H2) (hρ : GRho f ρ ρ2) {b : Nat} (h : ¬ (nm ρ H w).Owned b) : ¬ (nm ρ2 H2 w).Owned b := by
  rintro ⟨n', h1, h2⟩
  obtain ⟨n, c, c2, h3, h4, h5, hm⟩ := hg.live n' h1
  obtain ⟨h6, h7⟩ := ghost_live hg hρ h3 h1
  exact h ⟨n, h6, by rw [← h2]; exact h7.symm⟩

theorem ghost_iced (hr : HRel (nm ρ H w)) (hg : Ghost f H H2) (hρ : GRho f ρ ρ2) {n b : Nat} {cs : List AVal} (hf : f n = .ice cs) (ha : alive H n = true) (hb : ρ n = some b) : ¬ (nm ρ2 H2 w).Owned b := by
  rintro ⟨n', h1, h2⟩
  obtain ⟨m, c, c2, h3, h4, h5, hm⟩ := hg.live n' h1
  obtain ⟨h6, h7⟩ := ghost_live hg hρ h3 h1
  have h2' : ρ2 n' = some b := h2
  have : m = n := hr.inj m n b h6 ha (by rw [← h2']; exact h7.symm) hb
  subst this
  rw [hf] at h3; cases h3

/-- What is known of iced names. -/
def Iced (f : Nat → To) (ρ : Nat → Option Nat) (H : AHeap) (e2 : Nm) (w : World) (n : Nat) (cs : List AVal) : Prop :=
  alive H n = true ∧ ((ρ n = none ∧ cs = []) ∨ ∃ b arr el, ρ n = some b ∧ ¬ e2.Owned b ∧ w.heap[b]? = some (.cells arr el (0, 0)) ∧ VsRel e2 cs (fun i => arr[i]?))

mutual
theorem mv_rel (hr : HRel (nm ρ H w)) (hg : Ghost f H H2) (hρ : GRho f ρ ρ2) (p : Prop) (hI : p → ∀ n cs, f n = .ice cs → n < H.length → Iced f ρ H (nm ρ2 H2 w) w n cs) : ∀ (a : AVal) (v : Value), (p ∨ cold f a) → VRel (nm ρ H w) a v → VRel (nm ρ2 H2 w) (mv f a) v
  | .ptr n off, v, hp, h => by
    simp only [VRel] at h
    obtain ⟨hn, a, rfl, h⟩ := h
    simp only [mv]
    cases hf : f n with
    | lost => simp [mvPtr, VRel]
    | keep n' =>
      simp only [mvPtr, VRel]
      refine ⟨hg.lt n n' hn hf, a, rfl, fun ha => ?_⟩
      obtain ⟨h1, h2⟩ := ghost_live hg hρ hf ha
      obtain ⟨h3, h4⟩ := h h1
      exact ⟨h2.trans h3, h4⟩
    | ice cs =>
      rcases hp with hp | hp
      · obtain ⟨h1, h2⟩ := hI hp n cs hf hn
        obtain ⟨h3, h4⟩ := h h1
        simp only [mvPtr, VRel]
        rcases h2 with ⟨h2, rfl⟩ | ⟨b, arr, el, h5, h6, h7, h8⟩
        · rw [show (nm ρ H w).ρ n = ρ n from rfl, h2] at h3; cases h3
        · have : some b = some a.block := h5.symm.trans h3
          cases this
          refine ⟨a.block, 0, cs.length, cs.length, by rw [Nat.zero_add, ← h4], some ⟨a.block, 0, none⟩, cs.length, rfl, Nat.le_refl _, fun _ => rfl, .inr ⟨a.block, 0, rfl, h6, arr, el, _, h7, ?_⟩⟩
          exact h8.congr fun i _ => by rw [Nat.zero_add]
      · exact absurd hf (hp cs)
  | .slc n off len sz, v, hp, h => by
    simp only [VRel] at h
    obtain ⟨hn, a, cap, rfl, hc, h⟩ := h
    simp only [mv]
    cases hf : f n with
    | lost => simp [mvSlc, VRel]
    | keep n' =>
      simp only [mvSlc, VRel]
      refine ⟨hg.lt n n' hn hf, a, cap, rfl, hc, fun ha => ?_⟩
      obtain ⟨h1, h2⟩ := ghost_live hg hρ hf ha
      rw [show (nm ρ2 H2 w).ρ n' = ρ n from h2]
      exact h h1
    | ice cs =>
      rcases hp with hp | hp
      · obtain ⟨h1, h2⟩ := hI hp n cs hf hn
        simp only [mvSlc, VRel]
        refine ⟨a, cap, rfl, hc, by simp, ?_⟩
        rcases h2 with ⟨h2, rfl⟩ | ⟨b, arr, el, h5, h6, h7, h8⟩
        · rcases h h1 with ⟨_, h3, h4⟩ | ⟨h3, _⟩ | ⟨b, r, h3, _⟩
          · exact .inl ⟨by simp, by omega⟩
          · exact .inl ⟨by simp, h3⟩
          · rw [show (nm ρ H w).ρ n = ρ n from rfl, h2] at h3; cases h3
        · rcases h h1 with ⟨h3, _⟩ | ⟨h3, _⟩ | ⟨b', r, h3, h4, h9, h10⟩
          · rw [show (nm ρ H w).ρ n = ρ n from rfl, h5] at h3; cases h3
          · exact .inl ⟨by simp [h3], h3⟩
          · have : some b = some b' := h5.symm.trans h3
            cases this
            refine .inr ⟨b, off, h4, h6, arr, el, _, h7, ?_⟩
            exact (h8.drop off).take _
      · exact absurd hf (hp cs)
  | .mapv n, v, hp, h => by
    simp only [VRel] at h
    obtain ⟨hn, b, rfl, h⟩ := h
    simp only [mv]
    cases hf : f n with
    | lost => simp [mvMap, VRel]
    | ice cs => simp [mvMap, VRel]
    | keep n' =>
      simp only [mvMap, VRel]
      refine ⟨hg.lt n n' hn hf, b, rfl, fun ha => ?_⟩
      obtain ⟨h1, h2⟩ := ghost_live hg hρ hf ha
      exact h2.trans (h h1)
  | .yld n, v, hp, h => by
    simp only [VRel] at h
    obtain ⟨hn, b, rfl, h⟩ := h
    simp only [mv]
    cases hf : f n with
    | lost => simp [mvYld, VRel]
    | ice cs => simp [mvYld, VRel]
    | keep n' =>
      simp only [mvYld, VRel]
      refine ⟨hg.lt n n' hn hf, b, rfl, fun ha => ?_⟩
      obtain ⟨h1, h2⟩ := ghost_live hg hρ hf ha
      exact h2.trans (h h1)
  | .sptr s off, v, hp, h => by
    simp only [VRel] at h
    obtain ⟨b, o, len, cap, rfl, h⟩ := h
    simp only [mv, VRel]
    exact ⟨b, o, len, cap, rfl, mv_rel hr hg hρ p hI s _ hp h⟩
  | .imm cs len t, v, hp, h => by
    simp only [VRel] at h
    obtain ⟨a, cap, rfl, hc, ht, h⟩ := h
    simp only [mv, VRel]
    refine ⟨a, cap, rfl, hc, ht, ?_⟩
    rcases h with ⟨rfl, h⟩ | ⟨b, o, ha, ho, arr, el, fz, hb, h⟩
    · exact .inl ⟨rfl, h⟩
    · exact .inr ⟨b, o, ha, ghost_unowned hg hρ ho, arr, el, fz, hb, mvs_rel hr hg hρ p hI cs _ hp h⟩
  | .fn g a b, v, hp, h => by
    simp only [VRel] at h
    obtain ⟨xs, ys, rfl, h1, h2, h3, h4⟩ := h
    simp only [mv, VRel]
    exact ⟨xs, ys, rfl, by rw [mvs_length]; exact h1, by rw [mvs_length]; exact h2, mvs_rel hr hg hρ p hI a _ (hp.imp id And.left) h3, mvs_rel hr hg hρ p hI b _ (hp.imp id And.right) h4⟩
  | .agg cs, v, hp, h => by
    simp only [VRel] at h
    obtain ⟨arr, rfl, h1, h2⟩ := h
    simp only [mv, VRel]
    exact ⟨arr, rfl, by rw [mvs_length]; exact h1, mvs_rel hr hg hρ p hI cs _ hp h2⟩
  | .tup cs, v, hp, h => by
    simp only [VRel] at h
    obtain ⟨arr, rfl, h1, h2⟩ := h
    simp only [mv, VRel]
    exact ⟨arr, rfl, by rw [mvs_length]; exact h1, mvs_rel hr hg hρ p hI cs _ hp h2⟩
  | .junk, _, _, _ => by simp [mv, VRel]
  | .bool b, _, _, h => by simpa [mv, VRel] using h
  | .int k n, _, _, h => by simpa [mv, VRel] using h
  | .str s, _, _, h => by simpa [mv, VRel] using h
  | .nilp, _, _, h => by simpa [mv, VRel] using h
  | .nils, _, _, h => by simpa [mv, VRel] using h
  | .nilf, _, _, h => by simpa [mv, VRel] using h
  | .nilm, _, _, h => by simpa [mv, VRel] using h
theorem mvs_rel (hr : HRel (nm ρ H w)) (hg : Ghost f H H2) (hρ : GRho f ρ ρ2) (p : Prop) (hI : p → ∀ n cs, f n = .ice cs → n < H.length → Iced f ρ H (nm ρ2 H2 w) w n cs) : ∀ (cs : List AVal) (g : Nat → Option Value), (p ∨ colds f cs) → VsRel (nm ρ H w) cs g → VsRel (nm ρ2 H2 w) (mvs f cs) g
  | [], _, _, _ => by simp [mvs, VsRel]
  | c :: cs, g, hp, h => by
    simp only [VsRel] at h
    obtain ⟨⟨v, h1, h2⟩, h3⟩ := h
    simp only [mvs, VsRel]
    exact ⟨⟨v, h1, mv_rel hr hg hρ p hI c v (hp.imp id And.left) h2⟩, mvs_rel hr hg hρ p hI cs _ (hp.imp id And.right) h3⟩
end

theorem iced (hr : HRel (nm ρ H w)) (hg : Ghost f H H2) (hρ : GRho f ρ ρ2) (n : Nat) (cs : List AVal) (hf : f n = .ice cs) (hn : n < H.length) : Iced f ρ H (nm ρ2 H2 w) w n cs := by
  obtain ⟨cs0, h1, rfl, h0⟩ := hg.ice n cs hf hn
  have ha := content_live h1
  refine ⟨ha, ?_⟩
  rcases content_at hr h1 with ⟨h2, rfl, _⟩ | ⟨b, arr, el, h2, h3, h4, _⟩
  · exact .inl ⟨h2, rfl⟩
  · exact .inr ⟨b, arr, el, h2, ghost_iced hr hg hρ hf ha h2, h3, mvs_rel hr hg hρ False (fun h => h.elim) cs0 _ (.inr h0) h4⟩

theorem ghost_val (hr : HRel (nm ρ H w)) (hg : Ghost f H H2) (hρ : GRho f ρ ρ2) {a : AVal} {v : Value} (h : VRel (nm ρ H w) a v) : VRel (nm ρ2 H2 w) (mv f a) v :=
  mv_rel hr hg hρ True (fun _ => iced hr hg hρ) a v (.inl trivial) h

theorem ghost_vals (hr : HRel (nm ρ H w)) (hg : Ghost f H H2) (hρ : GRho f ρ ρ2) {cs : List AVal} {g : Nat → Option Value} (h : VsRel (nm ρ H w) cs g) : VsRel (nm ρ2 H2 w) (mvs f cs) g :=
  mvs_rel hr hg hρ True (fun _ => iced hr hg hρ) cs g (.inl trivial) h

theorem ghost_regs (hr : HRel (nm ρ H w)) (hg : Ghost f H H2) (hρ : GRho f ρ ρ2) {r : Regs} {tmps : Array Value} (h : RRel (nm ρ H w) r tmps) : RRel (nm ρ2 H2 w) (mvRegs f r) tmps := fun i => by
  rw [rget_mv]; exact ghost_val hr hg hρ (h i)

theorem ghost_blk (hr : HRel (nm ρ H w)) (hg : Ghost f H H2) (hρ : GRho f ρ ρ2) {r : Option Nat} {c c2 : ABlk} (hm : Mv f c c2) (h : BRel (nm ρ H w) r c) : BRel (nm ρ2 H2 w) r c2 := by
  rcases hm with rfl | ⟨l, rfl, rfl, hm⟩
  rotate_left
  · obtain ⟨b, rl, h1, h2, h3, h4, h5, h6, h7, h8⟩ := h
    exact ⟨b, rl, h1, h2, h3, h4, h5, h6, fun i => by rw [← hm i]; exact ghost_val hr hg hρ (h7 i), h8⟩
  cases c with
  | dead => trivial
  | cells cs el =>
    obtain ⟨b, arr, h1, h2, h3, h4⟩ := h
    exact ⟨b, arr, h1, h2, by rw [mvs_length]; exact h3, ghost_vals hr hg hρ h4⟩
  | vec cs el sz =>
    rcases h with ⟨h, rfl⟩ | ⟨b, arr, h1, h2, h3⟩
    · exact .inl ⟨h, rfl⟩
    · exact .inr ⟨b, arr, h1, h2, ghost_vals hr hg hρ h3⟩
  | map es =>
    obtain ⟨b, ents, clk, h1, h2, h3, h4⟩ := h
    refine ⟨b, ents, clk, h1, h2, by rw [mvEs_map]; simpa using h3, fun i hi => ?_⟩
    rw [mvEs_map] at hi
    simp only [List.length_map] at hi
    obtain ⟨m, g1, g2, g3⟩ := h4 i hi
    exact ⟨m, g1, by simpa [mvEs_map] using ghost_val hr hg hρ g2, by simpa [mvEs_map] using ghost_val hr hg hρ g3⟩
  | loop l =>
    obtain ⟨b, rl, h1, h2, h3, h4, h5, h6, h7, h8⟩ := h
    exact ⟨b, rl, h1, h2, h3, h4, h5, h6, ghost_regs hr hg hρ h7, h8⟩

theorem ghost_heap (hr : HRel (nm ρ H w)) (hg : Ghost f H H2) (hρ : GRho f ρ ρ2) : HRel (nm ρ2 H2 w) where
  blk n' c' hc' := by
    by_cases hl : c'.isLive = true
    · obtain ⟨n, c, c2, h1, h2, h3, hm⟩ := hg.live n' (alive_of hc' hl)
      have hc2 : H2[n']? = some c' := hc'
      rw [h3] at hc2; cases hc2
      have := ghost_blk hr hg hρ hm (hr.blk n c h2)
      rw [show (nm ρ2 H2 w).ρ n' = ρ n from hρ.eq _ _ h1]
      exact this
    · cases c' <;> simp_all [ABlk.isLive]
      trivial
  inj n' m' b hn hm h1 h2 := by
    obtain ⟨n, c, c2, g1, g2, g3, _⟩ := hg.live n' hn
    obtain ⟨m, d, d2, k1, k2, k3, _⟩ := hg.live m' hm
    obtain ⟨g4, g5⟩ := ghost_live hg hρ g1 hn
    obtain ⟨k4, k5⟩ := ghost_live hg hρ k1 hm
    have e1 : ρ2 n' = some b := h1
    have e2 : ρ2 m' = some b := h2
    have := hr.inj n m b g4 k4 (g5.symm.trans e1) (k5.symm.trans e2)
    subst this
    rw [g1] at k1; cases k1; rfl

/-- Behind a run. -/
theorem ghost_post {B : Nat} {ρ0 : Nat → Option Nat} {H0 : AHeap} {w0 : World} (hg : Ghost f H H2) (hρ : GRho f ρ ρ2) (hf : ∀ n, n < H0.length → f n = .keep n) (hl : H0.length ≤ H2.length) (hp : Pres B ρ0 H0 w0 ρ H w) : Pres B ρ0 H0 w0 ρ2 H2 w where
  size := hp.size
  os := hp.os
  tape := hp.tape
  output := hp.output
  len := hl
  name n hn ha := by
    obtain ⟨h1, h2⟩ := ghost_live hg hρ (hf n hn) ha
    obtain ⟨h3, h4⟩ := hp.name n hn h1
    exact ⟨h3, h2.trans h4⟩
  keep := hp.keep
  out b hb ho := ghost_unowned hg hρ (hp.out b hb ho)
  room := hp.room

/-- Ahead of a run. -/
theorem ghost_pre {B : Nat} {ρ' : Nat → Option Nat} {H' : AHeap} {w' : World} (hg : Ghost f H H2) (hρ : GRho f ρ ρ2) (hf : ∀ n n', f n = .keep n' → n' = n) (hl : H2.length = H.length) (hp : Pres B ρ2 H2 w ρ' H' w') : Pres B ρ H w ρ' H' w' where
  size := hp.size
  os := hp.os
  tape := hp.tape
  output := hp.output
  len := by rw [← hl]; exact hp.len
  name n hn ha := by
    obtain ⟨h1, h2⟩ := hp.name n (by rw [hl]; exact hn) ha
    obtain ⟨m, c, c2, h3, _⟩ := hg.live n h1
    have := hf _ _ h3
    subst this
    obtain ⟨h4, h5⟩ := ghost_live hg hρ h3 h1
    exact ⟨h4, h2.trans h5⟩
  keep b hb ho := hp.keep b hb (ghost_unowned hg hρ ho)
  out b hb ho := hp.out b hb (ghost_unowned hg hρ ho)
  room := hp.room

end

end Go.Am

namespace Go.Am
open Go
set_option linter.unusedVariables false

/-! ### Ahead of a run, and behind it -/

def closedEs (L : Nat) (es : List (AVal × AVal)) : Prop := ∀ p ∈ es, closed L p.1 ∧ closed L p.2

def closedB (L : Nat) : ABlk → Prop
  | .dead => True
  | .cells cs _ => closeds L cs
  | .vec cs _ _ => closeds L cs
  | .map es => closedEs L es
  | .loop l => ∀ i, closed L (rget l.regs i)

theorem brel_closed {e : Nm} {r : Option Nat} {c : ABlk} (h : BRel e r c) : closedB e.H.length c := by
  cases c with
  | dead => trivial
  | cells cs el =>
    obtain ⟨b, arr, h1, h2, h3, h4⟩ := h
    exact closeds_of cs _ h4
  | vec cs el sz =>
    rcases h with ⟨h, rfl⟩ | ⟨b, arr, h1, h2, h3⟩
    · exact trivial
    · exact closeds_of cs _ h3
  | map es =>
    obtain ⟨b, ents, clk, h1, h2, h3, h4⟩ := h
    intro p hp
    obtain ⟨i, hi, rfl⟩ := List.getElem_of_mem hp
    obtain ⟨m, g1, g2, g3⟩ := h4 i hi
    exact ⟨closed_of _ _ g2, closed_of _ _ g3⟩
  | loop l =>
    obtain ⟨b, rl, h1, h2, h3, h4, h5, h6, h7, h8⟩ := h
    exact fun i => closed_of _ _ (h7 i)

theorem mv_blk {L : Nat} {f : Nat → To} (hf : ∀ n, n < L → f n = .keep n) {c : ABlk} (h : closedB L c) : Mv f c c := by
  cases c with
  | dead => exact .inl rfl
  | cells cs el => exact .inl (by simp only [mvBlk, mvs_id hf cs h])
  | vec cs el sz => exact .inl (by simp only [mvBlk, mvs_id hf cs h])
  | map es =>
    refine .inl ?_
    simp only [mvBlk, mvEs_map]
    congr 1
    have : es.map (fun p => (mv f p.1, mv f p.2)) = es.map id := List.map_congr_left fun p hp => by
      obtain ⟨h1, h2⟩ := h p hp
      simp only [mv_id hf _ h1, mv_id hf _ h2, id]
    rw [this, List.map_id]
  | loop l => exact .inr ⟨l, rfl, rfl, fun i => mv_id hf _ (h i)⟩

def ClosedH (H : AHeap) : Prop := ∀ (n : Nat) (c : ABlk), H[n]? = some c → closedB H.length c

theorem hrel_closed {ρ : Nat → Option Nat} {H : AHeap} {w : World} (h : HRel (nm ρ H w)) : ClosedH H := fun n c hc => brel_closed (h.blk n c hc)

/-- What is left of a state behind a run: the values' names below L are kept. -/
structure Left (H H' : AHeap) (f : Nat → To) (H2 : AHeap) : Prop where
  ghost : Ghost f H' H2
  low : ∀ n, n < H.length → f n = .keep n
  le : H.length ≤ H2.length

section
variable {P : Program} {c : Ctx} {k : List AItem} {r : Regs} {H : AHeap} {Q Q' : AVal → AHeap → Prop}

theorem fun_gh {f : FuncId} {args : List AVal} (h : ClosedH H → closeds H.length args → FunOK P f args H Q') (hg : ∀ av H', ClosedH H → closeds H.length args → Q' av H' → ∃ g H2, Left H H' g H2 ∧ Q (mv g av) H2) (hcb : Callable P f) : FunOK P f args H Q := by
  refine ⟨hcb, fun ρ vs w h1 h2 h3 cs => ?_⟩
  have hc1 := hrel_closed h3
  have hc2 : closeds H.length args := closeds_of _ _ h2
  obtain ⟨av, H', ρ', v, w', fr, q1, q2, q3, q4, q5, q6, q7⟩ := (h hc1 hc2).2 ρ vs w h1 h2 h3 cs
  obtain ⟨g, H2, hl, hq⟩ := hg av H' hc1 hc2 q1
  obtain ⟨ρ2, hρ⟩ := grho hl.ghost ρ'
  exact ⟨_, H2, ρ2, v, w', fr, hq, q2, q3, q4, ghost_val q6 hl.ghost hρ q5, ghost_heap q6 hl.ghost hρ, ghost_post hl.ghost hρ hl.low hl.le q7⟩

theorem run_gh (h : ClosedH H → (∀ i, closed H.length (rget r i)) → Run P c k r H Q') (hg : ∀ av H', ClosedH H → (∀ i, closed H.length (rget r i)) → Q' av H' → ∃ g H2, Left H H' g H2 ∧ Q (mv g av) H2) : Run P c k r H Q := by
  intro B ρ w tmps D b cs k' hr hl
  have hc1 := hrel_closed hr.heap
  have hc2 : ∀ i, closed H.length (rget r i) := fun i => closed_of _ _ (hr.regs i)
  obtain ⟨av, H', ρ', v, w', m', q1, q2, q3, q4, q5, q6⟩ := h hc1 hc2 B ρ w tmps D b cs k' hr hl
  obtain ⟨g, H2, hl, hq⟩ := hg av H' hc1 hc2 q1
  obtain ⟨ρ2, hρ⟩ := grho hl.ghost ρ'
  exact ⟨_, H2, ρ2, v, w', m', hq, q2, q3, ghost_val q5 hl.ghost hρ q4, ghost_heap q5 hl.ghost hρ, ghost_post hl.ghost hρ hl.low hl.le q6⟩

/-- Ahead of a run some blocks are iced. -/
theorem run_pre {f : Nat → To} {H2 : AHeap} (hg : ClosedH H → Ghost f H H2) (hf : ∀ n n', f n = .keep n' → n' = n) (hl : H2.length = H.length) (hrd : ∀ n, c.rd = some n → f n = .keep n) (h : Run P c k (mvRegs f r) H2 Q) : Run P c k r H Q := by
  intro B ρ w tmps D b cs k' hr hlow
  have hg := hg (hrel_closed hr.heap)
  obtain ⟨ρ2, hρ⟩ := grho hg ρ
  have hreal : Real P c (mvRegs f r) H2 B ρ2 w tmps D b cs := {
    le := hr.le
    nt := hr.nt
    regs := ghost_regs hr.heap hg hρ hr.regs
    heap := ghost_heap hr.heap hg hρ
    dfr := ⟨hr.dfr.nodup, fun d hd => by
      obtain ⟨h1, h2, h3⟩ := hr.dfr.is d hd
      exact ⟨h1, h2, ghost_unowned hg hρ h3⟩⟩
    rd := by
      have := hr.rd
      cases hro : c.rd with
      | none => rw [hro] at this; exact this
      | some n =>
        rw [hro] at this
        obtain ⟨l, h1, h2, h3⟩ := this
        refine ⟨l, h1, ?_, h3⟩
        have := ghost_val hr.heap hg hρ h2
        simpa [mv, hrd n hro, mvYld] using this
    fn := hr.fn
    kind := hr.kind
    ctx := hr.ctx }
  obtain ⟨av, H', ρ', v, w', m', q1, q2, q3, q4, q5, q6⟩ := h B ρ2 w tmps D b cs k' hreal hlow
  exact ⟨av, H', ρ', v, w', m', q1, q2, q3, q4, q5, ghost_pre hg hρ hf hl q6⟩

theorem runO_pre {f : Nat → To} {H2 : AHeap} {as : List AOper} (hg : ClosedH H → Ghost f H H2) (hf : ∀ n n', f n = .keep n' → n' = n) (hl : H2.length = H.length) (hrd : ∀ n, c.rd = some n → f n = .keep n) (h : RunO P c as k (mvRegs f r) H2 Q) : RunO P c as k r H Q := by
  intro B ρ w tmps D b cs k' ops is hr hlow hops
  have hg := hg (hrel_closed hr.heap)
  obtain ⟨ρ2, hρ⟩ := grho hg ρ
  have hreal : Real P c (mvRegs f r) H2 B ρ2 w tmps D b cs := {
    le := hr.le
    nt := hr.nt
    regs := ghost_regs hr.heap hg hρ hr.regs
    heap := ghost_heap hr.heap hg hρ
    dfr := ⟨hr.dfr.nodup, fun d hd => by
      obtain ⟨h1, h2, h3⟩ := hr.dfr.is d hd
      exact ⟨h1, h2, ghost_unowned hg hρ h3⟩⟩
    rd := by
      have := hr.rd
      cases hro : c.rd with
      | none => rw [hro] at this; exact this
      | some n =>
        rw [hro] at this
        obtain ⟨l, h1, h2, h3⟩ := this
        refine ⟨l, h1, ?_, h3⟩
        have := ghost_val hr.heap hg hρ h2
        simpa [mv, hrd n hro, mvYld] using this
    fn := hr.fn
    kind := hr.kind
    ctx := hr.ctx }
  obtain ⟨av, H', ρ', v, w', m', q1, q2, q3, q4, q5, q6⟩ := h B ρ2 w tmps D b cs k' ops is hreal hlow hops
  exact ⟨av, H', ρ', v, w', m', q1, q2, q3, q4, q5, ghost_pre hg hρ hf hl q6⟩

end

/-! ### Fresh names -/

def findN (n : Nat) : List Nat → Nat → Option Nat
  | [], _ => none
  | m :: ms, i => if m = n then some i else findN n ms (i + 1)

def findI (n : Nat) : List (Nat × List AVal) → Option (List AVal)
  | [] => none
  | p :: ps => if p.1 = n then some p.2 else findI n ps

/-- Names from L on: those of ks are kept, in this order; those of is are iced; the others go. -/
def toF (L : Nat) (ks : List Nat) (is : List (Nat × List AVal)) (n : Nat) : To :=
  if n < L then .keep n else match findN n ks L with
    | some i => .keep i
    | none => match findI n is with
      | some cs => .ice cs
      | none => .lost

theorem toF_low {L : Nat} {ks : List Nat} {is : List (Nat × List AVal)} {n : Nat} (h : n < L) : toF L ks is n = .keep n := by simp [toF, h]

theorem findN_some {n : Nat} : ∀ {ms : List Nat} {i j : Nat}, findN n ms i = some j → i ≤ j ∧ j < i + ms.length ∧ ms[j - i]? = some n
  | [], i, j, h => by simp [findN] at h
  | m :: ms, i, j, h => by
    simp only [findN] at h
    split at h
    · cases h; subst_vars; simp
    · obtain ⟨h1, h2, h3⟩ := findN_some h
      refine ⟨by omega, by simp; omega, ?_⟩
      rw [show j - i = (j - (i + 1)) + 1 by omega]
      simpa using h3

theorem findI_some {n : Nat} : ∀ {ps : List (Nat × List AVal)} {cs : List AVal}, findI n ps = some cs → (n, cs) ∈ ps
  | [], cs, h => by simp [findI] at h
  | p :: ps, cs, h => by
    simp only [findI] at h
    split at h
    · cases h; subst_vars; exact List.mem_cons_self
    · exact List.mem_cons_of_mem _ (findI_some h)

theorem toF_keep {L : Nat} {ks : List Nat} {is : List (Nat × List AVal)} {n n' : Nat} (h : toF L ks is n = .keep n') : (n < L ∧ n' = n) ∨ (L ≤ n ∧ L ≤ n' ∧ n' < L + ks.length ∧ ks[n' - L]? = some n) := by
  unfold toF at h
  split at h
  · cases h; exact .inl ⟨‹_›, rfl⟩
  · right
    split at h
    · rename_i i hi
      cases h
      obtain ⟨h1, h2, h3⟩ := findN_some hi
      exact ⟨by omega, h1, h2, h3⟩
    · split at h <;> cases h

theorem toF_ice {L : Nat} {ks : List Nat} {is : List (Nat × List AVal)} {n : Nat} {cs : List AVal} (h : toF L ks is n = .ice cs) : L ≤ n ∧ (n, cs) ∈ is := by
  unfold toF at h
  split at h
  · cases h
  · split at h
    · cases h
    · split at h
      · rename_i hx; cases h; exact ⟨by omega, findI_some hx⟩
      · cases h

/-- The state behind a run, its garbage gone. -/
theorem left_of {H H' : AHeap} (hc : ClosedH H) (hle : H.length ≤ H'.length) (ks : List Nat) (is : List (Nat × List AVal))
    (hlow : ∀ n c, n < H.length → H'[n]? = some c → H[n]? = some c ∨ Mv (toF H.length ks is) c c)
    (hks : ∀ m ∈ ks, H.length ≤ m)
    (his : ∀ p ∈ is, ∃ cs0, content H'[p.1]? = some cs0 ∧ p.2 = mvs (toF H.length ks is) cs0 ∧ colds (toF H.length ks is) cs0)
    (hnd : ks.Nodup) : Left H H' (toF H.length ks is) (H'.take H.length ++ ks.map fun m => mvBlk (toF H.length ks is) (H'.getD m .dead)) where
  low n h := toF_low h
  le := by simp; omega
  ghost := by
    have hlow' : ∀ n c, n < H.length → H'[n]? = some c → Mv (toF H.length ks is) c c := by
      intro n c hn h
      rcases hlow n c hn h with h1 | h1
      · exact mv_blk (L := H.length) (fun _ h => toF_low h) (hc n c h1)
      · exact h1
    have htl : (H'.take H.length).length = H.length := by simp; omega
    refine ⟨?_, ?_, ?_, ?_⟩
    · intro n' ha
      have hlt := alive_lt ha
      simp only [List.length_append, htl, List.length_map] at hlt
      by_cases hn : n' < H.length
      · have h1 : n' < H'.length := by omega
        refine ⟨n', H'[n'], H'[n'], toF_low hn, List.getElem?_eq_getElem h1, ?_, hlow' n' _ hn (List.getElem?_eq_getElem h1)⟩
        rw [List.getElem?_append_left (by omega), List.getElem?_take, if_pos hn, List.getElem?_eq_getElem h1]
      · have hk : n' - H.length < ks.length := by omega
        have hget : (H'.take H.length ++ ks.map fun m => mvBlk (toF H.length ks is) (H'.getD m .dead))[n']? = some (mvBlk (toF H.length ks is) (H'.getD ks[n' - H.length] .dead)) := by
          rw [List.getElem?_append_right (by omega), htl, List.getElem?_map, List.getElem?_eq_getElem hk]; rfl
        have hmem : ks[n' - H.length] ∈ ks := List.getElem_mem hk
        have hfk : toF H.length ks is ks[n' - H.length] = .keep n' := by
          have h1 := hks _ hmem
          unfold toF
          rw [if_neg (by omega)]
          have : findN ks[n' - H.length] ks H.length = some n' := by
            have key : ∀ (ms : List Nat) (i j : Nat) (h : j < ms.length), ms.Nodup → findN ms[j] ms i = some (i + j) := by
              intro ms
              induction ms with
              | nil => intro i j h; simp at h
              | cons m ms ih =>
                intro i j h hn
                simp only [findN]
                cases j with
                | zero => simp
                | succ j =>
                  simp only [List.length_cons, Nat.add_lt_add_iff_right] at h
                  rw [List.nodup_cons] at hn
                  have hne : m ≠ (m :: ms)[j + 1] := by
                    intro he
                    apply hn.1
                    have : (m :: ms)[j + 1] = ms[j] := rfl
                    rw [he, this]; exact List.getElem_mem h
                  rw [if_neg hne]
                  have := ih (i + 1) j h hn.2
                  rw [show (m :: ms)[j + 1] = ms[j] from rfl, this]
                  congr 1; omega
            have := key ks H.length (n' - H.length) hk hnd
            rw [this]; congr 1; omega
          rw [this]
        obtain ⟨c2, h2, h3⟩ := alive_some ha
        rw [hget] at h2; cases h2
        rw [mvBlk_live] at h3
        cases hx : H'[ks[n' - H.length]]? with
        | none =>
          rw [List.getD_eq_getElem?_getD, hx] at h3; cases h3
        | some cx =>
          refine ⟨_, cx, _, hfk, hx, hget, .inl ?_⟩
          rw [List.getD_eq_getElem?_getD, hx]; rfl
    · intro n cs h hn
      obtain ⟨h1, h2⟩ := toF_ice h
      exact his _ h2
    · intro n n' hn h
      simp only [List.length_append, htl, List.length_map]
      rcases toF_keep h with ⟨h1, rfl⟩ | ⟨h1, h2, h3, h4⟩ <;> omega
    · intro n m n' h1 h2
      rcases toF_keep h1 with ⟨a1, a2⟩ | ⟨a1, a2, a3, a4⟩ <;> rcases toF_keep h2 with ⟨b1, b2⟩ | ⟨b1, b2, b3, b4⟩
      · omega
      · omega
      · omega
      · rw [a4] at b4; exact Option.some.inj b4

theorem keeps_take {H H' : AHeap} (h : Keeps H H') : H'.take H.length = H := by
  refine List.ext_getElem? fun i => ?_
  rw [List.getElem?_take]
  by_cases hi : i < H.length
  · rw [if_pos hi, h.at_ i hi]
  · rw [if_neg hi, List.getElem?_eq_none (by omega)]

/-- The state behind a run that turned nothing that was there. -/
theorem left_keeps {H H' : AHeap} (hc : ClosedH H) (hk : Keeps H H') (ks : List Nat) (is : List (Nat × List AVal)) (hks : ∀ m ∈ ks, H.length ≤ m)
    (his : ∀ p ∈ is, ∃ cs0, content H'[p.1]? = some cs0 ∧ p.2 = mvs (toF H.length ks is) cs0 ∧ colds (toF H.length ks is) cs0)
    (hnd : ks.Nodup) : Left H H' (toF H.length ks is) (H ++ ks.map fun m => mvBlk (toF H.length ks is) (H'.getD m .dead)) := by
  have := left_of (H' := H') hc hk.le ks is (fun n c hn h => .inl (by rw [← hk.at_ n hn]; exact h)) hks his hnd
  rwa [keeps_take hk] at this

end Go.Am

namespace Go.Am
open Go
set_option linter.unusedVariables false

/-! ### Values that say less -/

def Sees (a a' : AVal) : Prop := ∀ e v, VRel e a v → VRel e a' v
def SeesL (as as' : List AVal) : Prop := as.length = as'.length ∧ ∀ (i : Nat) (h : i < as.length) (h' : i < as'.length), Sees as[i] as'[i]

theorem Sees.refl (a : AVal) : Sees a a := fun _ _ h => h
theorem Sees.trans {a b c : AVal} (h : Sees a b) (h' : Sees b c) : Sees a c := fun e v x => h' e v (h e v x)
theorem Sees.junk (a : AVal) : Sees a .junk := fun _ _ _ => by simp [VRel]
theorem Sees.nils (t : Bool) : Sees .nils (.imm [] 0 t) := fun e v h => by
  simp only [VRel] at h; subst h
  unfold VRel
  exact ⟨none, 0, rfl, Nat.le_refl _, fun _ => rfl, .inl ⟨rfl, rfl⟩⟩
theorem Sees.loose (cs : List AVal) (n : Nat) (t : Bool) : Sees (.imm cs n t) (.imm cs n false) := fun e v h => by
  simp only [VRel] at h ⊢
  obtain ⟨a, cap, h1, h2, h3, h4⟩ := h
  exact ⟨a, cap, h1, h2, by simp, h4⟩

theorem SeesL.nil : SeesL [] [] := ⟨rfl, fun i h => by simp at h⟩
theorem SeesL.cons {a a' : AVal} {as as' : List AVal} (h : Sees a a') (hs : SeesL as as') : SeesL (a :: as) (a' :: as') :=
  ⟨by simp [hs.1], fun i h1 h2 => by
    cases i with
    | zero => exact h
    | succ i => exact hs.2 i (by simpa using h1) (by simpa using h2)⟩
theorem SeesL.refl (as : List AVal) : SeesL as as := ⟨rfl, fun i h _ => Sees.refl _⟩
theorem SeesL.append {as as' bs bs' : List AVal} (h : SeesL as as') (h' : SeesL bs bs') : SeesL (as ++ bs) (as' ++ bs') :=
  ⟨by simp [h.1, h'.1], fun i h1 h2 => by
    by_cases hi : i < as.length
    · rw [List.getElem_append_left hi, List.getElem_append_left (by rw [← h.1]; exact hi)]
      exact h.2 i hi _
    · rw [List.getElem_append_right (by omega), List.getElem_append_right (by have := h.1; omega)]
      simp only [List.length_append] at h1 h2
      have := h.1
      have e : i - as'.length = i - as.length := by omega
      simp only [e]
      exact h'.2 _ (by omega) (by have := h'.1; omega)⟩

theorem vsRel_sees {e : Nm} {as as' : List AVal} {g : Nat → Option Value} (hs : SeesL as as') (h : VsRel e as g) : VsRel e as' g := by
  rw [vsRel_iff] at h ⊢
  intro i hi
  have hl := hs.1
  obtain ⟨v, h1, h2⟩ := h i (by omega)
  exact ⟨v, h1, hs.2 i (by omega) hi _ _ h2⟩

theorem Sees.imm {cs cs' : List AVal} (h : SeesL cs cs') (n : Nat) (t : Bool) : Sees (.imm cs n t) (.imm cs' n t) := fun e v hv => by
  simp only [VRel] at hv ⊢
  obtain ⟨a, cap, h1, h2, h3, h4⟩ := hv
  refine ⟨a, cap, h1, h2, h3, ?_⟩
  rcases h4 with ⟨rfl, h4⟩ | ⟨b, o, g1, g2, arr, el, fz, g3, g4⟩
  · have : cs' = [] := List.length_eq_zero_iff.1 (by have := h.1; simpa using this.symm)
    exact .inl ⟨this, h4⟩
  · exact .inr ⟨b, o, g1, g2, arr, el, fz, g3, vsRel_sees h g4⟩
theorem Sees.agg {cs cs' : List AVal} (h : SeesL cs cs') : Sees (.agg cs) (.agg cs') := fun e v hv => by
  simp only [VRel] at hv ⊢
  obtain ⟨arr, h1, h2, h3⟩ := hv
  exact ⟨arr, h1, by rw [← h.1]; exact h2, vsRel_sees h h3⟩
theorem Sees.tup {cs cs' : List AVal} (h : SeesL cs cs') : Sees (.tup cs) (.tup cs') := fun e v hv => by
  simp only [VRel] at hv ⊢
  obtain ⟨arr, h1, h2, h3⟩ := hv
  exact ⟨arr, h1, by rw [← h.1]; exact h2, vsRel_sees h h3⟩
theorem Sees.sptr {s s' : AVal} (h : Sees s s') (off : Nat) : Sees (.sptr s off) (.sptr s' off) := fun e v hv => by
  simp only [VRel] at hv ⊢
  obtain ⟨b, o, len, cap, h1, h2⟩ := hv
  exact ⟨b, o, len, cap, h1, h _ _ h2⟩
theorem Sees.fn {f : FuncId} {a a' b b' : List AVal} (h : SeesL a a') (h' : SeesL b b') : Sees (.fn f a b) (.fn f a' b') := fun e v hv => by
  simp only [VRel] at hv ⊢
  obtain ⟨xs, ys, h1, h2, h3, h4, h5⟩ := hv
  exact ⟨xs, ys, h1, by rw [← h.1]; exact h2, by rw [← h'.1]; exact h3, vsRel_sees h h4, vsRel_sees h' h5⟩

section
variable {P : Program} {c : Ctx} {k : List AItem} {r : Regs} {H : AHeap} {Q Q' : AVal → AHeap → Prop}

/-- Of the arguments less is known. -/
theorem fun_sees {f : FuncId} {args args' : List AVal} (hs : SeesL args args') (h : FunOK P f args' H Q) : FunOK P f args H Q :=
  ⟨h.1, fun ρ vs w h1 h2 h3 cs => h.2 ρ vs w (by rw [← hs.1]; exact h1) (vsRel_sees hs h2) h3 cs⟩

/-- Of the result less is known. -/
theorem fun_less {f : FuncId} {args : List AVal} (h : FunOK P f args H Q') (hq : ∀ av H', Q' av H' → ∃ av', Sees av av' ∧ Q av' H') : FunOK P f args H Q :=
  ⟨h.1, fun ρ vs w h1 h2 h3 cs => by
    obtain ⟨av, H', ρ', v, w', fr, q1, q2, q3, q4, q5, q6, q7⟩ := h.2 ρ vs w h1 h2 h3 cs
    obtain ⟨av', g1, g2⟩ := hq av H' q1
    exact ⟨av', H', ρ', v, w', fr, g2, q2, q3, q4, g1 _ _ q5, q6, q7⟩⟩

theorem run_less (h : Run P c k r H Q') (hq : ∀ av H', Q' av H' → ∃ av', Sees av av' ∧ Q av' H') : Run P c k r H Q := by
  intro B ρ w tmps D b cs k' hr hl
  obtain ⟨av, H', ρ', v, w', m', q1, q2, q3, q4, q5, q6⟩ := h B ρ w tmps D b cs k' hr hl
  obtain ⟨av', g1, g2⟩ := hq av H' q1
  exact ⟨av', H', ρ', v, w', m', g2, q2, q3, g1 _ _ q4, q5, q6⟩

/-- A function whose result has no names of its own. -/
theorem fun_pure {f : FuncId} {args : List AVal} (hcb : Callable P f) (h : ClosedH H → closeds H.length args → FunOK P f args H fun av H' => Keeps H H' ∧ closed H.length av ∧ Q av H) : FunOK P f args H Q :=
  fun_gh h (fun av H' hc _ ⟨hk, ha, hq⟩ => ⟨toF H.length [] [], H, by simpa using left_keeps hc hk [] [] (by simp) (by simp) (by simp), by
    rw [mv_id (L := H.length) (fun _ h => toF_low h) av ha]; exact hq⟩) hcb

/-- A function whose result is new, and never written to again. -/
theorem fun_ice {f : FuncId} {args : List AVal} (hcb : Callable P f) (h : ClosedH H → closeds H.length args → FunOK P f args H fun av H' => Keeps H H' ∧ ∃ is av',
      (∀ p ∈ is, ∃ cs0, content H'[p.1]? = some cs0 ∧ p.2 = mvs (toF H.length [] is) cs0 ∧ colds (toF H.length [] is) cs0) ∧ Sees (mv (toF H.length [] is) av) av' ∧ Q av' H) : FunOK P f args H Q :=
  fun_less (Q' := fun av H' => ∃ av', Sees av av' ∧ Q av' H') (fun_gh h (fun av H' hc _ ⟨hk, is, av', his, hs, hq⟩ => ⟨toF H.length [] is, H, by simpa using left_keeps hc hk [] is (by simp) his (by simp), av', hs, hq⟩) hcb) fun _ _ h => h

/-- A function whose result is a new list, that may be appended to. -/
theorem fun_new {f : FuncId} {args : List AVal} (hcb : Callable P f) (h : ClosedH H → closeds H.length args → FunOK P f args H fun av H' => Keeps H H' ∧ ∃ m b, H.length ≤ m ∧ H'[m]? = some b ∧
      Q (mv (toF H.length [m] []) av) (H ++ [mvBlk (toF H.length [m] []) b])) : FunOK P f args H Q :=
  fun_gh h (fun av H' hc _ ⟨hk, m, b, hm, hb, hq⟩ => ⟨toF H.length [m] [], _, left_keeps hc hk [m] [] (by simpa using hm) (by simp) (by simp), by
    simpa [List.getD_eq_getElem?_getD, hb] using hq⟩) hcb

end

/-! ### Lists that are being made -/

/-- A list of one owner: it may be appended to. -/
structure Own (w : Nat) (el : TypeId) (B : Nat) (H : AHeap) (a : AVal) (n : Nat) (cs : List AVal) : Prop where
  len : cs.length = n * w
  is : (a = .nils ∧ n = 0) ∨ ∃ m, B ≤ m ∧ a = .slc m 0 n w ∧ H[m]? = some (.vec cs el w)

theorem Own.nil {w : Nat} {el : TypeId} {B : Nat} {H : AHeap} : Own w el B H .nils 0 [] := ⟨by simp, .inl ⟨rfl, rfl⟩⟩

theorem Own.slen {w : Nat} {el : TypeId} {B : Nat} {H : AHeap} {a : AVal} {n : Nat} {cs : List AVal} (h : Own w el B H a n cs) : slen a = some n := by
  rcases h.is with ⟨rfl, rfl⟩ | ⟨m, _, rfl, _⟩ <;> rfl
theorem Own.view {w : Nat} {el : TypeId} {B : Nat} {H : AHeap} {a : AVal} {n : Nat} {cs : List AVal} (h : Own w el B H a n cs) : view H a = some cs := by
  have hl := h.len
  rcases h.is with ⟨rfl, rfl⟩ | ⟨m, _, rfl, hm⟩
  · have : cs = [] := List.length_eq_zero_iff.1 (by simpa using hl)
    subst this; rfl
  · simp [Am.view, hm, content, ← hl]
theorem Own.src {w : Nat} {el : TypeId} {B : Nat} {H : AHeap} {a : AVal} {n : Nat} {cs : List AVal} (h : Own w el B H a n cs) : srcLen a = some n ∧ srcCells H a = some cs := by
  have h1 := h.slen
  have h2 := h.view
  rcases h.is with ⟨rfl, rfl⟩ | ⟨m, _, rfl, _⟩ <;> exact ⟨h1, h2⟩
theorem Own.cell {w : Nat} {el : TypeId} {B : Nat} {H : AHeap} {a : AVal} {n : Nat} {cs : List AVal} (h : Own w el B H a n cs) : a.cells = [a] ∧ a.cellish = true := by
  rcases h.is with ⟨rfl, rfl⟩ | ⟨m, _, rfl, _⟩ <;> exact ⟨rfl, rfl⟩
theorem Own.moved {w : Nat} {el : TypeId} {B : Nat} {H H' : AHeap} {a : AVal} {n : Nat} {cs : List AVal} (h : Own w el B H a n cs) (hk : ∀ m ∈ a.names, H'[m]? = H[m]?) : Own w el B H' a n cs := by
  refine ⟨h.len, ?_⟩
  rcases h.is with ⟨rfl, rfl⟩ | ⟨m, hb, rfl, hm⟩
  · exact .inl ⟨rfl, rfl⟩
  · exact .inr ⟨m, hb, rfl, by rw [hk m (by simp [AVal.names])]; exact hm⟩
theorem Own.keep {w : Nat} {el : TypeId} {B : Nat} {H H' : AHeap} {a : AVal} {n : Nat} {cs : List AVal} (h : Own w el B H a n cs) (hk : Keeps H H') : Own w el B H' a n cs := by
  refine ⟨h.len, ?_⟩
  rcases h.is with ⟨rfl, rfl⟩ | ⟨m, hb, rfl, hm⟩
  · exact .inl ⟨rfl, rfl⟩
  · exact .inr ⟨m, hb, rfl, hk.get hm⟩
theorem Own.lt {w : Nat} {el : TypeId} {B : Nat} {H : AHeap} {a : AVal} {n : Nat} {cs : List AVal} (h : Own w el B H a n cs) : ∀ m ∈ a.names, B ≤ m ∧ m < H.length := by
  rcases h.is with ⟨rfl, rfl⟩ | ⟨m, hb, rfl, hm⟩
  · intro m hm; cases hm
  · intro k hk
    simp [AVal.names] at hk; subst hk
    exact ⟨hb, (List.getElem?_eq_some_iff.1 hm).1⟩

/-- Appending to it. -/
theorem Own.append {w : Nat} {el : TypeId} {H0 H : AHeap} {a x : AVal} {n k : Nat} {cs ys : List AVal} (h : Own w el H0.length H a n cs) (bytes : Nat) (hk : Keeps H0 H) (h1 : srcLen x = some k) (h2 : srcCells H x = some ys) (hy : ys.length = k * w) (hw : 0 < w)
    (hl : (n + k) * bytes ≤ 140737488355328) (hl2 : n + k ≤ 9223372036854775807) (hc : ys.all AVal.cellish = true) :
    ∃ v H' p, appendA H el w bytes a x = some (p, v, H') ∧ p ∧ Own w el H0.length H' v (n + k) (cs ++ ys) ∧ Keeps H0 H' := by
  have hcs := h.len
  rcases h.is with ⟨rfl, rfl⟩ | ⟨m, hm, rfl, hb⟩
  · have : cs = [] := List.length_eq_zero_iff.1 (by simpa using hcs)
    subst this
    rw [Nat.zero_add] at hl hl2
    refine ⟨_, _, _, by simp only [appendA, h1, h2]; rfl, ?_, ⟨by simpa using hy, .inr ⟨H.length, hk.le, by rw [Nat.zero_add], by simp⟩⟩, hk.push _⟩
    exact ⟨hy, hw, hl, hl2⟩
  · refine ⟨_, _, _, by simp only [appendA, h1, h2, hb]; rfl, ?_, ⟨by rw [List.length_append, hcs, hy, Nat.add_mul], .inr ⟨(H.set m .dead).length, by simp; exact hk.le, by simp, by simp⟩⟩, (hk.set hm _).push _⟩
    exact ⟨hy, hw, hl, hl2, trivial, trivial, trivial, trivial, hcs, hc⟩

/-- Appending to it; all other blocks stay. -/
theorem Own.append2 {w : Nat} {el : TypeId} {B : Nat} {H : AHeap} {a x : AVal} {n k : Nat} {cs ys : List AVal} (h : Own w el B H a n cs) (bytes : Nat) (hB : B ≤ H.length) (h1 : srcLen x = some k) (h2 : srcCells H x = some ys) (hy : ys.length = k * w) (hw : 0 < w)
    (hl : (n + k) * bytes ≤ 140737488355328) (hl2 : n + k ≤ 9223372036854775807) (hc : ys.all AVal.cellish = true) :
    ∃ v H' p, appendA H el w bytes a x = some (p, v, H') ∧ p ∧ Own w el B H' v (n + k) (cs ++ ys) ∧ Touches a.names H v.names H' ∧ (∀ m ∈ v.names, H.length ≤ m) := by
  have hcs := h.len
  rcases h.is with ⟨rfl, rfl⟩ | ⟨m, hm, rfl, hb⟩
  · have : cs = [] := List.length_eq_zero_iff.1 (by simpa using hcs)
    subst this
    rw [Nat.zero_add] at hl hl2
    refine ⟨_, _, _, by simp only [appendA, h1, h2]; rfl, ?_, ⟨by simpa using hy, .inr ⟨H.length, hB, by rw [Nat.zero_add], by simp⟩⟩, ?_, ?_⟩
    · exact ⟨hy, hw, hl, hl2⟩
    · exact ⟨by simp, fun m hm => by simp [AVal.names] at hm; exact .inr (by omega), fun m hm _ => List.getElem?_append_left hm⟩
    · intro m hm; simp [AVal.names] at hm; omega
  · refine ⟨_, _, _, by simp only [appendA, h1, h2, hb]; rfl, ?_, ⟨by rw [List.length_append, hcs, hy, Nat.add_mul], .inr ⟨(H.set m .dead).length, by simp; exact hB, by simp, by simp⟩⟩, ?_, ?_⟩
    · exact ⟨hy, hw, hl, hl2, trivial, trivial, trivial, trivial, hcs, hc⟩
    · refine ⟨by simp, fun m hm => by simp [AVal.names] at hm; exact .inr (by omega), fun m hm hf => ?_⟩
      rw [List.getElem?_append_left (by simpa using hm), List.getElem?_set_ne]
      simp [AVal.names] at hf; omega
    · intro m hm; simp [AVal.names] at hm; omega

section
variable {P : Program} {H : AHeap} {Q : AVal → AHeap → Prop}

/-- A new list is handed back, and never written to again. -/
theorem fun_own {f : FuncId} {args : List AVal} (hcb : Callable P f) (h : ClosedH H → closeds H.length args → FunOK P f args H fun av H' => Keeps H H' ∧ ∃ w el n cs, Own w el H.length H' av n cs ∧ closeds H.length cs ∧ Q (.imm cs n false) H) : FunOK P f args H Q := by
  refine fun_ice hcb fun hc ha => (h hc ha).mono ?_
  rintro av H' ⟨hk, w, el, n, cs, ho, hcl, hq⟩
  refine ⟨hk, ?_⟩
  have hl := ho.len
  rcases ho.is with ⟨rfl, rfl⟩ | ⟨m, hb, rfl, hm⟩
  · have : cs = [] := List.length_eq_zero_iff.1 (by simpa using hl)
    subst this
    exact ⟨[], _, by simp, Sees.nils false, hq⟩
  · refine ⟨[(m, cs)], .imm cs n false, ?_, ?_, hq⟩
    · intro p hp
      simp only [List.mem_singleton] at hp
      subst hp
      exact ⟨cs, by simp [hm, content], (mvs_id (L := H.length) (fun _ h => toF_low h) cs hcl).symm, colds_of (L := H.length) (fun _ h => toF_low h) cs hcl⟩
    · have : toF H.length [] [(m, cs)] m = .ice cs := by
        unfold toF; rw [if_neg (by omega)]; simp [findN, findI]
      simp only [mv, this, mvSlc, List.drop_zero, ← hl, List.take_length]
      exact Sees.refl _

theorem closeds_ints {L : Nat} (k : IntKind) (xs : List Nat) : closeds L (xs.map fun n : Nat => AVal.int k (n : Int)) := by
  induction xs with
  | nil => trivial
  | cons x xs ih => exact ⟨trivial, ih⟩
theorem closeds_append {L : Nat} : ∀ {as bs : List AVal}, closeds L as → closeds L bs → closeds L (as ++ bs)
  | [], _, _, h => h
  | a :: as, bs, h, h' => ⟨h.1, closeds_append h.2 h'⟩
theorem closeds_all {L : Nat} : ∀ {as : List AVal}, (∀ a ∈ as, closed L a) → closeds L as
  | [], _ => trivial
  | a :: as, h => ⟨h a (by simp), closeds_all fun x hx => h x (by simp [hx])⟩

end

/-- Blocks are iced ahead of what follows. -/
def iceF (m : Nat) (cs : List AVal) (n : Nat) : To := if n = m then .ice cs else .keep n

theorem ghost_ice {H : AHeap} {m : Nat} {cs : List AVal} (hc : content H[m]? = some cs) (hcl : colds (iceF m cs) cs) (hid : mvs (iceF m cs) cs = cs) {H2 : AHeap} (hl : H2.length = H.length) (hd : H2[m]? = some .dead)
    (hb : ∀ n c, n ≠ m → H[n]? = some c → ∃ c2, H2[n]? = some c2 ∧ Mv (iceF m cs) c c2) : Ghost (iceF m cs) H H2 where
  live n' ha := by
    have hne : n' ≠ m := by
      rintro rfl
      simp [alive, hd, ABlk.isLive] at ha
    have hlt := alive_lt ha
    obtain ⟨c2, h1, h2⟩ := hb n' _ hne (List.getElem?_eq_getElem (by omega : n' < H.length))
    exact ⟨n', _, c2, by simp [iceF, hne], List.getElem?_eq_getElem (by omega), h1, h2⟩
  ice n cs' h hn := by
    unfold iceF at h
    split at h
    · cases h; subst_vars; exact ⟨cs, hc, hid.symm, hcl⟩
    · cases h
  lt n n' hn h := by
    unfold iceF at h
    split at h
    · cases h
    · cases h; omega
  inj n k n' h1 h2 := by
    unfold iceF at h1 h2
    split at h1 <;> split at h2 <;> first | (cases h1; done) | (cases h2; done) | skip
    cases h1; cases h2; rfl

end Go.Am

namespace Go.Am
open Go
set_option linter.unusedVariables false

/-! ### Lists that are never written to -/

/-- Numbers. -/
def nums (k : IntKind) (t : Bool) (xs : List Nat) : AVal := .imm (xs.map fun n : Nat => AVal.int k (n : Int)) xs.length t
/-- Whole numbers. -/
def ints (t : Bool) (xs : List Int) : AVal := .imm (xs.map fun n : Int => AVal.int .i64 n) xs.length t
/-- Lists of things, each of several cells. -/
def recs {α : Type} (enc : α → List AVal) (t : Bool) (xs : List α) : AVal := .imm (xs.flatMap enc) xs.length t
/-- A variable that is never written to again. -/
def cell (a : AVal) : AVal := .sptr (.imm [a] 1 true) 0

section
variable {k : IntKind} {t : Bool} {xs : List Nat} {ys : List Int} {H : AHeap}

theorem nums_nats (k : IntKind) (t : Bool) (xs : List Nat) (H : AHeap) : Nats k H (nums k t xs) xs := ⟨by simp [nums, slen], by simp [nums, view], fun _ _ _ _ h => by cases h⟩

theorem slen_nums : slen (nums k t xs) = some xs.length := rfl
theorem slen_ints : slen (ints t ys) = some ys.length := rfl
theorem slen_recs {α : Type} {enc : α → List AVal} {zs : List α} : slen (recs enc t zs) = some zs.length := rfl
theorem view_nums : view H (nums k t xs) = some (xs.map fun n : Nat => AVal.int k (n : Int)) := rfl
theorem view_ints : view H (ints t ys) = some (ys.map fun n : Int => AVal.int .i64 n) := rfl
theorem view_recs {α : Type} {enc : α → List AVal} {zs : List α} : view H (recs enc t zs) = some (zs.flatMap enc) := rfl
theorem srcLen_nums : srcLen (nums k t xs) = some xs.length := rfl
theorem srcLen_ints : srcLen (ints t ys) = some ys.length := rfl
theorem srcLen_recs {α : Type} {enc : α → List AVal} {zs : List α} : srcLen (recs enc t zs) = some zs.length := rfl
theorem srcCells_nums : srcCells H (nums k t xs) = some (xs.map fun n : Nat => AVal.int k (n : Int)) := rfl
theorem srcCells_ints : srcCells H (ints t ys) = some (ys.map fun n : Int => AVal.int .i64 n) := rfl
theorem srcCells_recs {α : Type} {enc : α → List AVal} {zs : List α} : srcCells H (recs enc t zs) = some (zs.flatMap enc) := rfl
theorem cells_nums : (nums k t xs).cells = [nums k t xs] := rfl
theorem cells_ints : (ints t ys).cells = [ints t ys] := rfl
theorem cells_recs {α : Type} {enc : α → List AVal} {zs : List α} : (recs enc t zs).cells = [recs enc t zs] := rfl
theorem cells_cell {a : AVal} : (cell a).cells = [cell a] := rfl
theorem cellish_nums : (nums k t xs).cellish = true := rfl
theorem cellish_ints : (ints t ys).cellish = true := rfl
theorem cellish_recs {α : Type} {enc : α → List AVal} {zs : List α} : (recs enc t zs).cellish = true := rfl
theorem cellish_cell {a : AVal} : (cell a).cellish = true := rfl

theorem load_nums {j : Nat} (h : j < xs.length) : loadA H none (.sptr (nums k t xs) j) = some (True, .int k ((xs.getD j 0 : Nat) : Int)) := (nums_nats k t xs H).load h
theorem load_ints {j : Nat} (h : j < ys.length) : loadA H none (.sptr (ints t ys) j) = some (True, .int .i64 (ys.getD j 0)) := by
  simp only [loadA, cellsAt, view_ints, Option.map_some]
  congr 2
  · simp; omega
  · rw [List.headD_eq_head?_getD, List.head?_drop]
    simp [h]

theorem flatMap_drop {α : Type} {enc : α → List AVal} {w : Nat} (hw : ∀ z, (enc z).length = w) : ∀ (zs : List α) (j : Nat), (zs.flatMap enc).drop (j * w) = (zs.drop j).flatMap enc
  | zs, 0 => by simp
  | [], j + 1 => by simp
  | z :: zs, j + 1 => by
    rw [List.flatMap_cons, Nat.add_mul, Nat.one_mul, Nat.add_comm, List.drop_append, hw, List.drop_eq_nil_of_le (by rw [hw]; omega), List.nil_append, Nat.add_sub_cancel_left, flatMap_drop hw zs j]
    simp
theorem flatMap_take {α : Type} {enc : α → List AVal} {w : Nat} (hw : ∀ z, (enc z).length = w) : ∀ (zs : List α) (j : Nat), (zs.flatMap enc).take (j * w) = (zs.take j).flatMap enc
  | zs, 0 => by simp
  | [], j + 1 => by simp
  | z :: zs, j + 1 => by
    rw [List.flatMap_cons, Nat.add_mul, Nat.one_mul, Nat.add_comm, List.take_append, hw, List.take_of_length_le (by rw [hw]; omega), Nat.add_sub_cancel_left, flatMap_take hw zs j]
    simp
theorem flatMap_length {α : Type} {enc : α → List AVal} {w : Nat} (hw : ∀ z, (enc z).length = w) : ∀ (zs : List α), (zs.flatMap enc).length = zs.length * w
  | [] => by simp
  | z :: zs => by rw [List.flatMap_cons, List.length_append, flatMap_length hw zs, hw, List.length_cons, Nat.add_mul]; omega

/-- One thing, whole. -/
theorem load_recs {α : Type} [Inhabited α] {enc : α → List AVal} {w : Nat} (hw : ∀ z, (enc z).length = w) {zs : List α} {j : Nat} (h : j < zs.length) : loadA H (some w) (.sptr (recs enc t zs) (j * w)) = some (True, .agg (enc (zs.getD j default))) := by
  simp only [loadA, cellsAt, view_recs, Option.map_some, flatMap_drop hw]
  have hd := List.drop_eq_getElem_cons h
  rw [hd, List.flatMap_cons]
  congr 2
  · simp [hw]
  · rw [List.take_append, hw, List.take_of_length_le (by rw [hw]; omega), Nat.sub_self, List.take_zero, List.append_nil]
    simp [List.getD_eq_getElem?_getD, h]

/-- A cell of one thing. -/
theorem load_rec1 {α : Type} [Inhabited α] {enc : α → List AVal} {w : Nat} (hw : ∀ z, (enc z).length = w) {zs : List α} {j o : Nat} (h : j < zs.length) (ho : o < w) : loadA H none (.sptr (recs enc t zs) (j * w + o)) = some (True, (enc (zs.getD j default)).getD o .junk) := by
  simp only [loadA, cellsAt, view_recs, Option.map_some, ← List.drop_drop, flatMap_drop hw]
  have hd := List.drop_eq_getElem_cons h
  rw [hd, List.flatMap_cons, List.drop_append, hw]
  have e : o - w = 0 := by omega
  rw [e, List.drop_zero]
  have hl : o < (enc zs[j]).length := by rw [hw]; exact ho
  congr 2
  · simp [hw]; omega
  · rw [List.headD_eq_head?_getD, List.head?_append, List.head?_drop]
    simp [List.getD_eq_getElem?_getD, h, hl]

/-- Several cells of one thing. -/
theorem load_recN {α : Type} [Inhabited α] {enc : α → List AVal} {w : Nat} (hw : ∀ z, (enc z).length = w) {zs : List α} {j o n : Nat} (h : j < zs.length) (ho : o + n ≤ w) : loadA H (some n) (.sptr (recs enc t zs) (j * w + o)) = some (True, .agg (((enc (zs.getD j default)).drop o).take n)) := by
  simp only [loadA, cellsAt, view_recs, Option.map_some, ← List.drop_drop, flatMap_drop hw]
  have hd := List.drop_eq_getElem_cons h
  rw [hd, List.flatMap_cons, List.drop_append, hw]
  have e : o - w = 0 := by omega
  rw [e, List.drop_zero]
  congr 2
  · simp [hw]; omega
  · rw [List.take_append]
    have : n - ((enc zs[j]).drop o).length = 0 := by rw [List.length_drop, hw]; omega
    rw [this, List.take_zero, List.append_nil]
    simp [List.getD_eq_getElem?_getD, h]

theorem load_cellV {a : AVal} : loadA H none (cell a) = some (True, a) := by
  simp [cell, loadA, cellsAt, view]

theorem slice_nums {lo hi mx : Option Int} {l r : Nat} (hl : lo.getD 0 = l) (hr : hi.getD xs.length = r) (hm : ((r : Nat) : Int) ≤ mx.getD xs.length) (hm2 : mx.getD xs.length ≤ xs.length) (hle : l ≤ r) :
    sliceA 1 (nums k t xs) lo hi mx = some (True, nums k ((t && mx.isNone && decide (r = xs.length)) || (mx.isSome && decide (r = (mx.getD xs.length).toNat))) ((xs.drop l).take (r - l))) := by
  simp only [sliceA, nums, bounds, hl, hr, Int.toNat_natCast, Nat.mul_one, List.length_map]
  congr 2
  · simp; omega
  · congr 1
    · simp [List.map_take, List.map_drop]
    · simp; omega

theorem slice_ints {lo hi mx : Option Int} {l r : Nat} (hl : lo.getD 0 = l) (hr : hi.getD ys.length = r) (hm : ((r : Nat) : Int) ≤ mx.getD ys.length) (hm2 : mx.getD ys.length ≤ ys.length) (hle : l ≤ r) :
    sliceA 1 (ints t ys) lo hi mx = some (True, ints ((t && mx.isNone && decide (r = ys.length)) || (mx.isSome && decide (r = (mx.getD ys.length).toNat))) ((ys.drop l).take (r - l))) := by
  simp only [sliceA, ints, bounds, hl, hr, Int.toNat_natCast, Nat.mul_one, List.length_map]
  congr 2
  · simp; omega
  · congr 1
    · simp [List.map_take, List.map_drop]
    · simp; omega

theorem slice_recs {α : Type} {enc : α → List AVal} {w : Nat} (hw : ∀ z, (enc z).length = w) {zs : List α} {lo hi mx : Option Int} {l r : Nat} (hl : lo.getD 0 = l) (hr : hi.getD zs.length = r) (hm : ((r : Nat) : Int) ≤ mx.getD zs.length) (hm2 : mx.getD zs.length ≤ zs.length) (hle : l ≤ r) :
    sliceA w (recs enc t zs) lo hi mx = some (True, recs enc ((t && mx.isNone && decide (r = zs.length)) || (mx.isSome && decide (r = (mx.getD zs.length).toNat))) ((zs.drop l).take (r - l))) := by
  simp only [sliceA, recs, bounds, hl, hr, Int.toNat_natCast, flatMap_length hw, flatMap_drop hw, flatMap_take hw]
  congr 2
  · simp; omega
  · congr 1
    simp; omega

end

theorem closed_nums {L : Nat} (k : IntKind) (t : Bool) (xs : List Nat) : closed L (nums k t xs) := closeds_ints k xs
theorem closed_ints {L : Nat} (t : Bool) (xs : List Int) : closed L (ints t xs) := closeds_all fun a ha => by
  obtain ⟨n, _, rfl⟩ := List.mem_map.1 ha; trivial
theorem closed_recs {L : Nat} {α : Type} {enc : α → List AVal} (t : Bool) (xs : List α) (h : ∀ x ∈ xs, closeds L (enc x)) : closed L (recs enc t xs) := by
  simp only [recs, closed]
  induction xs with
  | nil => trivial
  | cons x xs ih => exact closeds_append (h x (by simp)) (ih fun y hy => h y (by simp [hy]))

section
variable {k : IntKind} {t : Bool} {xs : List Nat} {ys : List Int}

theorem slice_nums_from {l : Int} (h : 0 ≤ l) (h' : l ≤ xs.length) : sliceA 1 (nums k t xs) (some l) none none = some (True, nums k t (xs.drop l.toNat)) := by
  rw [slice_nums (l := l.toNat) (r := xs.length) (by simp; omega) rfl (by simp) (by simp) (by omega), List.take_of_length_le (by simp)]
  simp
theorem slice_nums_to {r : Int} (h : 0 ≤ r) (h' : r ≤ xs.length) : sliceA 1 (nums k t xs) none (some r) none = some (True, nums k (t && decide (r.toNat = xs.length)) (xs.take r.toNat)) := by
  rw [slice_nums (l := 0) (r := r.toNat) (by simp) (by simp; omega) (by simp; omega) (by simp) (by omega)]
  simp
theorem slice_nums_both {l r : Int} (h : 0 ≤ l) (hlr : l ≤ r) (h' : r ≤ xs.length) : sliceA 1 (nums k t xs) (some l) (some r) none = some (True, nums k (t && decide (r.toNat = xs.length)) ((xs.drop l.toNat).take (r.toNat - l.toNat))) := by
  rw [slice_nums (l := l.toNat) (r := r.toNat) (by simp; omega) (by simp; omega) (by simp; omega) (by simp) (by omega)]
  simp
theorem slice_nums_cap {r : Int} (h : 0 ≤ r) (h' : r ≤ xs.length) : sliceA 1 (nums k t xs) none (some r) (some r) = some (True, nums k true (xs.take r.toNat)) := by
  rw [slice_nums (l := 0) (r := r.toNat) (by simp) (by simp; omega) (by simp; omega) (by simp; omega) (by omega)]
  simp
theorem slice_nums_cap2 {l r : Int} (h : 0 ≤ l) (hlr : l ≤ r) (h' : r ≤ xs.length) : sliceA 1 (nums k t xs) (some l) (some r) (some r) = some (True, nums k true ((xs.drop l.toNat).take (r.toNat - l.toNat))) := by
  rw [slice_nums (l := l.toNat) (r := r.toNat) (by simp; omega) (by simp; omega) (by simp; omega) (by simp; omega) (by omega)]
  simp
theorem slice_nums_all : sliceA 1 (nums k t xs) none none none = some (True, nums k t xs) := by
  rw [slice_nums (l := 0) (r := xs.length) (by simp) (by simp) (by simp) (by simp) (by omega), List.take_of_length_le (by simp)]
  simp
theorem slice_ints_from {l : Int} (h : 0 ≤ l) (h' : l ≤ ys.length) : sliceA 1 (ints t ys) (some l) none none = some (True, ints t (ys.drop l.toNat)) := by
  rw [slice_ints (l := l.toNat) (r := ys.length) (by simp; omega) rfl (by simp) (by simp) (by omega), List.take_of_length_le (by simp)]
  simp
theorem slice_ints_to {r : Int} (h : 0 ≤ r) (h' : r ≤ ys.length) : sliceA 1 (ints t ys) none (some r) none = some (True, ints (t && decide (r.toNat = ys.length)) (ys.take r.toNat)) := by
  rw [slice_ints (l := 0) (r := r.toNat) (by simp) (by simp; omega) (by simp; omega) (by simp) (by omega)]
  simp
theorem slice_ints_both {l r : Int} (h : 0 ≤ l) (hlr : l ≤ r) (h' : r ≤ ys.length) : sliceA 1 (ints t ys) (some l) (some r) none = some (True, ints (t && decide (r.toNat = ys.length)) ((ys.drop l.toNat).take (r.toNat - l.toNat))) := by
  rw [slice_ints (l := l.toNat) (r := r.toNat) (by simp; omega) (by simp; omega) (by simp; omega) (by simp) (by omega)]
  simp
theorem slice_recs_from {α : Type} {enc : α → List AVal} {w : Nat} (hw : ∀ z, (enc z).length = w) {zs : List α} {l : Int} (h : 0 ≤ l) (h' : l ≤ zs.length) : sliceA w (recs enc t zs) (some l) none none = some (True, recs enc t (zs.drop l.toNat)) := by
  rw [slice_recs hw (l := l.toNat) (r := zs.length) (by simp; omega) rfl (by simp) (by simp) (by omega), List.take_of_length_le (by simp)]
  simp
theorem slice_recs_to {α : Type} {enc : α → List AVal} {w : Nat} (hw : ∀ z, (enc z).length = w) {zs : List α} {r : Int} (h : 0 ≤ r) (h' : r ≤ zs.length) : sliceA w (recs enc t zs) none (some r) none = some (True, recs enc (t && decide (r.toNat = zs.length)) (zs.take r.toNat)) := by
  rw [slice_recs hw (l := 0) (r := r.toNat) (by simp) (by simp; omega) (by simp; omega) (by simp) (by omega)]
  simp
theorem slice_recs_both {α : Type} {enc : α → List AVal} {w : Nat} (hw : ∀ z, (enc z).length = w) {zs : List α} {l r : Int} (h : 0 ≤ l) (hlr : l ≤ r) (h' : r ≤ zs.length) : sliceA w (recs enc t zs) (some l) (some r) none = some (True, recs enc (t && decide (r.toNat = zs.length)) ((zs.drop l.toNat).take (r.toNat - l.toNat))) := by
  rw [slice_recs hw (l := l.toNat) (r := r.toNat) (by simp; omega) (by simp; omega) (by simp; omega) (by simp) (by omega)]
  simp

end

/-! ### Heaps, written out -/

theorem at_0 {H0 L : AHeap} : (H0 ++ L)[H0.length]? = L[0]? := by rw [List.getElem?_append_right (Nat.le_refl _), Nat.sub_self]
theorem at_k {H0 L : AHeap} {k : Nat} : (H0 ++ L)[H0.length + k]? = L[k]? := by rw [List.getElem?_append_right (Nat.le_add_right _ _), Nat.add_sub_cancel_left]
theorem set_0 {H0 L : AHeap} {b : ABlk} : (H0 ++ L).set H0.length b = H0 ++ L.set 0 b := by rw [List.set_append_right _ _ (Nat.le_refl _), Nat.sub_self]
theorem set_k {H0 L : AHeap} {k : Nat} {b : ABlk} : (H0 ++ L).set (H0.length + k) b = H0 ++ L.set k b := by rw [List.set_append_right _ _ (Nat.le_add_right _ _), Nat.add_sub_cancel_left]
theorem at_low {H0 L : AHeap} {n : Nat} (h : n < H0.length) : (H0 ++ L)[n]? = H0[n]? := List.getElem?_append_left h
theorem set_low {H0 L : AHeap} {n : Nat} {b : ABlk} (h : n < H0.length) : (H0 ++ L).set n b = H0.set n b ++ L := List.set_append_left _ _ h

theorem callable_of {P : Program} {f : FuncId} {a : AFun} (hf : okFun P f a = true) : Callable P f := by
  unfold okFun at hf
  cases hp : P.funcs[f]? with
  | none => simp [hp] at hf
  | some fn =>
    simp only [hp] at hf
    cases hb : fn.body with
    | none => simp [hb] at hf
    | some cd =>
      simp only [hb, Bool.and_eq_true, Bool.not_eq_true', beq_iff_eq, decide_eq_true_eq] at hf
      exact ⟨fn, cd, hp, hb, hf.1.1.1.2⟩

theorem run_V0 {P : Program} {c : Ctx} {Q : AVal → AHeap → Prop} (n : Nat) {k : List AItem} {r : Regs} {H : AHeap} (h : V P c Q [] n (.todo k r H)) : Run P c k r H Q := by
  have := run_V n h
  rwa [List.append_nil] at this

theorem keeps_append (H L : AHeap) : Keeps H (H ++ L) := ⟨by simp, fun n hn => List.getElem?_append_left hn⟩

/-! ### Functions that hand back functions -/

/-- What a function's end is asked, if its result is iced. -/
def IceQ (H : AHeap) (Q : AVal → AHeap → Prop) (av : AVal) (H' : AHeap) : Prop := Keeps H H' ∧ ∃ is av',
  (∀ p ∈ is, ∃ cs0, content H'[p.1]? = some cs0 ∧ p.2 = mvs (toF H.length [] is) cs0 ∧ colds (toF H.length [] is) cs0) ∧ Sees (mv (toF H.length [] is) av) av' ∧ Q av' H

theorem ice_none {H L : AHeap} {Q : AVal → AHeap → Prop} {av : AVal} (ha : closed H.length av) (hq : Q av H) : IceQ H Q av (H ++ L) :=
  ⟨keeps_append _ _, [], _, by simp, Sees.refl _, by rw [mv_id (L := H.length) (fun _ h => toF_low h) av ha]; exact hq⟩

theorem ice_keeps {H H' : AHeap} {Q : AVal → AHeap → Prop} {av : AVal} (hk : Keeps H H') (ha : closed H.length av) (hq : Q av H) : IceQ H Q av H' :=
  ⟨hk, [], _, by simp, Sees.refl _, by rw [mv_id (L := H.length) (fun _ h => toF_low h) av ha]; exact hq⟩

theorem ice_clo1 {H L : AHeap} {Q : AVal → AHeap → Prop} {g : FuncId} {a : AVal} {T : TypeId} (ha : closed H.length a) (hq : Q (.fn g [] [cell a]) H) : IceQ H Q (.fn g [] [.ptr H.length 0]) (H ++ .cells [a] T :: L) := by
  refine ⟨keeps_append _ _, [(H.length, [a])], .fn g [] [cell a], ?_, ?_, hq⟩
  · intro p hp
    simp only [List.mem_singleton] at hp
    subst hp
    have hc : closeds H.length [a] := ⟨ha, trivial⟩
    exact ⟨[a], by simp [content], (mvs_id (L := H.length) (fun _ h => toF_low h) _ hc).symm, colds_of (L := H.length) (fun _ h => toF_low h) _ hc⟩
  · have : toF H.length [] [(H.length, [a])] H.length = .ice [a] := by simp [toF, findN, findI]
    simp only [mv, mvs, this, mvPtr]
    exact Sees.refl _

theorem ice_clo2 {H L : AHeap} {Q : AVal → AHeap → Prop} {g : FuncId} {a b : AVal} {T T' : TypeId} (ha : closed H.length a) (hb : closed H.length b) (hq : Q (.fn g [] [cell a, cell b]) H) : IceQ H Q (.fn g [] [.ptr H.length 0, .ptr (H.length + 1) 0]) (H ++ .cells [a] T :: .cells [b] T' :: L) := by
  refine ⟨keeps_append _ _, [(H.length, [a]), (H.length + 1, [b])], .fn g [] [cell a, cell b], ?_, ?_, hq⟩
  · intro p hp
    simp only [List.mem_cons, List.not_mem_nil, or_false] at hp
    rcases hp with rfl | rfl
    · have hc : closeds H.length [a] := ⟨ha, trivial⟩
      exact ⟨[a], by simp [content], (mvs_id (L := H.length) (fun _ h => toF_low h) _ hc).symm, colds_of (L := H.length) (fun _ h => toF_low h) _ hc⟩
    · have hc : closeds H.length [b] := ⟨hb, trivial⟩
      exact ⟨[b], by simp [content], (mvs_id (L := H.length) (fun _ h => toF_low h) _ hc).symm, colds_of (L := H.length) (fun _ h => toF_low h) _ hc⟩
  · have h1 : toF H.length [] [(H.length, [a]), (H.length + 1, [b])] H.length = .ice [a] := by simp [toF, findN, findI]
    have h2 : toF H.length [] [(H.length, [a]), (H.length + 1, [b])] (H.length + 1) = .ice [b] := by simp [toF, findN, findI]
    simp only [mv, mvs, h1, h2, mvPtr]
    exact Sees.refl _

theorem ice_own {H H' : AHeap} {Q : AVal → AHeap → Prop} {a : AVal} {w n : Nat} {el : TypeId} {cs : List AVal} (hk : Keeps H H') (ho : Own w el H.length H' a n cs) (hc : closeds H.length cs) (hq : Q (.imm cs n false) H) : IceQ H Q a H' := by
  refine ⟨hk, ?_⟩
  have hl := ho.len
  rcases ho.is with ⟨rfl, rfl⟩ | ⟨m, hb, rfl, hm⟩
  · have : cs = [] := List.length_eq_zero_iff.1 (by simpa using hl)
    subst this
    exact ⟨[], _, by simp, Sees.nils false, hq⟩
  · refine ⟨[(m, cs)], .imm cs n false, ?_, ?_, hq⟩
    · intro p hp
      simp only [List.mem_singleton] at hp
      subst hp
      exact ⟨cs, by simp [hm, content], (mvs_id (L := H.length) (fun _ h => toF_low h) cs hc).symm, colds_of (L := H.length) (fun _ h => toF_low h) cs hc⟩
    · have : toF H.length [] [(m, cs)] m = .ice cs := by
        unfold toF; rw [if_neg (by omega)]; simp [findN, findI]
      simp only [mv, this, mvSlc, List.drop_zero, ← hl, List.take_length]
      exact Sees.refl _

/-- What becomes of a value behind a function's end. -/
def Fin (H H' : AHeap) (a a' : AVal) : Prop := (closed H.length a ∧ a' = a) ∨ ∃ w n el cs, Own w el H.length H' a n cs ∧ closeds H.length cs ∧ a' = .imm cs n false

theorem Fin.same {H H' : AHeap} {a : AVal} (h : closed H.length a) : Fin H H' a a := .inl ⟨h, rfl⟩
theorem Fin.own {H H' : AHeap} {a : AVal} {w n : Nat} {el : TypeId} {cs : List AVal} (h : Own w el H.length H' a n cs) (hc : closeds H.length cs) : Fin H H' a (.imm cs n false) := .inr ⟨w, n, el, cs, h, hc, rfl⟩

def icesOf (L : Nat) : List (AVal × AVal) → List (Nat × List AVal)
  | [] => []
  | (.slc m _ _ _, .imm cs _ _) :: l => if m < L then icesOf L l else (m, cs) :: icesOf L l
  | _ :: l => icesOf L l

theorem icesOf_mem {L : Nat} : ∀ {l : List (AVal × AVal)} {m : Nat} {cs : List AVal}, (m, cs) ∈ icesOf L l → L ≤ m ∧ ∃ o n z k t, (AVal.slc m o n z, AVal.imm cs k t) ∈ l
  | [], m, cs, h => by simp [icesOf] at h
  | (a, b) :: l, m, cs, h => by
    have key : (m, cs) ∈ icesOf L l → L ≤ m ∧ ∃ o n z k t, (AVal.slc m o n z, AVal.imm cs k t) ∈ (a, b) :: l := fun h => by
      obtain ⟨h1, o, n, z, k, t, h2⟩ := icesOf_mem h
      exact ⟨h1, o, n, z, k, t, List.mem_cons_of_mem _ h2⟩
    unfold icesOf at h
    split at h
    · cases ‹_ :: _ = []›
    · rename_i heq
      cases heq
      split at h
      · exact key h
      · rcases List.mem_cons.1 h with h | h
        · cases h; exact ⟨by omega, _, _, _, _, _, List.mem_cons_self⟩
        · exact key h
    · rename_i heq
      cases heq
      exact key h

theorem icesOf_has {L : Nat} : ∀ {l : List (AVal × AVal)} {m o n z k : Nat} {cs : List AVal} {t : Bool}, (AVal.slc m o n z, AVal.imm cs k t) ∈ l → L ≤ m → ∃ cs', findI m (icesOf L l) = some cs'
  | [], m, o, n, z, k, cs, t, h, hm => by cases h
  | (a, b) :: l, m, o, n, z, k, cs, t, h, hm => by
    have key : (AVal.slc m o n z, AVal.imm cs k t) ∈ l → ∃ cs', findI m (icesOf L ((a, b) :: l)) = some cs' := fun h => by
      obtain ⟨cs', h1⟩ := icesOf_has h hm
      unfold icesOf
      split
      · cases ‹_ :: _ = []›
      · rename_i heq
        cases heq
        split
        · exact ⟨cs', h1⟩
        · simp only [findI]
          split
          · exact ⟨_, rfl⟩
          · exact ⟨cs', h1⟩
      · rename_i heq
        cases heq
        exact ⟨cs', h1⟩
    rcases List.mem_cons.1 h with h | h
    · cases h
      simp only [icesOf]
      rw [if_neg (by omega)]
      exact ⟨cs, by simp [findI]⟩
    · exact key h

theorem icesOf_fin {H H' : AHeap} {l : List (AVal × AVal)} (hf : ∀ p ∈ l, Fin H H' p.1 p.2) {m : Nat} {cs : List AVal} (h : (m, cs) ∈ icesOf H.length l) : H.length ≤ m ∧ content H'[m]? = some cs ∧ closeds H.length cs := by
  obtain ⟨h1, o, n, z, k, t, h2⟩ := icesOf_mem h
  refine ⟨h1, ?_⟩
  rcases hf _ h2 with ⟨h3, h4⟩ | ⟨w, n', el, cs', h3, h4, h5⟩
  · have : m < H.length := h3
    omega
  · cases h5
    rcases h3.is with ⟨h6, _⟩ | ⟨m', _, h6, h7⟩
    · cases h6
    · cases h6
      exact ⟨by simp [h7, content], h4⟩

theorem ice_fin1 {H H' : AHeap} {l : List (AVal × AVal)} (hf : ∀ p ∈ l, Fin H H' p.1 p.2) {a a' : AVal} (h : (a, a') ∈ l) : Sees (mv (toF H.length [] (icesOf H.length l)) a) a' := by
  rcases hf _ h with ⟨h3, h4⟩ | ⟨w, n', el, cs', h3, h4, h5⟩
  · simp only at h3 h4
    subst h4
    rw [mv_id (L := H.length) (fun _ h => toF_low h) _ h3]
    exact Sees.refl _
  · simp only at h3 h5
    subst h5
    have hl := h3.len
    rcases h3.is with ⟨rfl, rfl⟩ | ⟨m', hm, rfl, h7⟩
    · have : cs' = [] := List.length_eq_zero_iff.1 (by simpa using hl)
      subst this
      exact Sees.nils false
    · obtain ⟨cs2, h8⟩ := icesOf_has h hm
      have h9 := icesOf_fin hf (findI_some h8)
      have : cs2 = cs' := by
        have := h9.2.1
        simp [h7, content] at this
        exact this.symm
      subst this
      have : toF H.length [] (icesOf H.length l) m' = .ice cs2 := by
        unfold toF; rw [if_neg (by omega)]; simp [findN, h8]
      simp only [mv, this, mvSlc, List.drop_zero, ← hl, List.take_length]
      exact Sees.refl _

theorem ice_many {H H' : AHeap} {l : List (AVal × AVal)} (hf : ∀ p ∈ l, Fin H H' p.1 p.2) : ∀ p ∈ icesOf H.length l, ∃ cs0, content H'[p.1]? = some cs0 ∧ p.2 = mvs (toF H.length [] (icesOf H.length l)) cs0 ∧ colds (toF H.length [] (icesOf H.length l)) cs0 := by
  rintro ⟨m, cs⟩ hp
  obtain ⟨h1, h2, h3⟩ := icesOf_fin hf hp
  exact ⟨cs, h2, (mvs_id (L := H.length) (fun _ h => toF_low h) cs h3).symm, colds_of (L := H.length) (fun _ h => toF_low h) cs h3⟩

theorem ice_tup {H H' : AHeap} {Q : AVal → AHeap → Prop} (l : List (AVal × AVal)) (hk : Keeps H H') (hf : ∀ p ∈ l, Fin H H' p.1 p.2) (hq : Q (.tup (l.map (·.2))) H) : IceQ H Q (.tup (l.map (·.1))) H' := by
  refine ⟨hk, icesOf H.length l, .tup (l.map (·.2)), ice_many hf, ?_, hq⟩
  simp only [mv, mvs_map, List.map_map]
  refine Sees.tup ⟨by simp, fun i h1 h2 => ?_⟩
  simp only [List.getElem_map, Function.comp]
  exact ice_fin1 hf (List.getElem_mem (by simpa using h1))

theorem fun_iced {P : Program} {f : FuncId} {fn : AFun} {args : List AVal} {H : AHeap} {Q : AVal → AHeap → Prop} (hf : okFun P f fn = true) (h : closeds H.length args → FunOK P f args H (IceQ H Q)) : FunOK P f args H Q :=
  fun_ice (callable_of hf) fun _ ha => h ha

end Go.Am

namespace Go.Am
open Go
set_option linter.unusedVariables false

/-! ### Equations of the evaluator, one a form -/

theorem goK_mov (P : Program) (c : Ctx) (Q : AVal → AHeap → Prop) (T : List AItem) (K : Mode → Prop) (dst : Option Nat) (g : Option (Nat × Bool)) (os : List AOper) (live : List Nat) (k : List AItem) (r : Regs) (H : AHeap) (x0 : AOpd) : GoK P c Q T K (some true) ⟨dst, (.mov x0), g⟩ os live k r H = ResK K (evalOp (geto r) H (.mov x0)) dst os live k r := rfl
theorem dgoK_mov (P : Program) (c : Ctx) (Q : AVal → AHeap → Prop) (T : List AItem) (K : Mode → Prop) (d : DS) (dst : Option Nat) (g : Option (Nat × Bool)) (i : Nat) (is : List Nat) (log : Log) (r : Regs) (H : AHeap) (x0 : AOpd) : DGoK P c Q T K d (some true) ⟨dst, (.mov x0), g⟩ i is log r H = DResK K d (evalOp (geto r) H (.mov x0)) (.mov x0) dst i is log r := rfl
theorem isEff_mov (x0 : AOpd) : isEff (.mov x0) = false := rfl
theorem isPure_mov (x0 : AOpd) : isPure (.mov x0) = true := rfl
theorem goK_pick (P : Program) (c : Ctx) (Q : AVal → AHeap → Prop) (T : List AItem) (K : Mode → Prop) (dst : Option Nat) (g : Option (Nat × Bool)) (os : List AOper) (live : List Nat) (k : List AItem) (r : Regs) (H : AHeap) (x0 : AOpd) (x1 : AOpd) (x2 : AOpd) : GoK P c Q T K (some true) ⟨dst, (.pick x0 x1 x2), g⟩ os live k r H = ResK K (evalOp (geto r) H (.pick x0 x1 x2)) dst os live k r := rfl
theorem dgoK_pick (P : Program) (c : Ctx) (Q : AVal → AHeap → Prop) (T : List AItem) (K : Mode → Prop) (d : DS) (dst : Option Nat) (g : Option (Nat × Bool)) (i : Nat) (is : List Nat) (log : Log) (r : Regs) (H : AHeap) (x0 : AOpd) (x1 : AOpd) (x2 : AOpd) : DGoK P c Q T K d (some true) ⟨dst, (.pick x0 x1 x2), g⟩ i is log r H = DResK K d (evalOp (geto r) H (.pick x0 x1 x2)) (.pick x0 x1 x2) dst i is log r := rfl
theorem isEff_pick (x0 : AOpd) (x1 : AOpd) (x2 : AOpd) : isEff (.pick x0 x1 x2) = false := rfl
theorem isPure_pick (x0 : AOpd) (x1 : AOpd) (x2 : AOpd) : isPure (.pick x0 x1 x2) = true := rfl
theorem goK_alloc (P : Program) (c : Ctx) (Q : AVal → AHeap → Prop) (T : List AItem) (K : Mode → Prop) (dst : Option Nat) (g : Option (Nat × Bool)) (os : List AOper) (live : List Nat) (k : List AItem) (r : Regs) (H : AHeap) (x0 : TypeId) (x1 : List AVal) : GoK P c Q T K (some true) ⟨dst, (.alloc x0 x1), g⟩ os live k r H = ResK K (evalOp (geto r) H (.alloc x0 x1)) dst os live k r := rfl
theorem dgoK_alloc (P : Program) (c : Ctx) (Q : AVal → AHeap → Prop) (T : List AItem) (K : Mode → Prop) (d : DS) (dst : Option Nat) (g : Option (Nat × Bool)) (i : Nat) (is : List Nat) (log : Log) (r : Regs) (H : AHeap) (x0 : TypeId) (x1 : List AVal) : DGoK P c Q T K d (some true) ⟨dst, (.alloc x0 x1), g⟩ i is log r H = DResK K d (evalOp (geto r) H (.alloc x0 x1)) (.alloc x0 x1) dst i is log r := rfl
theorem isEff_alloc (x0 : TypeId) (x1 : List AVal) : isEff (.alloc x0 x1) = true := rfl
theorem isPure_alloc (x0 : TypeId) (x1 : List AVal) : isPure (.alloc x0 x1) = false := rfl
theorem goK_box (P : Program) (c : Ctx) (Q : AVal → AHeap → Prop) (T : List AItem) (K : Mode → Prop) (dst : Option Nat) (g : Option (Nat × Bool)) (os : List AOper) (live : List Nat) (k : List AItem) (r : Regs) (H : AHeap) (x0 : TypeId) (x1 : AOpd) : GoK P c Q T K (some true) ⟨dst, (.box x0 x1), g⟩ os live k r H = ResK K (evalOp (geto r) H (.box x0 x1)) dst os live k r := rfl
theorem dgoK_box (P : Program) (c : Ctx) (Q : AVal → AHeap → Prop) (T : List AItem) (K : Mode → Prop) (d : DS) (dst : Option Nat) (g : Option (Nat × Bool)) (i : Nat) (is : List Nat) (log : Log) (r : Regs) (H : AHeap) (x0 : TypeId) (x1 : AOpd) : DGoK P c Q T K d (some true) ⟨dst, (.box x0 x1), g⟩ i is log r H = DResK K d (evalOp (geto r) H (.box x0 x1)) (.box x0 x1) dst i is log r := rfl
theorem isEff_box (x0 : TypeId) (x1 : AOpd) : isEff (.box x0 x1) = true := rfl
theorem isPure_box (x0 : TypeId) (x1 : AOpd) : isPure (.box x0 x1) = false := rfl
theorem goK_build (P : Program) (c : Ctx) (Q : AVal → AHeap → Prop) (T : List AItem) (K : Mode → Prop) (dst : Option Nat) (g : Option (Nat × Bool)) (os : List AOper) (live : List Nat) (k : List AItem) (r : Regs) (H : AHeap) (x0 : List AVal) (x1 : List (Nat × Nat × AOpd)) : GoK P c Q T K (some true) ⟨dst, (.build x0 x1), g⟩ os live k r H = ResK K (evalOp (geto r) H (.build x0 x1)) dst os live k r := rfl
theorem dgoK_build (P : Program) (c : Ctx) (Q : AVal → AHeap → Prop) (T : List AItem) (K : Mode → Prop) (d : DS) (dst : Option Nat) (g : Option (Nat × Bool)) (i : Nat) (is : List Nat) (log : Log) (r : Regs) (H : AHeap) (x0 : List AVal) (x1 : List (Nat × Nat × AOpd)) : DGoK P c Q T K d (some true) ⟨dst, (.build x0 x1), g⟩ i is log r H = DResK K d (evalOp (geto r) H (.build x0 x1)) (.build x0 x1) dst i is log r := rfl
theorem isEff_build (x0 : List AVal) (x1 : List (Nat × Nat × AOpd)) : isEff (.build x0 x1) = false := rfl
theorem isPure_build (x0 : List AVal) (x1 : List (Nat × Nat × AOpd)) : isPure (.build x0 x1) = true := rfl
theorem goK_lit (P : Program) (c : Ctx) (Q : AVal → AHeap → Prop) (T : List AItem) (K : Mode → Prop) (dst : Option Nat) (g : Option (Nat × Bool)) (os : List AOper) (live : List Nat) (k : List AItem) (r : Regs) (H : AHeap) (x0 : TypeId) (x1 : Nat) (x2 : Nat) (x3 : List AVal) (x4 : List (Nat × Nat × AOpd)) : GoK P c Q T K (some true) ⟨dst, (.lit x0 x1 x2 x3 x4), g⟩ os live k r H = ResK K (evalOp (geto r) H (.lit x0 x1 x2 x3 x4)) dst os live k r := rfl
theorem dgoK_lit (P : Program) (c : Ctx) (Q : AVal → AHeap → Prop) (T : List AItem) (K : Mode → Prop) (d : DS) (dst : Option Nat) (g : Option (Nat × Bool)) (i : Nat) (is : List Nat) (log : Log) (r : Regs) (H : AHeap) (x0 : TypeId) (x1 : Nat) (x2 : Nat) (x3 : List AVal) (x4 : List (Nat × Nat × AOpd)) : DGoK P c Q T K d (some true) ⟨dst, (.lit x0 x1 x2 x3 x4), g⟩ i is log r H = DResK K d (evalOp (geto r) H (.lit x0 x1 x2 x3 x4)) (.lit x0 x1 x2 x3 x4) dst i is log r := rfl
theorem isEff_lit (x0 : TypeId) (x1 : Nat) (x2 : Nat) (x3 : List AVal) (x4 : List (Nat × Nat × AOpd)) : isEff (.lit x0 x1 x2 x3 x4) = true := rfl
theorem isPure_lit (x0 : TypeId) (x1 : Nat) (x2 : Nat) (x3 : List AVal) (x4 : List (Nat × Nat × AOpd)) : isPure (.lit x0 x1 x2 x3 x4) = false := rfl
theorem goK_load (P : Program) (c : Ctx) (Q : AVal → AHeap → Prop) (T : List AItem) (K : Mode → Prop) (dst : Option Nat) (g : Option (Nat × Bool)) (os : List AOper) (live : List Nat) (k : List AItem) (r : Regs) (H : AHeap) (x0 : Option Nat) (x1 : AOpd) : GoK P c Q T K (some true) ⟨dst, (.load x0 x1), g⟩ os live k r H = ResK K (evalOp (geto r) H (.load x0 x1)) dst os live k r := rfl
theorem dgoK_load (P : Program) (c : Ctx) (Q : AVal → AHeap → Prop) (T : List AItem) (K : Mode → Prop) (d : DS) (dst : Option Nat) (g : Option (Nat × Bool)) (i : Nat) (is : List Nat) (log : Log) (r : Regs) (H : AHeap) (x0 : Option Nat) (x1 : AOpd) : DGoK P c Q T K d (some true) ⟨dst, (.load x0 x1), g⟩ i is log r H = DResK K d (evalOp (geto r) H (.load x0 x1)) (.load x0 x1) dst i is log r := rfl
theorem isEff_load (x0 : Option Nat) (x1 : AOpd) : isEff (.load x0 x1) = false := rfl
theorem isPure_load (x0 : Option Nat) (x1 : AOpd) : isPure (.load x0 x1) = false := rfl
theorem goK_store (P : Program) (c : Ctx) (Q : AVal → AHeap → Prop) (T : List AItem) (K : Mode → Prop) (dst : Option Nat) (g : Option (Nat × Bool)) (os : List AOper) (live : List Nat) (k : List AItem) (r : Regs) (H : AHeap) (x0 : Nat) (x1 : AOpd) (x2 : AOpd) : GoK P c Q T K (some true) ⟨dst, (.store x0 x1 x2), g⟩ os live k r H = ResK K (evalOp (geto r) H (.store x0 x1 x2)) dst os live k r := rfl
theorem dgoK_store (P : Program) (c : Ctx) (Q : AVal → AHeap → Prop) (T : List AItem) (K : Mode → Prop) (d : DS) (dst : Option Nat) (g : Option (Nat × Bool)) (i : Nat) (is : List Nat) (log : Log) (r : Regs) (H : AHeap) (x0 : Nat) (x1 : AOpd) (x2 : AOpd) : DGoK P c Q T K d (some true) ⟨dst, (.store x0 x1 x2), g⟩ i is log r H = DResK K d (evalOp (geto r) H (.store x0 x1 x2)) (.store x0 x1 x2) dst i is log r := rfl
theorem isEff_store (x0 : Nat) (x1 : AOpd) (x2 : AOpd) : isEff (.store x0 x1 x2) = true := rfl
theorem isPure_store (x0 : Nat) (x1 : AOpd) (x2 : AOpd) : isPure (.store x0 x1 x2) = false := rfl
theorem goK_bin (P : Program) (c : Ctx) (Q : AVal → AHeap → Prop) (T : List AItem) (K : Mode → Prop) (dst : Option Nat) (g : Option (Nat × Bool)) (os : List AOper) (live : List Nat) (k : List AItem) (r : Regs) (H : AHeap) (x0 : BinOp) (x1 : AOpd) (x2 : AOpd) : GoK P c Q T K (some true) ⟨dst, (.bin x0 x1 x2), g⟩ os live k r H = ResK K (evalOp (geto r) H (.bin x0 x1 x2)) dst os live k r := rfl
theorem dgoK_bin (P : Program) (c : Ctx) (Q : AVal → AHeap → Prop) (T : List AItem) (K : Mode → Prop) (d : DS) (dst : Option Nat) (g : Option (Nat × Bool)) (i : Nat) (is : List Nat) (log : Log) (r : Regs) (H : AHeap) (x0 : BinOp) (x1 : AOpd) (x2 : AOpd) : DGoK P c Q T K d (some true) ⟨dst, (.bin x0 x1 x2), g⟩ i is log r H = DResK K d (evalOp (geto r) H (.bin x0 x1 x2)) (.bin x0 x1 x2) dst i is log r := rfl
theorem isEff_bin (x0 : BinOp) (x1 : AOpd) (x2 : AOpd) : isEff (.bin x0 x1 x2) = false := rfl
theorem isPure_bin (x0 : BinOp) (x1 : AOpd) (x2 : AOpd) : isPure (.bin x0 x1 x2) = true := rfl
theorem goK_eq (P : Program) (c : Ctx) (Q : AVal → AHeap → Prop) (T : List AItem) (K : Mode → Prop) (dst : Option Nat) (g : Option (Nat × Bool)) (os : List AOper) (live : List Nat) (k : List AItem) (r : Regs) (H : AHeap) (x0 : Bool) (x1 : EKind) (x2 : AOpd) (x3 : AOpd) : GoK P c Q T K (some true) ⟨dst, (.eq x0 x1 x2 x3), g⟩ os live k r H = ResK K (evalOp (geto r) H (.eq x0 x1 x2 x3)) dst os live k r := rfl
theorem dgoK_eq (P : Program) (c : Ctx) (Q : AVal → AHeap → Prop) (T : List AItem) (K : Mode → Prop) (d : DS) (dst : Option Nat) (g : Option (Nat × Bool)) (i : Nat) (is : List Nat) (log : Log) (r : Regs) (H : AHeap) (x0 : Bool) (x1 : EKind) (x2 : AOpd) (x3 : AOpd) : DGoK P c Q T K d (some true) ⟨dst, (.eq x0 x1 x2 x3), g⟩ i is log r H = DResK K d (evalOp (geto r) H (.eq x0 x1 x2 x3)) (.eq x0 x1 x2 x3) dst i is log r := rfl
theorem isEff_eq (x0 : Bool) (x1 : EKind) (x2 : AOpd) (x3 : AOpd) : isEff (.eq x0 x1 x2 x3) = false := rfl
theorem isPure_eq (x0 : Bool) (x1 : EKind) (x2 : AOpd) (x3 : AOpd) : isPure (.eq x0 x1 x2 x3) = true := rfl
theorem goK_un (P : Program) (c : Ctx) (Q : AVal → AHeap → Prop) (T : List AItem) (K : Mode → Prop) (dst : Option Nat) (g : Option (Nat × Bool)) (os : List AOper) (live : List Nat) (k : List AItem) (r : Regs) (H : AHeap) (x0 : UnOp) (x1 : AOpd) : GoK P c Q T K (some true) ⟨dst, (.un x0 x1), g⟩ os live k r H = ResK K (evalOp (geto r) H (.un x0 x1)) dst os live k r := rfl
theorem dgoK_un (P : Program) (c : Ctx) (Q : AVal → AHeap → Prop) (T : List AItem) (K : Mode → Prop) (d : DS) (dst : Option Nat) (g : Option (Nat × Bool)) (i : Nat) (is : List Nat) (log : Log) (r : Regs) (H : AHeap) (x0 : UnOp) (x1 : AOpd) : DGoK P c Q T K d (some true) ⟨dst, (.un x0 x1), g⟩ i is log r H = DResK K d (evalOp (geto r) H (.un x0 x1)) (.un x0 x1) dst i is log r := rfl
theorem isEff_un (x0 : UnOp) (x1 : AOpd) : isEff (.un x0 x1) = false := rfl
theorem isPure_un (x0 : UnOp) (x1 : AOpd) : isPure (.un x0 x1) = true := rfl
theorem goK_conv (P : Program) (c : Ctx) (Q : AVal → AHeap → Prop) (T : List AItem) (K : Mode → Prop) (dst : Option Nat) (g : Option (Nat × Bool)) (os : List AOper) (live : List Nat) (k : List AItem) (r : Regs) (H : AHeap) (x0 : IntKind) (x1 : AOpd) : GoK P c Q T K (some true) ⟨dst, (.conv x0 x1), g⟩ os live k r H = ResK K (evalOp (geto r) H (.conv x0 x1)) dst os live k r := rfl
theorem dgoK_conv (P : Program) (c : Ctx) (Q : AVal → AHeap → Prop) (T : List AItem) (K : Mode → Prop) (d : DS) (dst : Option Nat) (g : Option (Nat × Bool)) (i : Nat) (is : List Nat) (log : Log) (r : Regs) (H : AHeap) (x0 : IntKind) (x1 : AOpd) : DGoK P c Q T K d (some true) ⟨dst, (.conv x0 x1), g⟩ i is log r H = DResK K d (evalOp (geto r) H (.conv x0 x1)) (.conv x0 x1) dst i is log r := rfl
theorem isEff_conv (x0 : IntKind) (x1 : AOpd) : isEff (.conv x0 x1) = false := rfl
theorem isPure_conv (x0 : IntKind) (x1 : AOpd) : isPure (.conv x0 x1) = true := rfl
theorem goK_nilc (P : Program) (c : Ctx) (Q : AVal → AHeap → Prop) (T : List AItem) (K : Mode → Prop) (dst : Option Nat) (g : Option (Nat × Bool)) (os : List AOper) (live : List Nat) (k : List AItem) (r : Regs) (H : AHeap) (x0 : AOpd) : GoK P c Q T K (some true) ⟨dst, (.nilc x0), g⟩ os live k r H = ResK K (evalOp (geto r) H (.nilc x0)) dst os live k r := rfl
theorem dgoK_nilc (P : Program) (c : Ctx) (Q : AVal → AHeap → Prop) (T : List AItem) (K : Mode → Prop) (d : DS) (dst : Option Nat) (g : Option (Nat × Bool)) (i : Nat) (is : List Nat) (log : Log) (r : Regs) (H : AHeap) (x0 : AOpd) : DGoK P c Q T K d (some true) ⟨dst, (.nilc x0), g⟩ i is log r H = DResK K d (evalOp (geto r) H (.nilc x0)) (.nilc x0) dst i is log r := rfl
theorem isEff_nilc (x0 : AOpd) : isEff (.nilc x0) = false := rfl
theorem isPure_nilc (x0 : AOpd) : isPure (.nilc x0) = true := rfl
theorem goK_field (P : Program) (c : Ctx) (Q : AVal → AHeap → Prop) (T : List AItem) (K : Mode → Prop) (dst : Option Nat) (g : Option (Nat × Bool)) (os : List AOper) (live : List Nat) (k : List AItem) (r : Regs) (H : AHeap) (x0 : Nat) (x1 : AOpd) : GoK P c Q T K (some true) ⟨dst, (.field x0 x1), g⟩ os live k r H = ResK K (evalOp (geto r) H (.field x0 x1)) dst os live k r := rfl
theorem dgoK_field (P : Program) (c : Ctx) (Q : AVal → AHeap → Prop) (T : List AItem) (K : Mode → Prop) (d : DS) (dst : Option Nat) (g : Option (Nat × Bool)) (i : Nat) (is : List Nat) (log : Log) (r : Regs) (H : AHeap) (x0 : Nat) (x1 : AOpd) : DGoK P c Q T K d (some true) ⟨dst, (.field x0 x1), g⟩ i is log r H = DResK K d (evalOp (geto r) H (.field x0 x1)) (.field x0 x1) dst i is log r := rfl
theorem isEff_field (x0 : Nat) (x1 : AOpd) : isEff (.field x0 x1) = false := rfl
theorem isPure_field (x0 : Nat) (x1 : AOpd) : isPure (.field x0 x1) = true := rfl
theorem goK_idx (P : Program) (c : Ctx) (Q : AVal → AHeap → Prop) (T : List AItem) (K : Mode → Prop) (dst : Option Nat) (g : Option (Nat × Bool)) (os : List AOper) (live : List Nat) (k : List AItem) (r : Regs) (H : AHeap) (x0 : Nat) (x1 : Option Nat) (x2 : AOpd) (x3 : AOpd) : GoK P c Q T K (some true) ⟨dst, (.idx x0 x1 x2 x3), g⟩ os live k r H = ResK K (evalOp (geto r) H (.idx x0 x1 x2 x3)) dst os live k r := rfl
theorem dgoK_idx (P : Program) (c : Ctx) (Q : AVal → AHeap → Prop) (T : List AItem) (K : Mode → Prop) (d : DS) (dst : Option Nat) (g : Option (Nat × Bool)) (i : Nat) (is : List Nat) (log : Log) (r : Regs) (H : AHeap) (x0 : Nat) (x1 : Option Nat) (x2 : AOpd) (x3 : AOpd) : DGoK P c Q T K d (some true) ⟨dst, (.idx x0 x1 x2 x3), g⟩ i is log r H = DResK K d (evalOp (geto r) H (.idx x0 x1 x2 x3)) (.idx x0 x1 x2 x3) dst i is log r := rfl
theorem isEff_idx (x0 : Nat) (x1 : Option Nat) (x2 : AOpd) (x3 : AOpd) : isEff (.idx x0 x1 x2 x3) = false := rfl
theorem goK_sidx (P : Program) (c : Ctx) (Q : AVal → AHeap → Prop) (T : List AItem) (K : Mode → Prop) (dst : Option Nat) (g : Option (Nat × Bool)) (os : List AOper) (live : List Nat) (k : List AItem) (r : Regs) (H : AHeap) (x0 : AOpd) (x1 : AOpd) : GoK P c Q T K (some true) ⟨dst, (.sidx x0 x1), g⟩ os live k r H = ResK K (evalOp (geto r) H (.sidx x0 x1)) dst os live k r := rfl
theorem dgoK_sidx (P : Program) (c : Ctx) (Q : AVal → AHeap → Prop) (T : List AItem) (K : Mode → Prop) (d : DS) (dst : Option Nat) (g : Option (Nat × Bool)) (i : Nat) (is : List Nat) (log : Log) (r : Regs) (H : AHeap) (x0 : AOpd) (x1 : AOpd) : DGoK P c Q T K d (some true) ⟨dst, (.sidx x0 x1), g⟩ i is log r H = DResK K d (evalOp (geto r) H (.sidx x0 x1)) (.sidx x0 x1) dst i is log r := rfl
theorem isEff_sidx (x0 : AOpd) (x1 : AOpd) : isEff (.sidx x0 x1) = false := rfl
theorem isPure_sidx (x0 : AOpd) (x1 : AOpd) : isPure (.sidx x0 x1) = true := rfl
theorem goK_slice (P : Program) (c : Ctx) (Q : AVal → AHeap → Prop) (T : List AItem) (K : Mode → Prop) (dst : Option Nat) (g : Option (Nat × Bool)) (os : List AOper) (live : List Nat) (k : List AItem) (r : Regs) (H : AHeap) (x0 : Nat) (x1 : SKind) (x2 : AOpd) (x3 : Option AOpd) (x4 : Option AOpd) (x5 : Option AOpd) : GoK P c Q T K (some true) ⟨dst, (.slice x0 x1 x2 x3 x4 x5), g⟩ os live k r H = ResK K (evalOp (geto r) H (.slice x0 x1 x2 x3 x4 x5)) dst os live k r := rfl
theorem dgoK_slice (P : Program) (c : Ctx) (Q : AVal → AHeap → Prop) (T : List AItem) (K : Mode → Prop) (d : DS) (dst : Option Nat) (g : Option (Nat × Bool)) (i : Nat) (is : List Nat) (log : Log) (r : Regs) (H : AHeap) (x0 : Nat) (x1 : SKind) (x2 : AOpd) (x3 : Option AOpd) (x4 : Option AOpd) (x5 : Option AOpd) : DGoK P c Q T K d (some true) ⟨dst, (.slice x0 x1 x2 x3 x4 x5), g⟩ i is log r H = DResK K d (evalOp (geto r) H (.slice x0 x1 x2 x3 x4 x5)) (.slice x0 x1 x2 x3 x4 x5) dst i is log r := rfl
theorem isEff_slice (x0 : Nat) (x1 : SKind) (x2 : AOpd) (x3 : Option AOpd) (x4 : Option AOpd) (x5 : Option AOpd) : isEff (.slice x0 x1 x2 x3 x4 x5) = false := rfl
theorem goK_toArr (P : Program) (c : Ctx) (Q : AVal → AHeap → Prop) (T : List AItem) (K : Mode → Prop) (dst : Option Nat) (g : Option (Nat × Bool)) (os : List AOper) (live : List Nat) (k : List AItem) (r : Regs) (H : AHeap) (x0 : Nat) (x1 : AOpd) : GoK P c Q T K (some true) ⟨dst, (.toArr x0 x1), g⟩ os live k r H = ResK K (evalOp (geto r) H (.toArr x0 x1)) dst os live k r := rfl
theorem dgoK_toArr (P : Program) (c : Ctx) (Q : AVal → AHeap → Prop) (T : List AItem) (K : Mode → Prop) (d : DS) (dst : Option Nat) (g : Option (Nat × Bool)) (i : Nat) (is : List Nat) (log : Log) (r : Regs) (H : AHeap) (x0 : Nat) (x1 : AOpd) : DGoK P c Q T K d (some true) ⟨dst, (.toArr x0 x1), g⟩ i is log r H = DResK K d (evalOp (geto r) H (.toArr x0 x1)) (.toArr x0 x1) dst i is log r := rfl
theorem isEff_toArr (x0 : Nat) (x1 : AOpd) : isEff (.toArr x0 x1) = false := rfl
theorem isPure_toArr (x0 : Nat) (x1 : AOpd) : isPure (.toArr x0 x1) = false := rfl
theorem goK_len (P : Program) (c : Ctx) (Q : AVal → AHeap → Prop) (T : List AItem) (K : Mode → Prop) (dst : Option Nat) (g : Option (Nat × Bool)) (os : List AOper) (live : List Nat) (k : List AItem) (r : Regs) (H : AHeap) (x0 : LKind) (x1 : AOpd) : GoK P c Q T K (some true) ⟨dst, (.len x0 x1), g⟩ os live k r H = ResK K (evalOp (geto r) H (.len x0 x1)) dst os live k r := rfl
theorem dgoK_len (P : Program) (c : Ctx) (Q : AVal → AHeap → Prop) (T : List AItem) (K : Mode → Prop) (d : DS) (dst : Option Nat) (g : Option (Nat × Bool)) (i : Nat) (is : List Nat) (log : Log) (r : Regs) (H : AHeap) (x0 : LKind) (x1 : AOpd) : DGoK P c Q T K d (some true) ⟨dst, (.len x0 x1), g⟩ i is log r H = DResK K d (evalOp (geto r) H (.len x0 x1)) (.len x0 x1) dst i is log r := rfl
theorem isEff_len (x0 : LKind) (x1 : AOpd) : isEff (.len x0 x1) = false := rfl
theorem goK_maxmin (P : Program) (c : Ctx) (Q : AVal → AHeap → Prop) (T : List AItem) (K : Mode → Prop) (dst : Option Nat) (g : Option (Nat × Bool)) (os : List AOper) (live : List Nat) (k : List AItem) (r : Regs) (H : AHeap) (x0 : Bool) (x1 : AOpd) (x2 : AOpd) : GoK P c Q T K (some true) ⟨dst, (.maxmin x0 x1 x2), g⟩ os live k r H = ResK K (evalOp (geto r) H (.maxmin x0 x1 x2)) dst os live k r := rfl
theorem dgoK_maxmin (P : Program) (c : Ctx) (Q : AVal → AHeap → Prop) (T : List AItem) (K : Mode → Prop) (d : DS) (dst : Option Nat) (g : Option (Nat × Bool)) (i : Nat) (is : List Nat) (log : Log) (r : Regs) (H : AHeap) (x0 : Bool) (x1 : AOpd) (x2 : AOpd) : DGoK P c Q T K d (some true) ⟨dst, (.maxmin x0 x1 x2), g⟩ i is log r H = DResK K d (evalOp (geto r) H (.maxmin x0 x1 x2)) (.maxmin x0 x1 x2) dst i is log r := rfl
theorem isEff_maxmin (x0 : Bool) (x1 : AOpd) (x2 : AOpd) : isEff (.maxmin x0 x1 x2) = false := rfl
theorem isPure_maxmin (x0 : Bool) (x1 : AOpd) (x2 : AOpd) : isPure (.maxmin x0 x1 x2) = true := rfl
theorem goK_extract (P : Program) (c : Ctx) (Q : AVal → AHeap → Prop) (T : List AItem) (K : Mode → Prop) (dst : Option Nat) (g : Option (Nat × Bool)) (os : List AOper) (live : List Nat) (k : List AItem) (r : Regs) (H : AHeap) (x0 : AOpd) (x1 : Nat) : GoK P c Q T K (some true) ⟨dst, (.extract x0 x1), g⟩ os live k r H = ResK K (evalOp (geto r) H (.extract x0 x1)) dst os live k r := rfl
theorem dgoK_extract (P : Program) (c : Ctx) (Q : AVal → AHeap → Prop) (T : List AItem) (K : Mode → Prop) (d : DS) (dst : Option Nat) (g : Option (Nat × Bool)) (i : Nat) (is : List Nat) (log : Log) (r : Regs) (H : AHeap) (x0 : AOpd) (x1 : Nat) : DGoK P c Q T K d (some true) ⟨dst, (.extract x0 x1), g⟩ i is log r H = DResK K d (evalOp (geto r) H (.extract x0 x1)) (.extract x0 x1) dst i is log r := rfl
theorem isEff_extract (x0 : AOpd) (x1 : Nat) : isEff (.extract x0 x1) = false := rfl
theorem isPure_extract (x0 : AOpd) (x1 : Nat) : isPure (.extract x0 x1) = true := rfl
theorem goK_mkfn (P : Program) (c : Ctx) (Q : AVal → AHeap → Prop) (T : List AItem) (K : Mode → Prop) (dst : Option Nat) (g : Option (Nat × Bool)) (os : List AOper) (live : List Nat) (k : List AItem) (r : Regs) (H : AHeap) (x0 : FuncId) (x1 : List AOpd) (x2 : List AOpd) : GoK P c Q T K (some true) ⟨dst, (.mkfn x0 x1 x2), g⟩ os live k r H = ResK K (evalOp (geto r) H (.mkfn x0 x1 x2)) dst os live k r := rfl
theorem dgoK_mkfn (P : Program) (c : Ctx) (Q : AVal → AHeap → Prop) (T : List AItem) (K : Mode → Prop) (d : DS) (dst : Option Nat) (g : Option (Nat × Bool)) (i : Nat) (is : List Nat) (log : Log) (r : Regs) (H : AHeap) (x0 : FuncId) (x1 : List AOpd) (x2 : List AOpd) : DGoK P c Q T K d (some true) ⟨dst, (.mkfn x0 x1 x2), g⟩ i is log r H = DResK K d (evalOp (geto r) H (.mkfn x0 x1 x2)) (.mkfn x0 x1 x2) dst i is log r := rfl
theorem isEff_mkfn (x0 : FuncId) (x1 : List AOpd) (x2 : List AOpd) : isEff (.mkfn x0 x1 x2) = false := rfl
theorem isPure_mkfn (x0 : FuncId) (x1 : List AOpd) (x2 : List AOpd) : isPure (.mkfn x0 x1 x2) = true := rfl
theorem goK_append (P : Program) (c : Ctx) (Q : AVal → AHeap → Prop) (T : List AItem) (K : Mode → Prop) (dst : Option Nat) (g : Option (Nat × Bool)) (os : List AOper) (live : List Nat) (k : List AItem) (r : Regs) (H : AHeap) (x0 : Nat) (x1 : Nat) (x2 : Nat) (x3 : AOpd) (x4 : AOpd) : GoK P c Q T K (some true) ⟨dst, (.append x0 x1 x2 x3 x4), g⟩ os live k r H = ResK K (evalOp (geto r) H (.append x0 x1 x2 x3 x4)) dst os live k r := rfl
theorem dgoK_append (P : Program) (c : Ctx) (Q : AVal → AHeap → Prop) (T : List AItem) (K : Mode → Prop) (d : DS) (dst : Option Nat) (g : Option (Nat × Bool)) (i : Nat) (is : List Nat) (log : Log) (r : Regs) (H : AHeap) (x0 : Nat) (x1 : Nat) (x2 : Nat) (x3 : AOpd) (x4 : AOpd) : DGoK P c Q T K d (some true) ⟨dst, (.append x0 x1 x2 x3 x4), g⟩ i is log r H = DResK K d (evalOp (geto r) H (.append x0 x1 x2 x3 x4)) (.append x0 x1 x2 x3 x4) dst i is log r := rfl
theorem isEff_append (x0 : Nat) (x1 : Nat) (x2 : Nat) (x3 : AOpd) (x4 : AOpd) : isEff (.append x0 x1 x2 x3 x4) = true := rfl
theorem isPure_append (x0 : Nat) (x1 : Nat) (x2 : Nat) (x3 : AOpd) (x4 : AOpd) : isPure (.append x0 x1 x2 x3 x4) = false := rfl
theorem goK_mkmap (P : Program) (c : Ctx) (Q : AVal → AHeap → Prop) (T : List AItem) (K : Mode → Prop) (dst : Option Nat) (g : Option (Nat × Bool)) (os : List AOper) (live : List Nat) (k : List AItem) (r : Regs) (H : AHeap)  : GoK P c Q T K (some true) ⟨dst, (.mkmap), g⟩ os live k r H = ResK K (evalOp (geto r) H (.mkmap)) dst os live k r := rfl
theorem dgoK_mkmap (P : Program) (c : Ctx) (Q : AVal → AHeap → Prop) (T : List AItem) (K : Mode → Prop) (d : DS) (dst : Option Nat) (g : Option (Nat × Bool)) (i : Nat) (is : List Nat) (log : Log) (r : Regs) (H : AHeap)  : DGoK P c Q T K d (some true) ⟨dst, (.mkmap), g⟩ i is log r H = DResK K d (evalOp (geto r) H (.mkmap)) (.mkmap) dst i is log r := rfl
theorem isEff_mkmap  : isEff (.mkmap) = true := rfl
theorem isPure_mkmap  : isPure (.mkmap) = false := rfl
theorem goK_mkslice (P : Program) (c : Ctx) (Q : AVal → AHeap → Prop) (T : List AItem) (K : Mode → Prop) (dst : Option Nat) (g : Option (Nat × Bool)) (os : List AOper) (live : List Nat) (k : List AItem) (r : Regs) (H : AHeap) (x0 : Nat) (x1 : Nat) (x2 : Nat) (x3 : List AVal) (x4 : AOpd) (x5 : AOpd) : GoK P c Q T K (some true) ⟨dst, (.mkslice x0 x1 x2 x3 x4 x5), g⟩ os live k r H = ResK K (evalOp (geto r) H (.mkslice x0 x1 x2 x3 x4 x5)) dst os live k r := rfl
theorem dgoK_mkslice (P : Program) (c : Ctx) (Q : AVal → AHeap → Prop) (T : List AItem) (K : Mode → Prop) (d : DS) (dst : Option Nat) (g : Option (Nat × Bool)) (i : Nat) (is : List Nat) (log : Log) (r : Regs) (H : AHeap) (x0 : Nat) (x1 : Nat) (x2 : Nat) (x3 : List AVal) (x4 : AOpd) (x5 : AOpd) : DGoK P c Q T K d (some true) ⟨dst, (.mkslice x0 x1 x2 x3 x4 x5), g⟩ i is log r H = DResK K d (evalOp (geto r) H (.mkslice x0 x1 x2 x3 x4 x5)) (.mkslice x0 x1 x2 x3 x4 x5) dst i is log r := rfl
theorem isEff_mkslice (x0 : Nat) (x1 : Nat) (x2 : Nat) (x3 : List AVal) (x4 : AOpd) (x5 : AOpd) : isEff (.mkslice x0 x1 x2 x3 x4 x5) = true := rfl
theorem isPure_mkslice (x0 : Nat) (x1 : Nat) (x2 : Nat) (x3 : List AVal) (x4 : AOpd) (x5 : AOpd) : isPure (.mkslice x0 x1 x2 x3 x4 x5) = false := rfl
theorem goK_lookup (P : Program) (c : Ctx) (Q : AVal → AHeap → Prop) (T : List AItem) (K : Mode → Prop) (dst : Option Nat) (g : Option (Nat × Bool)) (os : List AOper) (live : List Nat) (k : List AItem) (r : Regs) (H : AHeap) (x0 : Leaf) (x1 : AVal) (x2 : Bool) (x3 : AOpd) (x4 : AOpd) : GoK P c Q T K (some true) ⟨dst, (.lookup x0 x1 x2 x3 x4), g⟩ os live k r H = ResK K (evalOp (geto r) H (.lookup x0 x1 x2 x3 x4)) dst os live k r := rfl
theorem dgoK_lookup (P : Program) (c : Ctx) (Q : AVal → AHeap → Prop) (T : List AItem) (K : Mode → Prop) (d : DS) (dst : Option Nat) (g : Option (Nat × Bool)) (i : Nat) (is : List Nat) (log : Log) (r : Regs) (H : AHeap) (x0 : Leaf) (x1 : AVal) (x2 : Bool) (x3 : AOpd) (x4 : AOpd) : DGoK P c Q T K d (some true) ⟨dst, (.lookup x0 x1 x2 x3 x4), g⟩ i is log r H = DResK K d (evalOp (geto r) H (.lookup x0 x1 x2 x3 x4)) (.lookup x0 x1 x2 x3 x4) dst i is log r := rfl
theorem isEff_lookup (x0 : Leaf) (x1 : AVal) (x2 : Bool) (x3 : AOpd) (x4 : AOpd) : isEff (.lookup x0 x1 x2 x3 x4) = false := rfl
theorem isPure_lookup (x0 : Leaf) (x1 : AVal) (x2 : Bool) (x3 : AOpd) (x4 : AOpd) : isPure (.lookup x0 x1 x2 x3 x4) = false := rfl
theorem goK_mapset (P : Program) (c : Ctx) (Q : AVal → AHeap → Prop) (T : List AItem) (K : Mode → Prop) (dst : Option Nat) (g : Option (Nat × Bool)) (os : List AOper) (live : List Nat) (k : List AItem) (r : Regs) (H : AHeap) (x0 : Leaf) (x1 : AOpd) (x2 : AOpd) (x3 : AOpd) : GoK P c Q T K (some true) ⟨dst, (.mapset x0 x1 x2 x3), g⟩ os live k r H = ResK K (evalOp (geto r) H (.mapset x0 x1 x2 x3)) dst os live k r := rfl
theorem dgoK_mapset (P : Program) (c : Ctx) (Q : AVal → AHeap → Prop) (T : List AItem) (K : Mode → Prop) (d : DS) (dst : Option Nat) (g : Option (Nat × Bool)) (i : Nat) (is : List Nat) (log : Log) (r : Regs) (H : AHeap) (x0 : Leaf) (x1 : AOpd) (x2 : AOpd) (x3 : AOpd) : DGoK P c Q T K d (some true) ⟨dst, (.mapset x0 x1 x2 x3), g⟩ i is log r H = DResK K d (evalOp (geto r) H (.mapset x0 x1 x2 x3)) (.mapset x0 x1 x2 x3) dst i is log r := rfl
theorem isEff_mapset (x0 : Leaf) (x1 : AOpd) (x2 : AOpd) (x3 : AOpd) : isEff (.mapset x0 x1 x2 x3) = true := rfl
theorem isPure_mapset (x0 : Leaf) (x1 : AOpd) (x2 : AOpd) (x3 : AOpd) : isPure (.mapset x0 x1 x2 x3) = false := rfl
theorem isEff_call (x0 : AOpd) (x1 : List AOpd) : isEff (.call x0 x1) = true := rfl
theorem isPure_call (x0 : AOpd) (x1 : List AOpd) : isPure (.call x0 x1) = false := rfl
theorem isPure_lenS (x : AOpd) : isPure (.len .slice x) = true := rfl
theorem isPure_lenT (x : AOpd) : isPure (.len .str x) = true := rfl
theorem isPure_lenM (x : AOpd) : isPure (.len .map x) = false := rfl
theorem isPure_sliceS (n : Nat) (x : AOpd) (a b c : Option AOpd) : isPure (.slice n .slice x a b c) = true := rfl
theorem isPure_sliceT (n : Nat) (x : AOpd) (a b c : Option AOpd) : isPure (.slice n .string x a b c) = true := rfl
theorem isPure_sliceA (n m : Nat) (x : AOpd) (a b c : Option AOpd) : isPure (.slice n (.array m) x a b c) = false := rfl
theorem isPure_idxS (n : Nat) (x i : AOpd) : isPure (.idx n none x i) = false := rfl
theorem isPure_idxA (n m : Nat) (x i : AOpd) : isPure (.idx n (some m) x i) = true := rfl
theorem exit_code (id : Nat) (k : List AItem) (c : ACode) : aexitTo id (.code c :: k) = aexitTo id k := rfl
theorem exit_loop (id : Nat) (k : List AItem) (c : ACode) : aexitTo id (.inLoop c :: k) = aexitTo id k := rfl
theorem exit_scope (id : Nat) (k : List AItem) : aexitTo id (.inScope :: k) = aexitTo id k := rfl
theorem exit_begin (id : Nat) (k : List AItem) : aexitTo id (.begin :: k) = aexitTo id k := rfl
theorem exit_block (id j : Nat) (k : List AItem) : aexitTo id (.inBlock j :: k) = if j = id then some k else aexitTo id k := rfl
theorem exit_nil (id : Nat) : aexitTo id [] = none := rfl
theorem pack_nil : pack [] = .tup [] := rfl
theorem pack_one (v : AVal) : pack [v] = v := rfl
theorem pack_two (v u : AVal) (vs : List AVal) : pack (v :: u :: vs) = .tup (v :: u :: vs) := rfl
theorem loadV_vec (agg : Option Nat) (o z : Nat) (cs : List AVal) (el : TypeId) : loadV agg o (some (.vec cs el z)) = loadB agg o (some (.cells cs 0)) := rfl
theorem loadV_cells (agg : Option Nat) (o : Nat) (cs : List AVal) (el : TypeId) : loadV agg o (some (.cells cs el)) = loadB agg o (some (.cells cs el)) := rfl
theorem loadB_agg (n o : Nat) (cs : List AVal) (el : TypeId) : loadB (some n) o (some (.cells cs el)) = some (n ≤ (cs.drop o).length, .agg ((cs.drop o).take n)) := rfl
theorem loadB_one (o : Nat) (cs : List AVal) (el : TypeId) : loadB none o (some (.cells cs el)) = some (o < cs.length, cs.getD o .junk) := rfl
theorem branch_t (K : Mode → Prop) (x y : ACode) (k : List AItem) (r : Regs) (H : AHeap) : BranchK K (.bool true) x y k r H = K (.todo (.code x :: k) r H) := rfl
theorem branch_f (K : Mode → Prop) (x y : ACode) (k : List AItem) (r : Regs) (H : AHeap) : BranchK K (.bool false) x y k r H = K (.todo (.code y :: k) r H) := rfl
theorem prune_nil (r : Regs) : prune [] r = [] := rfl
theorem prune_cons (i : Nat) (l : List Nat) (r : Regs) : prune (i :: l) r = (i, rget r i) :: prune l r := rfl
theorem content_cells (cs : List AVal) (el : TypeId) : content (some (.cells cs el)) = some cs := rfl
theorem content_vec (cs : List AVal) (el : TypeId) (z : Nat) : content (some (.vec cs el z)) = some cs := rfl
theorem view_nils (H : AHeap) : view H .nils = some [] := rfl
theorem srcLen_nils : srcLen .nils = some 0 := rfl
theorem srcLen_slc (n o l z : Nat) : srcLen (.slc n o l z) = some l := rfl
theorem srcLen_str (b : ByteArray) : srcLen (.str b) = some b.size := rfl
theorem srcCells_slc (H : AHeap) (n o l z : Nat) : srcCells H (.slc n o l z) = view H (.slc n o l z) := rfl
theorem srcCells_nils (H : AHeap) : srcCells H .nils = some [] := rfl

def appR : Option (Prop × AVal × AHeap) → Res
  | some (p, v, H') => .ok p v H'
  | none => .bad
theorem evalOp_append (g : AOpd → AVal) (H : AHeap) (el sz bytes : Nat) (s x : AOpd) : evalOp g H (.append el sz bytes s x) = appR (appendA H el sz bytes (g s) (g x)) := by
  simp only [evalOp]; cases appendA H el sz bytes (g s) (g x) <;> rfl
theorem appR_some (p : Prop) (v : AVal) (H : AHeap) : appR (some (p, v, H)) = .ok p v H := rfl

def idxA (sz n : Nat) (H : AHeap) : AVal → AVal → Res
  | .ptr b o, .int _ i => .ok (0 ≤ i ∧ i < n) (.ptr b (o + i.toNat * sz)) H
  | .sptr s o, .int _ i => .ok (0 ≤ i ∧ i < n) (.sptr s (o + i.toNat * sz)) H
  | _, _ => .bad
def idxS2 (sz : Nat) (H : AHeap) (x : AVal) (i : Int) : Option Nat → Res
  | some n => .ok (0 ≤ i ∧ i < n ∧ (view H x).isSome = true ∧ 0 < sz) (.sptr x (i.toNat * sz)) H
  | none => .bad
def idxS (sz : Nat) (H : AHeap) (x : AVal) : AVal → Res
  | .int _ i => idxS2 sz H x i (slen x)
  | _ => .bad
theorem evalOp_idxA (g : AOpd → AVal) (H : AHeap) (sz n : Nat) (x i : AOpd) : evalOp g H (.idx sz (some n) x i) = idxA sz n H (g x) (g i) := by
  cases hi : g i <;> cases hx : g x <;> simp [evalOp, idxA, hi, hx]
theorem evalOp_idxS (g : AOpd → AVal) (H : AHeap) (sz : Nat) (x i : AOpd) : evalOp g H (.idx sz none x i) = idxS sz H (g x) (g i) := by
  cases hi : g i <;> simp [evalOp, idxS, idxS2, hi]
  cases slen (g x) <;> rfl
theorem idxA_ptr (sz n : Nat) (H : AHeap) (b o : Nat) (k : IntKind) (i : Int) : idxA sz n H (.ptr b o) (.int k i) = .ok (0 ≤ i ∧ i < n) (.ptr b (o + i.toNat * sz)) H := rfl
theorem idxA_sptr (sz n : Nat) (H : AHeap) (s : AVal) (o : Nat) (k : IntKind) (i : Int) : idxA sz n H (.sptr s o) (.int k i) = .ok (0 ≤ i ∧ i < n) (.sptr s (o + i.toNat * sz)) H := rfl
theorem idxS_int (sz : Nat) (H : AHeap) (x : AVal) (k : IntKind) (i : Int) : idxS sz H x (.int k i) = idxS2 sz H x i (slen x) := rfl
theorem idxS2_some (sz : Nat) (H : AHeap) (x : AVal) (i : Int) (n : Nat) : idxS2 sz H x i (some n) = .ok (0 ≤ i ∧ i < n ∧ (view H x).isSome = true ∧ 0 < sz) (.sptr x (i.toNat * sz)) H := rfl


set_option linter.unusedVariables false

/-! ### The rules of evaluation, each set under one name -/

theorem std : ((((((((type_of% @Go.Am.V.eq_1 ∧ type_of% @Go.Am.V.eq_2) ∧ (type_of% @Go.Am.V.eq_3 ∧ (type_of% @Go.Am.V.eq_4 ∧ type_of% @Go.Am.V.eq_5))) ∧ ((type_of% @Go.Am.V.eq_6 ∧ (type_of% @Go.Am.V.eq_7 ∧ type_of% @Go.Am.V.eq_8)) ∧ (type_of% @Go.Am.V.eq_9 ∧ (type_of% @Go.Am.V.eq_10 ∧ type_of% @Go.Am.V.eq_11)))) ∧ (((type_of% @Go.Am.V.eq_12 ∧ type_of% @Go.Am.V.eq_13) ∧ (type_of% @Go.Am.V.eq_14 ∧ (type_of% @Go.Am.V.eq_15 ∧ type_of% @Go.Am.V.eq_16))) ∧ ((type_of% @Go.Am.V.eq_17 ∧ (type_of% @Go.Am.V.eq_18 ∧ type_of% @Go.Am.V.eq_19)) ∧ (type_of% @Go.Am.V.eq_20 ∧ (type_of% @Go.Am.V.eq_21 ∧ type_of% @Go.Am.V.eq_22))))) ∧ ((((type_of% @Go.Am.V.eq_23 ∧ type_of% @Go.Am.V.eq_24) ∧ (type_of% @Go.Am.V.eq_25 ∧ (type_of% @Go.Am.GoK.eq_1 ∧ type_of% @Go.Am.GoK.eq_2))) ∧ ((type_of% @Go.Am.GoK.eq_4 ∧ (type_of% @Go.Am.ResK.eq_1 ∧ type_of% @Go.Am.ResK.eq_2)) ∧ (type_of% @Go.Am.LeaveK.eq_1 ∧ (type_of% @Go.Am.LeaveK.eq_2 ∧ type_of% @Go.Am.JumpK.eq_1)))) ∧ (((type_of% @Go.Am.JumpK.eq_2 ∧ type_of% @Go.Am.DResK.eq_1) ∧ (type_of% @Go.Am.DResK.eq_2 ∧ (type_of% @Go.Am.DGoK.eq_1 ∧ type_of% @Go.Am.DGoK.eq_2))) ∧ ((type_of% @Go.Am.DGoK.eq_4 ∧ (type_of% @Go.Am.DAtK.eq_1 ∧ type_of% @Go.Am.DAtK.eq_2)) ∧ (type_of% @Go.Am.Sem'.eq_1 ∧ (type_of% @Go.Am.Sem'.eq_2 ∧ type_of% @Go.Am.Sem'.eq_3)))))) ∧ (((((type_of% @Go.Am.Sem'.eq_4 ∧ type_of% @Go.Am.argRegs.eq_1) ∧ (type_of% @Go.Am.argRegs.eq_2 ∧ (type_of% @Go.Am.evalOp.eq_1 ∧ type_of% @Go.Am.evalOp.eq_2))) ∧ ((type_of% @Go.Am.evalOp.eq_3 ∧ (type_of% @Go.Am.evalOp.eq_4 ∧ type_of% @Go.Am.evalOp.eq_5)) ∧ (type_of% @Go.Am.evalOp.eq_6 ∧ (type_of% @Go.Am.evalOp.eq_7 ∧ type_of% @Go.Am.evalOp.eq_8)))) ∧ (((type_of% @Go.Am.evalOp.eq_9 ∧ type_of% @Go.Am.evalOp.eq_10) ∧ (type_of% @Go.Am.evalOp.eq_11 ∧ (type_of% @Go.Am.evalOp.eq_12 ∧ type_of% @Go.Am.evalOp.eq_13))) ∧ ((type_of% @Go.Am.evalOp.eq_14 ∧ (type_of% @Go.Am.evalOp.eq_18 ∧ type_of% @Go.Am.evalOp.eq_19)) ∧ (type_of% @Go.Am.evalOp.eq_20 ∧ (type_of% @Go.Am.evalOp.eq_21 ∧ type_of% @Go.Am.evalOp.eq_22))))) ∧ ((((type_of% @Go.Am.evalOp.eq_23 ∧ type_of% @Go.Am.evalOp.eq_24) ∧ (type_of% @Go.Am.evalOp.eq_25 ∧ (type_of% @Go.Am.evalOp.eq_26 ∧ type_of% @Go.Am.evalOp.eq_28))) ∧ ((type_of% @Go.Am.evalOp.eq_29 ∧ (type_of% @Go.Am.evalOp.eq_30 ∧ type_of% @Go.Am.evalOp.eq_31)) ∧ (type_of% @Go.Am.evalOp.eq_32 ∧ (type_of% @Go.Am.wants.eq_1 ∧ type_of% @Go.Am.wants.eq_2)))) ∧ (((type_of% @Go.Am.geto.eq_1 ∧ (type_of% @Go.Am.geto.eq_2 ∧ type_of% @Go.Am.rget.eq_1)) ∧ (type_of% @Go.Am.rget.eq_2 ∧ (type_of% @Go.Am.rput.eq_1 ∧ type_of% @Go.Am.rput.eq_2))) ∧ ((type_of% @Go.Am.binA.eq_1 ∧ (type_of% @Go.Am.binA.eq_2 ∧ type_of% @Go.Am.binA.eq_3)) ∧ (type_of% @Go.Am.binA.eq_4 ∧ (type_of% @Go.Am.binA.eq_5 ∧ type_of% @Go.Am.binA.eq_6))))))) ∧ ((((((type_of% @Go.Am.binA.eq_7 ∧ type_of% @Go.Am.binA.eq_8) ∧ (type_of% @Go.Am.binA.eq_9 ∧ (type_of% @Go.Am.binA.eq_10 ∧ type_of% @Go.Am.binA.eq_11))) ∧ ((type_of% @Go.Am.binA.eq_12 ∧ (type_of% @Go.Am.binA.eq_13 ∧ type_of% @Go.Am.binA.eq_14)) ∧ (type_of% @Go.Am.binA.eq_15 ∧ (type_of% @Go.Am.binA.eq_16 ∧ type_of% @Go.Am.binA.eq_17)))) ∧ (((type_of% @Go.Am.binA.eq_18 ∧ type_of% @Go.Am.binA.eq_19) ∧ (type_of% @Go.Am.binA.eq_20 ∧ (type_of% @Go.Am.unA.eq_1 ∧ type_of% @Go.Am.unA.eq_2))) ∧ ((type_of% @Go.Am.unA.eq_4 ∧ (type_of% @Go.IntKind.bits.eq_1 ∧ type_of% @Go.IntKind.bits.eq_2)) ∧ (type_of% @Go.IntKind.bits.eq_3 ∧ (type_of% @Go.IntKind.bits.eq_4 ∧ type_of% @Go.IntKind.bits.eq_5))))) ∧ ((((type_of% @Go.IntKind.bits.eq_6 ∧ type_of% @Go.IntKind.bits.eq_7) ∧ (type_of% @Go.IntKind.bits.eq_8 ∧ (type_of% @Go.Am.logAdd.eq_1 ∧ type_of% @Go.Am.recheck.eq_1))) ∧ ((type_of% @Go.Am.recheck.eq_2 ∧ (type_of% @Go.Am.resOne.eq_1 ∧ type_of% @Go.Am.resOne.eq_2)) ∧ (type_of% @Go.Am.resA.eq_1 ∧ (type_of% @Go.Am.resA.eq_2 ∧ type_of% @Go.Am.fillParts.eq_1)))) ∧ (((type_of% @Go.Am.fillParts.eq_2 ∧ (type_of% @Go.Am.fillAt.eq_1 ∧ type_of% @Go.Am.fillAt.eq_2)) ∧ (type_of% @Go.Am.opdInt.eq_1 ∧ (type_of% @Go.Am.opdInt.eq_2 ∧ type_of% @goK_mov))) ∧ ((type_of% @dgoK_mov ∧ (type_of% @isEff_mov ∧ type_of% @isPure_mov)) ∧ (type_of% @goK_pick ∧ (type_of% @dgoK_pick ∧ type_of% @isEff_pick)))))) ∧ (((((type_of% @isPure_pick ∧ type_of% @goK_alloc) ∧ (type_of% @dgoK_alloc ∧ (type_of% @isEff_alloc ∧ type_of% @isPure_alloc))) ∧ ((type_of% @goK_box ∧ (type_of% @dgoK_box ∧ type_of% @isEff_box)) ∧ (type_of% @isPure_box ∧ (type_of% @goK_build ∧ type_of% @dgoK_build)))) ∧ (((type_of% @isEff_build ∧ type_of% @isPure_build) ∧ (type_of% @goK_lit ∧ (type_of% @dgoK_lit ∧ type_of% @isEff_lit))) ∧ ((type_of% @isPure_lit ∧ (type_of% @goK_load ∧ type_of% @dgoK_load)) ∧ (type_of% @isEff_load ∧ (type_of% @isPure_load ∧ type_of% @goK_store))))) ∧ ((((type_of% @dgoK_store ∧ type_of% @isEff_store) ∧ (type_of% @isPure_store ∧ (type_of% @goK_bin ∧ type_of% @dgoK_bin))) ∧ ((type_of% @isEff_bin ∧ (type_of% @isPure_bin ∧ type_of% @goK_eq)) ∧ (type_of% @dgoK_eq ∧ (type_of% @isEff_eq ∧ type_of% @isPure_eq)))) ∧ (((type_of% @goK_un ∧ (type_of% @dgoK_un ∧ type_of% @isEff_un)) ∧ (type_of% @isPure_un ∧ (type_of% @goK_conv ∧ type_of% @dgoK_conv))) ∧ ((type_of% @isEff_conv ∧ (type_of% @isPure_conv ∧ type_of% @goK_nilc)) ∧ (type_of% @dgoK_nilc ∧ (type_of% @isEff_nilc ∧ type_of% @isPure_nilc)))))))) ∧ (((((((type_of% @goK_field ∧ type_of% @dgoK_field) ∧ (type_of% @isEff_field ∧ (type_of% @isPure_field ∧ type_of% @goK_idx))) ∧ ((type_of% @dgoK_idx ∧ (type_of% @isEff_idx ∧ type_of% @goK_sidx)) ∧ (type_of% @dgoK_sidx ∧ (type_of% @isEff_sidx ∧ type_of% @isPure_sidx)))) ∧ (((type_of% @goK_slice ∧ type_of% @dgoK_slice) ∧ (type_of% @isEff_slice ∧ (type_of% @goK_toArr ∧ type_of% @dgoK_toArr))) ∧ ((type_of% @isEff_toArr ∧ (type_of% @isPure_toArr ∧ type_of% @goK_len)) ∧ (type_of% @dgoK_len ∧ (type_of% @isEff_len ∧ type_of% @goK_maxmin))))) ∧ ((((type_of% @dgoK_maxmin ∧ type_of% @isEff_maxmin) ∧ (type_of% @isPure_maxmin ∧ (type_of% @goK_extract ∧ type_of% @dgoK_extract))) ∧ ((type_of% @isEff_extract ∧ (type_of% @isPure_extract ∧ type_of% @goK_mkfn)) ∧ (type_of% @dgoK_mkfn ∧ (type_of% @isEff_mkfn ∧ type_of% @isPure_mkfn)))) ∧ (((type_of% @goK_append ∧ type_of% @dgoK_append) ∧ (type_of% @isEff_append ∧ (type_of% @isPure_append ∧ type_of% @goK_mkmap))) ∧ ((type_of% @dgoK_mkmap ∧ (type_of% @isEff_mkmap ∧ type_of% @isPure_mkmap)) ∧ (type_of% @goK_mkslice ∧ (type_of% @dgoK_mkslice ∧ type_of% @isEff_mkslice)))))) ∧ (((((type_of% @isPure_mkslice ∧ type_of% @goK_lookup) ∧ (type_of% @dgoK_lookup ∧ (type_of% @isEff_lookup ∧ type_of% @isPure_lookup))) ∧ ((type_of% @goK_mapset ∧ (type_of% @dgoK_mapset ∧ type_of% @isEff_mapset)) ∧ (type_of% @isPure_mapset ∧ (type_of% @isEff_call ∧ type_of% @isPure_call)))) ∧ (((type_of% @isPure_lenS ∧ type_of% @isPure_lenT) ∧ (type_of% @isPure_lenM ∧ (type_of% @isPure_sliceS ∧ type_of% @isPure_sliceT))) ∧ ((type_of% @isPure_sliceA ∧ (type_of% @isPure_idxS ∧ type_of% @isPure_idxA)) ∧ (type_of% @exit_code ∧ (type_of% @exit_loop ∧ type_of% @exit_scope))))) ∧ ((((type_of% @exit_begin ∧ type_of% @exit_block) ∧ (type_of% @exit_nil ∧ (type_of% @pack_nil ∧ type_of% @pack_one))) ∧ ((type_of% @pack_two ∧ (type_of% @loadV_vec ∧ type_of% @loadV_cells)) ∧ (type_of% @loadB_agg ∧ (type_of% @loadB_one ∧ type_of% @branch_t)))) ∧ (((type_of% @branch_f ∧ (type_of% @prune_nil ∧ type_of% @prune_cons)) ∧ (type_of% @content_cells ∧ (type_of% @content_vec ∧ type_of% @view_nils))) ∧ ((type_of% @srcLen_nils ∧ (type_of% @srcLen_slc ∧ type_of% @srcLen_str)) ∧ (type_of% @srcCells_slc ∧ (type_of% @srcCells_nils ∧ type_of% @evalOp_append))))))) ∧ ((((((type_of% @appR_some ∧ type_of% @evalOp_idxA) ∧ (type_of% @evalOp_idxS ∧ (type_of% @idxA_ptr ∧ type_of% @idxA_sptr))) ∧ ((type_of% @idxS_int ∧ (type_of% @idxS2_some ∧ type_of% @List.map_nil.{0, 0})) ∧ (type_of% @List.map_cons.{0, 0} ∧ (type_of% @List.all_nil.{0} ∧ type_of% @List.all_cons.{0})))) ∧ (((type_of% @true_and ∧ type_of% @and_true) ∧ (type_of% @and_self ∧ (type_of% @decide_eq_true ∧ type_of% @decide_eq_false))) ∧ ((type_of% @and_left ∧ (type_of% @fdiv_pow ∧ type_of% @Int.toNat_natCast)) ∧ (type_of% @Nat.mul_one ∧ (type_of% @Bool.not_eq_eq_eq_not ∧ type_of% @decide_true))))) ∧ ((((type_of% @decide_false ∧ type_of% @Nat.zero_lt_one) ∧ (type_of% @List.any_nil.{0} ∧ (type_of% @List.nil_append.{0} ∧ type_of% @beq_true))) ∧ ((type_of% @beq_false ∧ (type_of% @Int.fdiv_eq_ediv_of_nonneg ∧ type_of% @beq_self_eq_true.{0})) ∧ (type_of% @Bool.not_true ∧ (type_of% @Bool.not_false ∧ type_of% @wrap_i64)))) ∧ (((type_of% @wrap_u64 ∧ (type_of% @wrap_u32 ∧ type_of% @wrap_u16)) ∧ (type_of% @wrap_i32 ∧ (type_of% @wrap_u8 ∧ type_of% @slen_nils))) ∧ ((type_of% @slen_slc ∧ (type_of% @slen_imm ∧ type_of% @Bool.false_eq_true)) ∧ (type_of% @List.getElem?_cons_zero.{0} ∧ (type_of% @List.getElem?_cons_succ.{0} ∧ type_of% @List.length_cons.{0})))))) ∧ (((((type_of% @List.length_nil.{0} ∧ type_of% @Bool.and_self) ∧ (type_of% @Bool.and_true ∧ (type_of% @Bool.true_and ∧ type_of% @List.set_cons_zero.{0}))) ∧ ((type_of% @List.set_cons_succ.{0} ∧ (type_of% @Nat.zero_add ∧ type_of% @Nat.le_refl)) ∧ (type_of% @List.getD_cons_zero.{0} ∧ (type_of% @List.getD_cons_succ.{0} ∧ type_of% @Nat.min_eq_left)))) ∧ (((type_of% @Nat.min_eq_right ∧ type_of% @cells_int) ∧ (type_of% @cells_bool ∧ (type_of% @cells_str ∧ type_of% @cells_agg))) ∧ ((type_of% @cells_slc ∧ (type_of% @cells_nils ∧ type_of% @cells_nilp)) ∧ (type_of% @cells_nilf ∧ (type_of% @cells_nilm ∧ type_of% @cells_ptr))))) ∧ ((((type_of% @cells_mapv ∧ type_of% @cells_fn) ∧ (type_of% @cells_imm ∧ (type_of% @cellish_int ∧ type_of% @cellish_bool))) ∧ ((type_of% @cellish_str ∧ (type_of% @cellish_slc ∧ type_of% @cellish_nils)) ∧ (type_of% @cellish_nilp ∧ (type_of% @cellish_nilf ∧ type_of% @cellish_nilm)))) ∧ (((type_of% @cellish_ptr ∧ (type_of% @cellish_mapv ∧ type_of% @cellish_fn)) ∧ (type_of% @cellish_imm ∧ (type_of% @cells_nums ∧ type_of% @cells_ints))) ∧ ((type_of% @cells_recs ∧ (type_of% @cells_cell ∧ type_of% @cellish_nums)) ∧ (type_of% @cellish_ints ∧ (type_of% @cellish_recs ∧ type_of% @cellish_cell))))))))) :=
  ⟨⟨⟨⟨⟨⟨⟨⟨@Go.Am.V.eq_1, @Go.Am.V.eq_2⟩, ⟨@Go.Am.V.eq_3, ⟨@Go.Am.V.eq_4, @Go.Am.V.eq_5⟩⟩⟩, ⟨⟨@Go.Am.V.eq_6, ⟨@Go.Am.V.eq_7, @Go.Am.V.eq_8⟩⟩, ⟨@Go.Am.V.eq_9, ⟨@Go.Am.V.eq_10, @Go.Am.V.eq_11⟩⟩⟩⟩, ⟨⟨⟨@Go.Am.V.eq_12, @Go.Am.V.eq_13⟩, ⟨@Go.Am.V.eq_14, ⟨@Go.Am.V.eq_15, @Go.Am.V.eq_16⟩⟩⟩, ⟨⟨@Go.Am.V.eq_17, ⟨@Go.Am.V.eq_18, @Go.Am.V.eq_19⟩⟩, ⟨@Go.Am.V.eq_20, ⟨@Go.Am.V.eq_21, @Go.Am.V.eq_22⟩⟩⟩⟩⟩, ⟨⟨⟨⟨@Go.Am.V.eq_23, @Go.Am.V.eq_24⟩, ⟨@Go.Am.V.eq_25, ⟨@Go.Am.GoK.eq_1, @Go.Am.GoK.eq_2⟩⟩⟩, ⟨⟨@Go.Am.GoK.eq_4, ⟨@Go.Am.ResK.eq_1, @Go.Am.ResK.eq_2⟩⟩, ⟨@Go.Am.LeaveK.eq_1, ⟨@Go.Am.LeaveK.eq_2, @Go.Am.JumpK.eq_1⟩⟩⟩⟩, ⟨⟨⟨@Go.Am.JumpK.eq_2, @Go.Am.DResK.eq_1⟩, ⟨@Go.Am.DResK.eq_2, ⟨@Go.Am.DGoK.eq_1, @Go.Am.DGoK.eq_2⟩⟩⟩, ⟨⟨@Go.Am.DGoK.eq_4, ⟨@Go.Am.DAtK.eq_1, @Go.Am.DAtK.eq_2⟩⟩, ⟨@Go.Am.Sem'.eq_1, ⟨@Go.Am.Sem'.eq_2, @Go.Am.Sem'.eq_3⟩⟩⟩⟩⟩⟩, ⟨⟨⟨⟨⟨@Go.Am.Sem'.eq_4, @Go.Am.argRegs.eq_1⟩, ⟨@Go.Am.argRegs.eq_2, ⟨@Go.Am.evalOp.eq_1, @Go.Am.evalOp.eq_2⟩⟩⟩, ⟨⟨@Go.Am.evalOp.eq_3, ⟨@Go.Am.evalOp.eq_4, @Go.Am.evalOp.eq_5⟩⟩, ⟨@Go.Am.evalOp.eq_6, ⟨@Go.Am.evalOp.eq_7, @Go.Am.evalOp.eq_8⟩⟩⟩⟩, ⟨⟨⟨@Go.Am.evalOp.eq_9, @Go.Am.evalOp.eq_10⟩, ⟨@Go.Am.evalOp.eq_11, ⟨@Go.Am.evalOp.eq_12, @Go.Am.evalOp.eq_13⟩⟩⟩, ⟨⟨@Go.Am.evalOp.eq_14, ⟨@Go.Am.evalOp.eq_18, @Go.Am.evalOp.eq_19⟩⟩, ⟨@Go.Am.evalOp.eq_20, ⟨@Go.Am.evalOp.eq_21, @Go.Am.evalOp.eq_22⟩⟩⟩⟩⟩, ⟨⟨⟨⟨@Go.Am.evalOp.eq_23, @Go.Am.evalOp.eq_24⟩, ⟨@Go.Am.evalOp.eq_25, ⟨@Go.Am.evalOp.eq_26, @Go.Am.evalOp.eq_28⟩⟩⟩, ⟨⟨@Go.Am.evalOp.eq_29, ⟨@Go.Am.evalOp.eq_30, @Go.Am.evalOp.eq_31⟩⟩, ⟨@Go.Am.evalOp.eq_32, ⟨@Go.Am.wants.eq_1, @Go.Am.wants.eq_2⟩⟩⟩⟩, ⟨⟨⟨@Go.Am.geto.eq_1, ⟨@Go.Am.geto.eq_2, @Go.Am.rget.eq_1⟩⟩, ⟨@Go.Am.rget.eq_2, ⟨@Go.Am.rput.eq_1, @Go.Am.rput.eq_2⟩⟩⟩, ⟨⟨@Go.Am.binA.eq_1, ⟨@Go.Am.binA.eq_2, @Go.Am.binA.eq_3⟩⟩, ⟨@Go.Am.binA.eq_4, ⟨@Go.Am.binA.eq_5, @Go.Am.binA.eq_6⟩⟩⟩⟩⟩⟩⟩, ⟨⟨⟨⟨⟨⟨@Go.Am.binA.eq_7, @Go.Am.binA.eq_8⟩, ⟨@Go.Am.binA.eq_9, ⟨@Go.Am.binA.eq_10, @Go.Am.binA.eq_11⟩⟩⟩, ⟨⟨@Go.Am.binA.eq_12, ⟨@Go.Am.binA.eq_13, @Go.Am.binA.eq_14⟩⟩, ⟨@Go.Am.binA.eq_15, ⟨@Go.Am.binA.eq_16, @Go.Am.binA.eq_17⟩⟩⟩⟩, ⟨⟨⟨@Go.Am.binA.eq_18, @Go.Am.binA.eq_19⟩, ⟨@Go.Am.binA.eq_20, ⟨@Go.Am.unA.eq_1, @Go.Am.unA.eq_2⟩⟩⟩, ⟨⟨@Go.Am.unA.eq_4, ⟨@Go.IntKind.bits.eq_1, @Go.IntKind.bits.eq_2⟩⟩, ⟨@Go.IntKind.bits.eq_3, ⟨@Go.IntKind.bits.eq_4, @Go.IntKind.bits.eq_5⟩⟩⟩⟩⟩, ⟨⟨⟨⟨@Go.IntKind.bits.eq_6, @Go.IntKind.bits.eq_7⟩, ⟨@Go.IntKind.bits.eq_8, ⟨@Go.Am.logAdd.eq_1, @Go.Am.recheck.eq_1⟩⟩⟩, ⟨⟨@Go.Am.recheck.eq_2, ⟨@Go.Am.resOne.eq_1, @Go.Am.resOne.eq_2⟩⟩, ⟨@Go.Am.resA.eq_1, ⟨@Go.Am.resA.eq_2, @Go.Am.fillParts.eq_1⟩⟩⟩⟩, ⟨⟨⟨@Go.Am.fillParts.eq_2, ⟨@Go.Am.fillAt.eq_1, @Go.Am.fillAt.eq_2⟩⟩, ⟨@Go.Am.opdInt.eq_1, ⟨@Go.Am.opdInt.eq_2, @goK_mov⟩⟩⟩, ⟨⟨@dgoK_mov, ⟨@isEff_mov, @isPure_mov⟩⟩, ⟨@goK_pick, ⟨@dgoK_pick, @isEff_pick⟩⟩⟩⟩⟩⟩, ⟨⟨⟨⟨⟨@isPure_pick, @goK_alloc⟩, ⟨@dgoK_alloc, ⟨@isEff_alloc, @isPure_alloc⟩⟩⟩, ⟨⟨@goK_box, ⟨@dgoK_box, @isEff_box⟩⟩, ⟨@isPure_box, ⟨@goK_build, @dgoK_build⟩⟩⟩⟩, ⟨⟨⟨@isEff_build, @isPure_build⟩, ⟨@goK_lit, ⟨@dgoK_lit, @isEff_lit⟩⟩⟩, ⟨⟨@isPure_lit, ⟨@goK_load, @dgoK_load⟩⟩, ⟨@isEff_load, ⟨@isPure_load, @goK_store⟩⟩⟩⟩⟩, ⟨⟨⟨⟨@dgoK_store, @isEff_store⟩, ⟨@isPure_store, ⟨@goK_bin, @dgoK_bin⟩⟩⟩, ⟨⟨@isEff_bin, ⟨@isPure_bin, @goK_eq⟩⟩, ⟨@dgoK_eq, ⟨@isEff_eq, @isPure_eq⟩⟩⟩⟩, ⟨⟨⟨@goK_un, ⟨@dgoK_un, @isEff_un⟩⟩, ⟨@isPure_un, ⟨@goK_conv, @dgoK_conv⟩⟩⟩, ⟨⟨@isEff_conv, ⟨@isPure_conv, @goK_nilc⟩⟩, ⟨@dgoK_nilc, ⟨@isEff_nilc, @isPure_nilc⟩⟩⟩⟩⟩⟩⟩⟩, ⟨⟨⟨⟨⟨⟨⟨@goK_field, @dgoK_field⟩, ⟨@isEff_field, ⟨@isPure_field, @goK_idx⟩⟩⟩, ⟨⟨@dgoK_idx, ⟨@isEff_idx, @goK_sidx⟩⟩, ⟨@dgoK_sidx, ⟨@isEff_sidx, @isPure_sidx⟩⟩⟩⟩, ⟨⟨⟨@goK_slice, @dgoK_slice⟩, ⟨@isEff_slice, ⟨@goK_toArr, @dgoK_toArr⟩⟩⟩, ⟨⟨@isEff_toArr, ⟨@isPure_toArr, @goK_len⟩⟩, ⟨@dgoK_len, ⟨@isEff_len, @goK_maxmin⟩⟩⟩⟩⟩, ⟨⟨⟨⟨@dgoK_maxmin, @isEff_maxmin⟩, ⟨@isPure_maxmin, ⟨@goK_extract, @dgoK_extract⟩⟩⟩, ⟨⟨@isEff_extract, ⟨@isPure_extract, @goK_mkfn⟩⟩, ⟨@dgoK_mkfn, ⟨@isEff_mkfn, @isPure_mkfn⟩⟩⟩⟩, ⟨⟨⟨@goK_append, @dgoK_append⟩, ⟨@isEff_append, ⟨@isPure_append, @goK_mkmap⟩⟩⟩, ⟨⟨@dgoK_mkmap, ⟨@isEff_mkmap, @isPure_mkmap⟩⟩, ⟨@goK_mkslice, ⟨@dgoK_mkslice, @isEff_mkslice⟩⟩⟩⟩⟩⟩, ⟨⟨⟨⟨⟨@isPure_mkslice, @goK_lookup⟩, ⟨@dgoK_lookup, ⟨@isEff_lookup, @isPure_lookup⟩⟩⟩, ⟨⟨@goK_mapset, ⟨@dgoK_mapset, @isEff_mapset⟩⟩, ⟨@isPure_mapset, ⟨@isEff_call, @isPure_call⟩⟩⟩⟩, ⟨⟨⟨@isPure_lenS, @isPure_lenT⟩, ⟨@isPure_lenM, ⟨@isPure_sliceS, @isPure_sliceT⟩⟩⟩, ⟨⟨@isPure_sliceA, ⟨@isPure_idxS, @isPure_idxA⟩⟩, ⟨@exit_code, ⟨@exit_loop, @exit_scope⟩⟩⟩⟩⟩, ⟨⟨⟨⟨@exit_begin, @exit_block⟩, ⟨@exit_nil, ⟨@pack_nil, @pack_one⟩⟩⟩, ⟨⟨@pack_two, ⟨@loadV_vec, @loadV_cells⟩⟩, ⟨@loadB_agg, ⟨@loadB_one, @branch_t⟩⟩⟩⟩, ⟨⟨⟨@branch_f, ⟨@prune_nil, @prune_cons⟩⟩, ⟨@content_cells, ⟨@content_vec, @view_nils⟩⟩⟩, ⟨⟨@srcLen_nils, ⟨@srcLen_slc, @srcLen_str⟩⟩, ⟨@srcCells_slc, ⟨@srcCells_nils, @evalOp_append⟩⟩⟩⟩⟩⟩⟩, ⟨⟨⟨⟨⟨⟨@appR_some, @evalOp_idxA⟩, ⟨@evalOp_idxS, ⟨@idxA_ptr, @idxA_sptr⟩⟩⟩, ⟨⟨@idxS_int, ⟨@idxS2_some, @List.map_nil.{0, 0}⟩⟩, ⟨@List.map_cons.{0, 0}, ⟨@List.all_nil.{0}, @List.all_cons.{0}⟩⟩⟩⟩, ⟨⟨⟨@true_and, @and_true⟩, ⟨@and_self, ⟨@decide_eq_true, @decide_eq_false⟩⟩⟩, ⟨⟨@and_left, ⟨@fdiv_pow, @Int.toNat_natCast⟩⟩, ⟨@Nat.mul_one, ⟨@Bool.not_eq_eq_eq_not, @decide_true⟩⟩⟩⟩⟩, ⟨⟨⟨⟨@decide_false, @Nat.zero_lt_one⟩, ⟨@List.any_nil.{0}, ⟨@List.nil_append.{0}, @beq_true⟩⟩⟩, ⟨⟨@beq_false, ⟨@Int.fdiv_eq_ediv_of_nonneg, @beq_self_eq_true.{0}⟩⟩, ⟨@Bool.not_true, ⟨@Bool.not_false, @wrap_i64⟩⟩⟩⟩, ⟨⟨⟨@wrap_u64, ⟨@wrap_u32, @wrap_u16⟩⟩, ⟨@wrap_i32, ⟨@wrap_u8, @slen_nils⟩⟩⟩, ⟨⟨@slen_slc, ⟨@slen_imm, @Bool.false_eq_true⟩⟩, ⟨@List.getElem?_cons_zero.{0}, ⟨@List.getElem?_cons_succ.{0}, @List.length_cons.{0}⟩⟩⟩⟩⟩⟩, ⟨⟨⟨⟨⟨@List.length_nil.{0}, @Bool.and_self⟩, ⟨@Bool.and_true, ⟨@Bool.true_and, @List.set_cons_zero.{0}⟩⟩⟩, ⟨⟨@List.set_cons_succ.{0}, ⟨@Nat.zero_add, @Nat.le_refl⟩⟩, ⟨@List.getD_cons_zero.{0}, ⟨@List.getD_cons_succ.{0}, @Nat.min_eq_left⟩⟩⟩⟩, ⟨⟨⟨@Nat.min_eq_right, @cells_int⟩, ⟨@cells_bool, ⟨@cells_str, @cells_agg⟩⟩⟩, ⟨⟨@cells_slc, ⟨@cells_nils, @cells_nilp⟩⟩, ⟨@cells_nilf, ⟨@cells_nilm, @cells_ptr⟩⟩⟩⟩⟩, ⟨⟨⟨⟨@cells_mapv, @cells_fn⟩, ⟨@cells_imm, ⟨@cellish_int, @cellish_bool⟩⟩⟩, ⟨⟨@cellish_str, ⟨@cellish_slc, @cellish_nils⟩⟩, ⟨@cellish_nilp, ⟨@cellish_nilf, @cellish_nilm⟩⟩⟩⟩, ⟨⟨⟨@cellish_ptr, ⟨@cellish_mapv, @cellish_fn⟩⟩, ⟨@cellish_imm, ⟨@cells_nums, @cells_ints⟩⟩⟩, ⟨⟨@cells_recs, ⟨@cells_cell, @cellish_nums⟩⟩, ⟨@cellish_ints, ⟨@cellish_recs, @cellish_cell⟩⟩⟩⟩⟩⟩⟩⟩⟩

theorem stdh : ((((((((type_of% @Go.Am.V.eq_1 ∧ (type_of% @Go.Am.V.eq_2 ∧ type_of% @Go.Am.V.eq_3)) ∧ ((type_of% @Go.Am.V.eq_4 ∧ type_of% @Go.Am.V.eq_5) ∧ (type_of% @Go.Am.V.eq_6 ∧ type_of% @Go.Am.V.eq_7))) ∧ ((type_of% @Go.Am.V.eq_8 ∧ (type_of% @Go.Am.V.eq_9 ∧ type_of% @Go.Am.V.eq_10)) ∧ ((type_of% @Go.Am.V.eq_11 ∧ type_of% @Go.Am.V.eq_12) ∧ (type_of% @Go.Am.V.eq_13 ∧ type_of% @Go.Am.V.eq_14)))) ∧ (((type_of% @Go.Am.V.eq_15 ∧ (type_of% @Go.Am.V.eq_16 ∧ type_of% @Go.Am.V.eq_17)) ∧ ((type_of% @Go.Am.V.eq_18 ∧ type_of% @Go.Am.V.eq_19) ∧ (type_of% @Go.Am.V.eq_20 ∧ type_of% @Go.Am.V.eq_21))) ∧ ((type_of% @Go.Am.V.eq_22 ∧ (type_of% @Go.Am.V.eq_23 ∧ type_of% @Go.Am.V.eq_24)) ∧ ((type_of% @Go.Am.V.eq_25 ∧ type_of% @Go.Am.GoK.eq_1) ∧ (type_of% @Go.Am.GoK.eq_2 ∧ type_of% @Go.Am.GoK.eq_4))))) ∧ ((((type_of% @Go.Am.ResK.eq_1 ∧ (type_of% @Go.Am.ResK.eq_2 ∧ type_of% @Go.Am.LeaveK.eq_1)) ∧ ((type_of% @Go.Am.LeaveK.eq_2 ∧ type_of% @Go.Am.JumpK.eq_1) ∧ (type_of% @Go.Am.JumpK.eq_2 ∧ type_of% @Go.Am.DResK.eq_1))) ∧ ((type_of% @Go.Am.DResK.eq_2 ∧ (type_of% @Go.Am.DGoK.eq_1 ∧ type_of% @Go.Am.DGoK.eq_2)) ∧ ((type_of% @Go.Am.DGoK.eq_4 ∧ type_of% @Go.Am.DAtK.eq_1) ∧ (type_of% @Go.Am.DAtK.eq_2 ∧ type_of% @Go.Am.Sem'.eq_1)))) ∧ (((type_of% @Go.Am.Sem'.eq_2 ∧ (type_of% @Go.Am.Sem'.eq_3 ∧ type_of% @Go.Am.Sem'.eq_4)) ∧ ((type_of% @Go.Am.argRegs.eq_1 ∧ type_of% @Go.Am.argRegs.eq_2) ∧ (type_of% @Go.Am.evalOp.eq_1 ∧ type_of% @Go.Am.evalOp.eq_2))) ∧ ((type_of% @Go.Am.evalOp.eq_3 ∧ (type_of% @Go.Am.evalOp.eq_4 ∧ type_of% @Go.Am.evalOp.eq_5)) ∧ ((type_of% @Go.Am.evalOp.eq_6 ∧ type_of% @Go.Am.evalOp.eq_7) ∧ (type_of% @Go.Am.evalOp.eq_8 ∧ type_of% @Go.Am.evalOp.eq_9)))))) ∧ (((((type_of% @Go.Am.evalOp.eq_10 ∧ (type_of% @Go.Am.evalOp.eq_11 ∧ type_of% @Go.Am.evalOp.eq_12)) ∧ ((type_of% @Go.Am.evalOp.eq_13 ∧ type_of% @Go.Am.evalOp.eq_14) ∧ (type_of% @Go.Am.evalOp.eq_18 ∧ type_of% @Go.Am.evalOp.eq_19))) ∧ ((type_of% @Go.Am.evalOp.eq_20 ∧ (type_of% @Go.Am.evalOp.eq_21 ∧ type_of% @Go.Am.evalOp.eq_22)) ∧ ((type_of% @Go.Am.evalOp.eq_23 ∧ type_of% @Go.Am.evalOp.eq_24) ∧ (type_of% @Go.Am.evalOp.eq_25 ∧ type_of% @Go.Am.evalOp.eq_26)))) ∧ (((type_of% @Go.Am.evalOp.eq_28 ∧ (type_of% @Go.Am.evalOp.eq_29 ∧ type_of% @Go.Am.evalOp.eq_30)) ∧ ((type_of% @Go.Am.evalOp.eq_31 ∧ type_of% @Go.Am.evalOp.eq_32) ∧ (type_of% @Go.Am.wants.eq_1 ∧ type_of% @Go.Am.wants.eq_2))) ∧ ((type_of% @Go.Am.geto.eq_1 ∧ (type_of% @Go.Am.geto.eq_2 ∧ type_of% @Go.Am.rget.eq_1)) ∧ ((type_of% @Go.Am.rget.eq_2 ∧ type_of% @Go.Am.rput.eq_1) ∧ (type_of% @Go.Am.rput.eq_2 ∧ type_of% @Go.Am.binA.eq_1))))) ∧ ((((type_of% @Go.Am.binA.eq_2 ∧ (type_of% @Go.Am.binA.eq_3 ∧ type_of% @Go.Am.binA.eq_4)) ∧ ((type_of% @Go.Am.binA.eq_5 ∧ type_of% @Go.Am.binA.eq_6) ∧ (type_of% @Go.Am.binA.eq_7 ∧ type_of% @Go.Am.binA.eq_8))) ∧ ((type_of% @Go.Am.binA.eq_9 ∧ (type_of% @Go.Am.binA.eq_10 ∧ type_of% @Go.Am.binA.eq_11)) ∧ ((type_of% @Go.Am.binA.eq_12 ∧ type_of% @Go.Am.binA.eq_13) ∧ (type_of% @Go.Am.binA.eq_14 ∧ type_of% @Go.Am.binA.eq_15)))) ∧ (((type_of% @Go.Am.binA.eq_16 ∧ (type_of% @Go.Am.binA.eq_17 ∧ type_of% @Go.Am.binA.eq_18)) ∧ ((type_of% @Go.Am.binA.eq_19 ∧ type_of% @Go.Am.binA.eq_20) ∧ (type_of% @Go.Am.unA.eq_1 ∧ type_of% @Go.Am.unA.eq_2))) ∧ ((type_of% @Go.Am.unA.eq_4 ∧ (type_of% @Go.IntKind.bits.eq_1 ∧ type_of% @Go.IntKind.bits.eq_2)) ∧ ((type_of% @Go.IntKind.bits.eq_3 ∧ type_of% @Go.IntKind.bits.eq_4) ∧ (type_of% @Go.IntKind.bits.eq_5 ∧ type_of% @Go.IntKind.bits.eq_6))))))) ∧ ((((((type_of% @Go.IntKind.bits.eq_7 ∧ (type_of% @Go.IntKind.bits.eq_8 ∧ type_of% @Go.Am.logAdd.eq_1)) ∧ ((type_of% @Go.Am.recheck.eq_1 ∧ type_of% @Go.Am.recheck.eq_2) ∧ (type_of% @Go.Am.resOne.eq_1 ∧ type_of% @Go.Am.resOne.eq_2))) ∧ ((type_of% @Go.Am.resA.eq_1 ∧ (type_of% @Go.Am.resA.eq_2 ∧ type_of% @Go.Am.fillParts.eq_1)) ∧ ((type_of% @Go.Am.fillParts.eq_2 ∧ type_of% @Go.Am.fillAt.eq_1) ∧ (type_of% @Go.Am.fillAt.eq_2 ∧ type_of% @Go.Am.opdInt.eq_1)))) ∧ (((type_of% @Go.Am.opdInt.eq_2 ∧ (type_of% @goK_mov ∧ type_of% @dgoK_mov)) ∧ ((type_of% @isEff_mov ∧ type_of% @isPure_mov) ∧ (type_of% @goK_pick ∧ type_of% @dgoK_pick))) ∧ ((type_of% @isEff_pick ∧ (type_of% @isPure_pick ∧ type_of% @goK_alloc)) ∧ ((type_of% @dgoK_alloc ∧ type_of% @isEff_alloc) ∧ (type_of% @isPure_alloc ∧ type_of% @goK_box))))) ∧ ((((type_of% @dgoK_box ∧ (type_of% @isEff_box ∧ type_of% @isPure_box)) ∧ ((type_of% @goK_build ∧ type_of% @dgoK_build) ∧ (type_of% @isEff_build ∧ type_of% @isPure_build))) ∧ ((type_of% @goK_lit ∧ (type_of% @dgoK_lit ∧ type_of% @isEff_lit)) ∧ ((type_of% @isPure_lit ∧ type_of% @goK_load) ∧ (type_of% @dgoK_load ∧ type_of% @isEff_load)))) ∧ (((type_of% @isPure_load ∧ (type_of% @goK_store ∧ type_of% @dgoK_store)) ∧ ((type_of% @isEff_store ∧ type_of% @isPure_store) ∧ (type_of% @goK_bin ∧ type_of% @dgoK_bin))) ∧ ((type_of% @isEff_bin ∧ (type_of% @isPure_bin ∧ type_of% @goK_eq)) ∧ ((type_of% @dgoK_eq ∧ type_of% @isEff_eq) ∧ (type_of% @isPure_eq ∧ type_of% @goK_un)))))) ∧ (((((type_of% @dgoK_un ∧ (type_of% @isEff_un ∧ type_of% @isPure_un)) ∧ ((type_of% @goK_conv ∧ type_of% @dgoK_conv) ∧ (type_of% @isEff_conv ∧ type_of% @isPure_conv))) ∧ ((type_of% @goK_nilc ∧ (type_of% @dgoK_nilc ∧ type_of% @isEff_nilc)) ∧ ((type_of% @isPure_nilc ∧ type_of% @goK_field) ∧ (type_of% @dgoK_field ∧ type_of% @isEff_field)))) ∧ (((type_of% @isPure_field ∧ (type_of% @goK_idx ∧ type_of% @dgoK_idx)) ∧ ((type_of% @isEff_idx ∧ type_of% @goK_sidx) ∧ (type_of% @dgoK_sidx ∧ type_of% @isEff_sidx))) ∧ ((type_of% @isPure_sidx ∧ (type_of% @goK_slice ∧ type_of% @dgoK_slice)) ∧ ((type_of% @isEff_slice ∧ type_of% @goK_toArr) ∧ (type_of% @dgoK_toArr ∧ type_of% @isEff_toArr))))) ∧ ((((type_of% @isPure_toArr ∧ (type_of% @goK_len ∧ type_of% @dgoK_len)) ∧ ((type_of% @isEff_len ∧ type_of% @goK_maxmin) ∧ (type_of% @dgoK_maxmin ∧ type_of% @isEff_maxmin))) ∧ ((type_of% @isPure_maxmin ∧ (type_of% @goK_extract ∧ type_of% @dgoK_extract)) ∧ ((type_of% @isEff_extract ∧ type_of% @isPure_extract) ∧ (type_of% @goK_mkfn ∧ type_of% @dgoK_mkfn)))) ∧ (((type_of% @isEff_mkfn ∧ (type_of% @isPure_mkfn ∧ type_of% @goK_append)) ∧ ((type_of% @dgoK_append ∧ type_of% @isEff_append) ∧ (type_of% @isPure_append ∧ type_of% @goK_mkmap))) ∧ ((type_of% @dgoK_mkmap ∧ (type_of% @isEff_mkmap ∧ type_of% @isPure_mkmap)) ∧ ((type_of% @goK_mkslice ∧ type_of% @dgoK_mkslice) ∧ (type_of% @isEff_mkslice ∧ type_of% @isPure_mkslice)))))))) ∧ (((((((type_of% @goK_lookup ∧ (type_of% @dgoK_lookup ∧ type_of% @isEff_lookup)) ∧ ((type_of% @isPure_lookup ∧ type_of% @goK_mapset) ∧ (type_of% @dgoK_mapset ∧ type_of% @isEff_mapset))) ∧ ((type_of% @isPure_mapset ∧ (type_of% @isEff_call ∧ type_of% @isPure_call)) ∧ ((type_of% @isPure_lenS ∧ type_of% @isPure_lenT) ∧ (type_of% @isPure_lenM ∧ type_of% @isPure_sliceS)))) ∧ (((type_of% @isPure_sliceT ∧ (type_of% @isPure_sliceA ∧ type_of% @isPure_idxS)) ∧ ((type_of% @isPure_idxA ∧ type_of% @exit_code) ∧ (type_of% @exit_loop ∧ type_of% @exit_scope))) ∧ ((type_of% @exit_begin ∧ (type_of% @exit_block ∧ type_of% @exit_nil)) ∧ ((type_of% @pack_nil ∧ type_of% @pack_one) ∧ (type_of% @pack_two ∧ type_of% @loadV_vec))))) ∧ ((((type_of% @loadV_cells ∧ (type_of% @loadB_agg ∧ type_of% @loadB_one)) ∧ ((type_of% @branch_t ∧ type_of% @branch_f) ∧ (type_of% @prune_nil ∧ type_of% @prune_cons))) ∧ ((type_of% @content_cells ∧ (type_of% @content_vec ∧ type_of% @view_nils)) ∧ ((type_of% @srcLen_nils ∧ type_of% @srcLen_slc) ∧ (type_of% @srcLen_str ∧ type_of% @srcCells_slc)))) ∧ (((type_of% @srcCells_nils ∧ (type_of% @evalOp_append ∧ type_of% @appR_some)) ∧ ((type_of% @evalOp_idxA ∧ type_of% @evalOp_idxS) ∧ (type_of% @idxA_ptr ∧ type_of% @idxA_sptr))) ∧ ((type_of% @idxS_int ∧ (type_of% @idxS2_some ∧ type_of% @List.map_nil.{0, 0})) ∧ ((type_of% @List.map_cons.{0, 0} ∧ type_of% @List.all_nil.{0}) ∧ (type_of% @List.all_cons.{0} ∧ type_of% @true_and)))))) ∧ (((((type_of% @and_true ∧ (type_of% @and_self ∧ type_of% @decide_eq_true)) ∧ ((type_of% @decide_eq_false ∧ type_of% @and_left) ∧ (type_of% @fdiv_pow ∧ type_of% @Int.toNat_natCast))) ∧ ((type_of% @Nat.mul_one ∧ (type_of% @Bool.not_eq_eq_eq_not ∧ type_of% @decide_true)) ∧ ((type_of% @decide_false ∧ type_of% @Nat.zero_lt_one) ∧ (type_of% @List.any_nil.{0} ∧ type_of% @List.nil_append.{0})))) ∧ (((type_of% @beq_true ∧ (type_of% @beq_false ∧ type_of% @Int.fdiv_eq_ediv_of_nonneg)) ∧ ((type_of% @beq_self_eq_true.{0} ∧ type_of% @Bool.not_true) ∧ (type_of% @Bool.not_false ∧ type_of% @wrap_i64))) ∧ ((type_of% @wrap_u64 ∧ (type_of% @wrap_u32 ∧ type_of% @wrap_u16)) ∧ ((type_of% @wrap_i32 ∧ type_of% @wrap_u8) ∧ (type_of% @slen_nils ∧ type_of% @slen_slc))))) ∧ ((((type_of% @slen_imm ∧ (type_of% @Bool.false_eq_true ∧ type_of% @List.getElem?_cons_zero.{0})) ∧ ((type_of% @List.getElem?_cons_succ.{0} ∧ type_of% @List.length_cons.{0}) ∧ (type_of% @List.length_nil.{0} ∧ type_of% @Bool.and_self))) ∧ ((type_of% @Bool.and_true ∧ (type_of% @Bool.true_and ∧ type_of% @List.set_cons_zero.{0})) ∧ ((type_of% @List.set_cons_succ.{0} ∧ type_of% @Nat.zero_add) ∧ (type_of% @Nat.le_refl ∧ type_of% @List.getD_cons_zero.{0})))) ∧ (((type_of% @List.getD_cons_succ.{0} ∧ (type_of% @Nat.min_eq_left ∧ type_of% @Nat.min_eq_right)) ∧ ((type_of% @cells_int ∧ type_of% @cells_bool) ∧ (type_of% @cells_str ∧ type_of% @cells_agg))) ∧ ((type_of% @cells_slc ∧ (type_of% @cells_nils ∧ type_of% @cells_nilp)) ∧ ((type_of% @cells_nilf ∧ type_of% @cells_nilm) ∧ (type_of% @cells_ptr ∧ type_of% @cells_mapv))))))) ∧ ((((((type_of% @cells_fn ∧ (type_of% @cells_imm ∧ type_of% @cellish_int)) ∧ ((type_of% @cellish_bool ∧ type_of% @cellish_str) ∧ (type_of% @cellish_slc ∧ type_of% @cellish_nils))) ∧ ((type_of% @cellish_nilp ∧ (type_of% @cellish_nilf ∧ type_of% @cellish_nilm)) ∧ ((type_of% @cellish_ptr ∧ type_of% @cellish_mapv) ∧ (type_of% @cellish_fn ∧ type_of% @cellish_imm)))) ∧ (((type_of% @loadA_at ∧ (type_of% @storeA_at ∧ type_of% @List.drop_zero.{0})) ∧ ((type_of% @lrec_state ∧ type_of% @lrec_set) ∧ (type_of% @lrec_busy ∧ type_of% @List.any_cons.{0}))) ∧ ((type_of% @Bool.or_false ∧ (type_of% @Bool.or_true ∧ type_of% @Bool.or_self)) ∧ ((type_of% @false_implies ∧ type_of% @implies_true.{1}) ∧ (type_of% @forall_const.{1} ∧ type_of% @Option.getD_some.{0}))))) ∧ ((((type_of% @Option.getD_none.{0} ∧ (type_of% @Res.ok.injEq ∧ type_of% @exists_eq_left.{1})) ∧ ((type_of% @exists_eq_left'.{1} ∧ type_of% @imp_self) ∧ (type_of% @ne_eq.{1} ∧ type_of% @not_false_eq_true))) ∧ ((type_of% @slen_nums ∧ (type_of% @slen_ints ∧ type_of% @slen_recs)) ∧ ((type_of% @view_nums ∧ type_of% @view_ints) ∧ (type_of% @view_recs ∧ type_of% @srcLen_nums)))) ∧ (((type_of% @srcLen_ints ∧ (type_of% @srcLen_recs ∧ type_of% @srcCells_nums)) ∧ ((type_of% @srcCells_ints ∧ type_of% @srcCells_recs) ∧ (type_of% @cells_nums ∧ type_of% @cells_ints))) ∧ ((type_of% @cells_recs ∧ (type_of% @cells_cell ∧ type_of% @cellish_nums)) ∧ ((type_of% @cellish_ints ∧ type_of% @cellish_recs) ∧ (type_of% @cellish_cell ∧ type_of% @load_nums)))))) ∧ (((((type_of% @load_ints ∧ (type_of% @load_cellV ∧ type_of% @slice_nums_from)) ∧ ((type_of% @slice_nums_to ∧ type_of% @slice_nums_both) ∧ (type_of% @slice_nums_cap ∧ type_of% @slice_nums_cap2))) ∧ ((type_of% @slice_nums_all ∧ (type_of% @slice_ints_from ∧ type_of% @slice_ints_to)) ∧ ((type_of% @slice_ints_both ∧ type_of% @at_0) ∧ (type_of% @at_k ∧ type_of% @set_0)))) ∧ (((type_of% @set_k ∧ (type_of% @List.append_assoc.{0} ∧ type_of% @List.cons_append.{0})) ∧ ((type_of% @List.length_append.{0} ∧ type_of% @List.length_set.{0}) ∧ (type_of% @Bool.false_and ∧ type_of% @Bool.and_false))) ∧ ((type_of% @List.take_succ_cons.{0} ∧ (type_of% @List.take_zero.{0} ∧ type_of% @List.take_nil.{0})) ∧ ((type_of% @List.drop_succ_cons.{0} ∧ type_of% @List.drop_nil.{0}) ∧ (type_of% @Option.isSome_some.{0} ∧ type_of% @Option.isSome_none.{0}))))) ∧ ((((type_of% @Option.isNone_some.{0} ∧ (type_of% @Option.isNone_none.{0} ∧ type_of% @Go.Am.BeginK.eq_1)) ∧ ((type_of% @Go.Am.RetK.eq_1 ∧ type_of% @Go.Am.storeB.eq_1) ∧ (type_of% @Go.Am.storeB.eq_2 ∧ type_of% @Go.Am.logAt.eq_1))) ∧ ((type_of% @Go.Am.logAt.eq_2 ∧ (type_of% @Go.Am.Again.eq_1 ∧ type_of% @Go.Am.eqA.eq_1)) ∧ ((type_of% @Go.Am.eqA.eq_3 ∧ type_of% @Go.Am.eqA.eq_4) ∧ (type_of% @Go.Am.eqA.eq_5 ∧ type_of% @Go.Am.eqA.eq_6)))) ∧ (((type_of% @Go.Am.eqA.eq_7 ∧ (type_of% @Go.Am.eqA.eq_9 ∧ type_of% @Go.Am.eqA.eq_10)) ∧ ((type_of% @Go.Am.eqA.eq_11 ∧ type_of% @Go.Am.eqA.eq_12) ∧ (type_of% @Go.Am.eqA.eq_13 ∧ type_of% @Go.Am.eqA.eq_15))) ∧ (((type_of% @Go.Am.eqA.eq_16 ∧ type_of% @Go.Am.eqA.eq_17) ∧ (type_of% @Go.Am.eqA.eq_19 ∧ type_of% @Go.Am.eqCells.eq_1)) ∧ ((type_of% @Go.Am.eqCells.eq_2 ∧ type_of% @Go.Am.eqCell.eq_1) ∧ (type_of% @Go.Am.eqCell.eq_2 ∧ type_of% @Go.Am.eqCell.eq_3))))))))) :=
  ⟨⟨⟨⟨⟨⟨⟨⟨@Go.Am.V.eq_1, ⟨@Go.Am.V.eq_2, @Go.Am.V.eq_3⟩⟩, ⟨⟨@Go.Am.V.eq_4, @Go.Am.V.eq_5⟩, ⟨@Go.Am.V.eq_6, @Go.Am.V.eq_7⟩⟩⟩, ⟨⟨@Go.Am.V.eq_8, ⟨@Go.Am.V.eq_9, @Go.Am.V.eq_10⟩⟩, ⟨⟨@Go.Am.V.eq_11, @Go.Am.V.eq_12⟩, ⟨@Go.Am.V.eq_13, @Go.Am.V.eq_14⟩⟩⟩⟩, ⟨⟨⟨@Go.Am.V.eq_15, ⟨@Go.Am.V.eq_16, @Go.Am.V.eq_17⟩⟩, ⟨⟨@Go.Am.V.eq_18, @Go.Am.V.eq_19⟩, ⟨@Go.Am.V.eq_20, @Go.Am.V.eq_21⟩⟩⟩, ⟨⟨@Go.Am.V.eq_22, ⟨@Go.Am.V.eq_23, @Go.Am.V.eq_24⟩⟩, ⟨⟨@Go.Am.V.eq_25, @Go.Am.GoK.eq_1⟩, ⟨@Go.Am.GoK.eq_2, @Go.Am.GoK.eq_4⟩⟩⟩⟩⟩, ⟨⟨⟨⟨@Go.Am.ResK.eq_1, ⟨@Go.Am.ResK.eq_2, @Go.Am.LeaveK.eq_1⟩⟩, ⟨⟨@Go.Am.LeaveK.eq_2, @Go.Am.JumpK.eq_1⟩, ⟨@Go.Am.JumpK.eq_2, @Go.Am.DResK.eq_1⟩⟩⟩, ⟨⟨@Go.Am.DResK.eq_2, ⟨@Go.Am.DGoK.eq_1, @Go.Am.DGoK.eq_2⟩⟩, ⟨⟨@Go.Am.DGoK.eq_4, @Go.Am.DAtK.eq_1⟩, ⟨@Go.Am.DAtK.eq_2, @Go.Am.Sem'.eq_1⟩⟩⟩⟩, ⟨⟨⟨@Go.Am.Sem'.eq_2, ⟨@Go.Am.Sem'.eq_3, @Go.Am.Sem'.eq_4⟩⟩, ⟨⟨@Go.Am.argRegs.eq_1, @Go.Am.argRegs.eq_2⟩, ⟨@Go.Am.evalOp.eq_1, @Go.Am.evalOp.eq_2⟩⟩⟩, ⟨⟨@Go.Am.evalOp.eq_3, ⟨@Go.Am.evalOp.eq_4, @Go.Am.evalOp.eq_5⟩⟩, ⟨⟨@Go.Am.evalOp.eq_6, @Go.Am.evalOp.eq_7⟩, ⟨@Go.Am.evalOp.eq_8, @Go.Am.evalOp.eq_9⟩⟩⟩⟩⟩⟩, ⟨⟨⟨⟨⟨@Go.Am.evalOp.eq_10, ⟨@Go.Am.evalOp.eq_11, @Go.Am.evalOp.eq_12⟩⟩, ⟨⟨@Go.Am.evalOp.eq_13, @Go.Am.evalOp.eq_14⟩, ⟨@Go.Am.evalOp.eq_18, @Go.Am.evalOp.eq_19⟩⟩⟩, ⟨⟨@Go.Am.evalOp.eq_20, ⟨@Go.Am.evalOp.eq_21, @Go.Am.evalOp.eq_22⟩⟩, ⟨⟨@Go.Am.evalOp.eq_23, @Go.Am.evalOp.eq_24⟩, ⟨@Go.Am.evalOp.eq_25, @Go.Am.evalOp.eq_26⟩⟩⟩⟩, ⟨⟨⟨@Go.Am.evalOp.eq_28, ⟨@Go.Am.evalOp.eq_29, @Go.Am.evalOp.eq_30⟩⟩, ⟨⟨@Go.Am.evalOp.eq_31, @Go.Am.evalOp.eq_32⟩, ⟨@Go.Am.wants.eq_1, @Go.Am.wants.eq_2⟩⟩⟩, ⟨⟨@Go.Am.geto.eq_1, ⟨@Go.Am.geto.eq_2, @Go.Am.rget.eq_1⟩⟩, ⟨⟨@Go.Am.rget.eq_2, @Go.Am.rput.eq_1⟩, ⟨@Go.Am.rput.eq_2, @Go.Am.binA.eq_1⟩⟩⟩⟩⟩, ⟨⟨⟨⟨@Go.Am.binA.eq_2, ⟨@Go.Am.binA.eq_3, @Go.Am.binA.eq_4⟩⟩, ⟨⟨@Go.Am.binA.eq_5, @Go.Am.binA.eq_6⟩, ⟨@Go.Am.binA.eq_7, @Go.Am.binA.eq_8⟩⟩⟩, ⟨⟨@Go.Am.binA.eq_9, ⟨@Go.Am.binA.eq_10, @Go.Am.binA.eq_11⟩⟩, ⟨⟨@Go.Am.binA.eq_12, @Go.Am.binA.eq_13⟩, ⟨@Go.Am.binA.eq_14, @Go.Am.binA.eq_15⟩⟩⟩⟩, ⟨⟨⟨@Go.Am.binA.eq_16, ⟨@Go.Am.binA.eq_17, @Go.Am.binA.eq_18⟩⟩, ⟨⟨@Go.Am.binA.eq_19, @Go.Am.binA.eq_20⟩, ⟨@Go.Am.unA.eq_1, @Go.Am.unA.eq_2⟩⟩⟩, ⟨⟨@Go.Am.unA.eq_4, ⟨@Go.IntKind.bits.eq_1, @Go.IntKind.bits.eq_2⟩⟩, ⟨⟨@Go.IntKind.bits.eq_3, @Go.IntKind.bits.eq_4⟩, ⟨@Go.IntKind.bits.eq_5, @Go.IntKind.bits.eq_6⟩⟩⟩⟩⟩⟩⟩, ⟨⟨⟨⟨⟨⟨@Go.IntKind.bits.eq_7, ⟨@Go.IntKind.bits.eq_8, @Go.Am.logAdd.eq_1⟩⟩, ⟨⟨@Go.Am.recheck.eq_1, @Go.Am.recheck.eq_2⟩, ⟨@Go.Am.resOne.eq_1, @Go.Am.resOne.eq_2⟩⟩⟩, ⟨⟨@Go.Am.resA.eq_1, ⟨@Go.Am.resA.eq_2, @Go.Am.fillParts.eq_1⟩⟩, ⟨⟨@Go.Am.fillParts.eq_2, @Go.Am.fillAt.eq_1⟩, ⟨@Go.Am.fillAt.eq_2, @Go.Am.opdInt.eq_1⟩⟩⟩⟩, ⟨⟨⟨@Go.Am.opdInt.eq_2, ⟨@goK_mov, @dgoK_mov⟩⟩, ⟨⟨@isEff_mov, @isPure_mov⟩, ⟨@goK_pick, @dgoK_pick⟩⟩⟩, ⟨⟨@isEff_pick, ⟨@isPure_pick, @goK_alloc⟩⟩, ⟨⟨@dgoK_alloc, @isEff_alloc⟩, ⟨@isPure_alloc, @goK_box⟩⟩⟩⟩⟩, ⟨⟨⟨⟨@dgoK_box, ⟨@isEff_box, @isPure_box⟩⟩, ⟨⟨@goK_build, @dgoK_build⟩, ⟨@isEff_build, @isPure_build⟩⟩⟩, ⟨⟨@goK_lit, ⟨@dgoK_lit, @isEff_lit⟩⟩, ⟨⟨@isPure_lit, @goK_load⟩, ⟨@dgoK_load, @isEff_load⟩⟩⟩⟩, ⟨⟨⟨@isPure_load, ⟨@goK_store, @dgoK_store⟩⟩, ⟨⟨@isEff_store, @isPure_store⟩, ⟨@goK_bin, @dgoK_bin⟩⟩⟩, ⟨⟨@isEff_bin, ⟨@isPure_bin, @goK_eq⟩⟩, ⟨⟨@dgoK_eq, @isEff_eq⟩, ⟨@isPure_eq, @goK_un⟩⟩⟩⟩⟩⟩, ⟨⟨⟨⟨⟨@dgoK_un, ⟨@isEff_un, @isPure_un⟩⟩, ⟨⟨@goK_conv, @dgoK_conv⟩, ⟨@isEff_conv, @isPure_conv⟩⟩⟩, ⟨⟨@goK_nilc, ⟨@dgoK_nilc, @isEff_nilc⟩⟩, ⟨⟨@isPure_nilc, @goK_field⟩, ⟨@dgoK_field, @isEff_field⟩⟩⟩⟩, ⟨⟨⟨@isPure_field, ⟨@goK_idx, @dgoK_idx⟩⟩, ⟨⟨@isEff_idx, @goK_sidx⟩, ⟨@dgoK_sidx, @isEff_sidx⟩⟩⟩, ⟨⟨@isPure_sidx, ⟨@goK_slice, @dgoK_slice⟩⟩, ⟨⟨@isEff_slice, @goK_toArr⟩, ⟨@dgoK_toArr, @isEff_toArr⟩⟩⟩⟩⟩, ⟨⟨⟨⟨@isPure_toArr, ⟨@goK_len, @dgoK_len⟩⟩, ⟨⟨@isEff_len, @goK_maxmin⟩, ⟨@dgoK_maxmin, @isEff_maxmin⟩⟩⟩, ⟨⟨@isPure_maxmin, ⟨@goK_extract, @dgoK_extract⟩⟩, ⟨⟨@isEff_extract, @isPure_extract⟩, ⟨@goK_mkfn, @dgoK_mkfn⟩⟩⟩⟩, ⟨⟨⟨@isEff_mkfn, ⟨@isPure_mkfn, @goK_append⟩⟩, ⟨⟨@dgoK_append, @isEff_append⟩, ⟨@isPure_append, @goK_mkmap⟩⟩⟩, ⟨⟨@dgoK_mkmap, ⟨@isEff_mkmap, @isPure_mkmap⟩⟩, ⟨⟨@goK_mkslice, @dgoK_mkslice⟩, ⟨@isEff_mkslice, @isPure_mkslice⟩⟩⟩⟩⟩⟩⟩⟩, ⟨⟨⟨⟨⟨⟨⟨@goK_lookup, ⟨@dgoK_lookup, @isEff_lookup⟩⟩, ⟨⟨@isPure_lookup, @goK_mapset⟩, ⟨@dgoK_mapset, @isEff_mapset⟩⟩⟩, ⟨⟨@isPure_mapset, ⟨@isEff_call, @isPure_call⟩⟩, ⟨⟨@isPure_lenS, @isPure_lenT⟩, ⟨@isPure_lenM, @isPure_sliceS⟩⟩⟩⟩, ⟨⟨⟨@isPure_sliceT, ⟨@isPure_sliceA, @isPure_idxS⟩⟩, ⟨⟨@isPure_idxA, @exit_code⟩, ⟨@exit_loop, @exit_scope⟩⟩⟩, ⟨⟨@exit_begin, ⟨@exit_block, @exit_nil⟩⟩, ⟨⟨@pack_nil, @pack_one⟩, ⟨@pack_two, @loadV_vec⟩⟩⟩⟩⟩, ⟨⟨⟨⟨@loadV_cells, ⟨@loadB_agg, @loadB_one⟩⟩, ⟨⟨@branch_t, @branch_f⟩, ⟨@prune_nil, @prune_cons⟩⟩⟩, ⟨⟨@content_cells, ⟨@content_vec, @view_nils⟩⟩, ⟨⟨@srcLen_nils, @srcLen_slc⟩, ⟨@srcLen_str, @srcCells_slc⟩⟩⟩⟩, ⟨⟨⟨@srcCells_nils, ⟨@evalOp_append, @appR_some⟩⟩, ⟨⟨@evalOp_idxA, @evalOp_idxS⟩, ⟨@idxA_ptr, @idxA_sptr⟩⟩⟩, ⟨⟨@idxS_int, ⟨@idxS2_some, @List.map_nil.{0, 0}⟩⟩, ⟨⟨@List.map_cons.{0, 0}, @List.all_nil.{0}⟩, ⟨@List.all_cons.{0}, @true_and⟩⟩⟩⟩⟩⟩, ⟨⟨⟨⟨⟨@and_true, ⟨@and_self, @decide_eq_true⟩⟩, ⟨⟨@decide_eq_false, @and_left⟩, ⟨@fdiv_pow, @Int.toNat_natCast⟩⟩⟩, ⟨⟨@Nat.mul_one, ⟨@Bool.not_eq_eq_eq_not, @decide_true⟩⟩, ⟨⟨@decide_false, @Nat.zero_lt_one⟩, ⟨@List.any_nil.{0}, @List.nil_append.{0}⟩⟩⟩⟩, ⟨⟨⟨@beq_true, ⟨@beq_false, @Int.fdiv_eq_ediv_of_nonneg⟩⟩, ⟨⟨@beq_self_eq_true.{0}, @Bool.not_true⟩, ⟨@Bool.not_false, @wrap_i64⟩⟩⟩, ⟨⟨@wrap_u64, ⟨@wrap_u32, @wrap_u16⟩⟩, ⟨⟨@wrap_i32, @wrap_u8⟩, ⟨@slen_nils, @slen_slc⟩⟩⟩⟩⟩, ⟨⟨⟨⟨@slen_imm, ⟨@Bool.false_eq_true, @List.getElem?_cons_zero.{0}⟩⟩, ⟨⟨@List.getElem?_cons_succ.{0}, @List.length_cons.{0}⟩, ⟨@List.length_nil.{0}, @Bool.and_self⟩⟩⟩, ⟨⟨@Bool.and_true, ⟨@Bool.true_and, @List.set_cons_zero.{0}⟩⟩, ⟨⟨@List.set_cons_succ.{0}, @Nat.zero_add⟩, ⟨@Nat.le_refl, @List.getD_cons_zero.{0}⟩⟩⟩⟩, ⟨⟨⟨@List.getD_cons_succ.{0}, ⟨@Nat.min_eq_left, @Nat.min_eq_right⟩⟩, ⟨⟨@cells_int, @cells_bool⟩, ⟨@cells_str, @cells_agg⟩⟩⟩, ⟨⟨@cells_slc, ⟨@cells_nils, @cells_nilp⟩⟩, ⟨⟨@cells_nilf, @cells_nilm⟩, ⟨@cells_ptr, @cells_mapv⟩⟩⟩⟩⟩⟩⟩, ⟨⟨⟨⟨⟨⟨@cells_fn, ⟨@cells_imm, @cellish_int⟩⟩, ⟨⟨@cellish_bool, @cellish_str⟩, ⟨@cellish_slc, @cellish_nils⟩⟩⟩, ⟨⟨@cellish_nilp, ⟨@cellish_nilf, @cellish_nilm⟩⟩, ⟨⟨@cellish_ptr, @cellish_mapv⟩, ⟨@cellish_fn, @cellish_imm⟩⟩⟩⟩, ⟨⟨⟨@loadA_at, ⟨@storeA_at, @List.drop_zero.{0}⟩⟩, ⟨⟨@lrec_state, @lrec_set⟩, ⟨@lrec_busy, @List.any_cons.{0}⟩⟩⟩, ⟨⟨@Bool.or_false, ⟨@Bool.or_true, @Bool.or_self⟩⟩, ⟨⟨@false_implies, @implies_true.{1}⟩, ⟨@forall_const.{1}, @Option.getD_some.{0}⟩⟩⟩⟩⟩, ⟨⟨⟨⟨@Option.getD_none.{0}, ⟨@Res.ok.injEq, @exists_eq_left.{1}⟩⟩, ⟨⟨@exists_eq_left'.{1}, @imp_self⟩, ⟨@ne_eq.{1}, @not_false_eq_true⟩⟩⟩, ⟨⟨@slen_nums, ⟨@slen_ints, @slen_recs⟩⟩, ⟨⟨@view_nums, @view_ints⟩, ⟨@view_recs, @srcLen_nums⟩⟩⟩⟩, ⟨⟨⟨@srcLen_ints, ⟨@srcLen_recs, @srcCells_nums⟩⟩, ⟨⟨@srcCells_ints, @srcCells_recs⟩, ⟨@cells_nums, @cells_ints⟩⟩⟩, ⟨⟨@cells_recs, ⟨@cells_cell, @cellish_nums⟩⟩, ⟨⟨@cellish_ints, @cellish_recs⟩, ⟨@cellish_cell, @load_nums⟩⟩⟩⟩⟩⟩, ⟨⟨⟨⟨⟨@load_ints, ⟨@load_cellV, @slice_nums_from⟩⟩, ⟨⟨@slice_nums_to, @slice_nums_both⟩, ⟨@slice_nums_cap, @slice_nums_cap2⟩⟩⟩, ⟨⟨@slice_nums_all, ⟨@slice_ints_from, @slice_ints_to⟩⟩, ⟨⟨@slice_ints_both, @at_0⟩, ⟨@at_k, @set_0⟩⟩⟩⟩, ⟨⟨⟨@set_k, ⟨@List.append_assoc.{0}, @List.cons_append.{0}⟩⟩, ⟨⟨@List.length_append.{0}, @List.length_set.{0}⟩, ⟨@Bool.false_and, @Bool.and_false⟩⟩⟩, ⟨⟨@List.take_succ_cons.{0}, ⟨@List.take_zero.{0}, @List.take_nil.{0}⟩⟩, ⟨⟨@List.drop_succ_cons.{0}, @List.drop_nil.{0}⟩, ⟨@Option.isSome_some.{0}, @Option.isSome_none.{0}⟩⟩⟩⟩⟩, ⟨⟨⟨⟨@Option.isNone_some.{0}, ⟨@Option.isNone_none.{0}, @Go.Am.BeginK.eq_1⟩⟩, ⟨⟨@Go.Am.RetK.eq_1, @Go.Am.storeB.eq_1⟩, ⟨@Go.Am.storeB.eq_2, @Go.Am.logAt.eq_1⟩⟩⟩, ⟨⟨@Go.Am.logAt.eq_2, ⟨@Go.Am.Again.eq_1, @Go.Am.eqA.eq_1⟩⟩, ⟨⟨@Go.Am.eqA.eq_3, @Go.Am.eqA.eq_4⟩, ⟨@Go.Am.eqA.eq_5, @Go.Am.eqA.eq_6⟩⟩⟩⟩, ⟨⟨⟨@Go.Am.eqA.eq_7, ⟨@Go.Am.eqA.eq_9, @Go.Am.eqA.eq_10⟩⟩, ⟨⟨@Go.Am.eqA.eq_11, @Go.Am.eqA.eq_12⟩, ⟨@Go.Am.eqA.eq_13, @Go.Am.eqA.eq_15⟩⟩⟩, ⟨⟨⟨@Go.Am.eqA.eq_16, @Go.Am.eqA.eq_17⟩, ⟨@Go.Am.eqA.eq_19, @Go.Am.eqCells.eq_1⟩⟩, ⟨⟨@Go.Am.eqCells.eq_2, @Go.Am.eqCell.eq_1⟩, ⟨@Go.Am.eqCell.eq_2, @Go.Am.eqCell.eq_3⟩⟩⟩⟩⟩⟩⟩⟩⟩

set_option linter.unusedVariables false

/-! ### Ranges whose bodies write to variables alone -/

abbrev Var := Nat × TypeId × (Nat → AVal)

/-- The variables' values behind j rounds. -/
def Vars (vs : List Var) (j : Nat) (H : AHeap) : Prop := ∀ v ∈ vs, H[v.1]? = some (.cells [v.2.2 j] v.2.1)

theorem Vars.get {vs : List Var} {j : Nat} {H : AHeap} (h : Vars vs j H) {c : Nat} {T : TypeId} {f : Nat → AVal} (hv : (c, T, f) ∈ vs) : H[c]? = some (.cells [f j] T) := h _ hv

def varsJ (vs : List Var) (j : Nat) (fp : List Nat) (H : AHeap) : Prop := fp = vs.map (·.1) ∧ Vars vs j H

theorem varsJ_foot (vs : List Var) (j : Nat) : Foot (varsJ vs j) where
  lt := by
    rintro fp H ⟨rfl, h⟩ m hm
    obtain ⟨v, hv, rfl⟩ := List.mem_map.1 hm
    exact (List.getElem?_eq_some_iff.1 (h v hv)).1
  stable := by
    rintro fp H H' ⟨rfl, h⟩ hle hk
    exact ⟨rfl, fun v hv => (hk v.1 (List.mem_map.2 ⟨v, hv, rfl⟩)).trans (h v hv)⟩

/-- How a round ends. -/
def VarsQ (vs : List Var) (n : Nat) (L : LoopState → Option AJump → ALoop) (j : Nat) (stop : Option AJump) (H1 : AHeap) (av : AVal) (H' : AHeap) : Prop :=
  H1.length ≤ H'.length ∧ (∀ m, m < H1.length → m ≠ n → m ∉ vs.map (·.1) → H'[m]? = H1[m]?) ∧ Vars vs (j + 1) H' ∧ av = .bool stop.isNone ∧ H'[n]? = some (.loop (L (if stop.isNone then .ready else .done) stop))

section
variable {P : Program} {c : Ctx} {k : List AItem} {r : Regs} {H : AHeap} {Q : AVal → AHeap → Prop}

theorem range_vars {f : AOpd} {ps : List Nat} {as bd : ACode} {g : FuncId} {first captured : List AVal} (hf : geto r f = .fn g first captured) (hrd : ∀ n, c.rd = some n → ∃ L, H[n]? = some (.loop L))
    {item : Nat → List AVal} {len : Nat} (hitem : ∀ j, (item j).length = ps.length) (vs : List Var) (stop : Nat → Option AJump) (h0 : Vars vs 0 H)
    (hbody : ∀ as' bd' j H1, j < len → (∀ i, i < j → stop i = none) → H.length < H1.length → (∀ m, m < H.length → m ∉ vs.map (·.1) → H1[m]? = H[m]?) → H1[H.length]? = some (.loop (lrec c r ps as' bd' .ready none)) → Vars vs j H1 →
      Run P ⟨c.fn, c.nt, [], some H.length⟩ [.code as, .begin, .code bd] ((ps.zip (item j)).reverse ++ r) H1 (VarsQ vs H.length (lrec c r ps as' bd') j (stop j) H1))
    (hiter : ∀ H1, H1.length = H.length + 1 → (∀ m, m < H.length → H1[m]? = H[m]?) → Iter P g (first ++ [.yld H.length] ++ captured) H.length item len [] H1)
    (hend : ∀ H', H.length < H'.length → (∀ m, m < H.length → m ∉ vs.map (·.1) → H'[m]? = H[m]?) → (∀ i, i < len → stop i = none) → Vars vs len H' → Run P c k r H' Q)
    (hstop : ∀ ap j H', H.length < H'.length → (∀ m, m < H.length → m ∉ vs.map (·.1) → H'[m]? = H[m]?) → j < len → stop j = some ap → (∀ i, i < j → stop i = none) → Vars vs (j + 1) H' → Run P c (jumpItems (some ap) ++ k) r H' Q) :
    Run P c (.code (.range f ps as bd) :: k) r H Q := by
  have hlt : ∀ m ∈ vs.map (·.1), m < H.length := fun m hm => by
    obtain ⟨v, hv, rfl⟩ := List.mem_map.1 hm
    exact (List.getElem?_eq_some_iff.1 (h0 v hv)).1
  let J : Nat → List Nat → AHeap → Prop := fun j fp H' => varsJ vs j fp H' ∧ (∀ i, i < j → stop i = none)
  let S : AJump → Nat → List Nat → AHeap → Prop := fun ap j fp H' => varsJ vs j fp H' ∧ ∃ i, j = i + 1 ∧ i < len ∧ stop i = some ap ∧ ∀ i', i' < i → stop i' = none
  have hJ : ∀ j, Foot (J j) := fun j => ⟨fun fp H' h => (varsJ_foot vs j).lt fp H' h.1, fun fp H' H2 h hle hk => ⟨(varsJ_foot vs j).stable fp H' H2 h.1 hle hk, h.2⟩⟩
  have hS : ∀ ap j, Foot (S ap j) := fun ap j => ⟨fun fp H' h => (varsJ_foot vs j).lt fp H' h.1, fun fp H' H2 h hle hk => ⟨(varsJ_foot vs j).stable fp H' H2 h.1 hle hk, h.2⟩⟩
  -- other blocks stay, too
  let J2 : Nat → List Nat → AHeap → Prop := fun j fp H' => J j fp H'
  have hfeet : (∀ as' bd' j fp H1, j < len → H.length ∉ fp → H.length < H1.length → H1[H.length]? = some (.loop (lrec c r ps as' bd' .ready none)) → J j fp H1 → True) := fun _ _ _ _ _ _ _ _ _ _ => trivial
  let K : Nat → List Nat → AHeap → Prop := fun j fp H' => ∃ fp1, fp = fp1 ++ (List.range H.length).filter (fun m => !(vs.map (·.1)).contains m) ∧ J j fp1 H' ∧ (∀ m, m < H.length → m ∉ vs.map (·.1) → H'[m]? = H[m]?) ∧ H.length ≤ H'.length
  let KS : AJump → Nat → List Nat → AHeap → Prop := fun ap j fp H' => ∃ fp1, fp = fp1 ++ (List.range H.length).filter (fun m => !(vs.map (·.1)).contains m) ∧ S ap j fp1 H' ∧ (∀ m, m < H.length → m ∉ vs.map (·.1) → H'[m]? = H[m]?) ∧ H.length ≤ H'.length
  have hmem : ∀ m, m < H.length → m ∉ vs.map (·.1) → m ∈ (List.range H.length).filter (fun m => !(vs.map (·.1)).contains m) := fun m h1 h2 => by
    rw [List.mem_filter]; exact ⟨List.mem_range.2 h1, by simpa using h2⟩
  have hmem2 : ∀ m ∈ (List.range H.length).filter (fun m => !(vs.map (·.1)).contains m), m < H.length := fun m hm => by
    rw [List.mem_filter] at hm; exact List.mem_range.1 hm.1
  have hK : ∀ j, Foot (K j) := fun j => {
    lt := by
      rintro fp H' ⟨fp1, rfl, h1, h2, h3⟩ m hm
      rcases List.mem_append.1 hm with hm | hm
      · exact (hJ j).lt _ _ h1 m hm
      · exact Nat.lt_of_lt_of_le (hmem2 m hm) h3
    stable := by
      rintro fp H' H2 ⟨fp1, rfl, h1, h2, h3⟩ hle hk
      exact ⟨fp1, rfl, (hJ j).stable _ _ _ h1 hle (fun m hm => hk m (by simp [hm])), fun m a b => (hk m (List.mem_append_right _ (hmem m a b))).trans (h2 m a b), Nat.le_trans h3 hle⟩ }
  have hKS : ∀ ap j, Foot (KS ap j) := fun ap j => {
    lt := by
      rintro fp H' ⟨fp1, rfl, h1, h2, h3⟩ m hm
      rcases List.mem_append.1 hm with hm | hm
      · exact (hS ap j).lt _ _ h1 m hm
      · exact Nat.lt_of_lt_of_le (hmem2 m hm) h3
    stable := by
      rintro fp H' H2 ⟨fp1, rfl, h1, h2, h3⟩ hle hk
      exact ⟨fp1, rfl, (hS ap j).stable _ _ _ h1 hle (fun m hm => hk m (by simp [hm])), fun m a b => (hk m (List.mem_append_right _ (hmem m a b))).trans (h2 m a b), Nat.le_trans h3 hle⟩ }
  refine range_of hf hrd hitem K KS hK hKS (fp0 := vs.map (·.1) ++ (List.range H.length).filter (fun m => !(vs.map (·.1)).contains m)) ⟨_, rfl, ⟨⟨rfl, h0⟩, fun i hi => by omega⟩, fun _ _ _ => rfl, Nat.le_refl _⟩ ?_ [] (by simp) hiter ?_ ?_
  · rintro as' bd' j fp H1 hj hn hl hrec ⟨fp1, rfl, ⟨⟨rfl, hv⟩, hst⟩, hk, hle⟩
    refine (hbody as' bd' j H1 hj hst hl hk hrec hv).mono ?_
    rintro av H' ⟨q1, q2, q3, rfl, q5⟩
    have hk' : ∀ m, m < H.length → m ∉ vs.map (·.1) → H'[m]? = H[m]? := fun m h1 h2 => by rw [q2 m (by omega) (by omega) h2, hk m h1 h2]
    refine ⟨_, ⟨q1, fun m hm => .inl hm, fun m hm hf => ?_⟩, hn, ?_⟩
    · simp only [List.mem_cons, not_or, List.mem_append] at hf
      exact q2 m hm hf.1 hf.2.1
    · cases hs : stop j with
      | none =>
        rw [hs] at q5
        refine .inl ⟨rfl, q5, _, rfl, ⟨⟨rfl, q3⟩, fun i hi => ?_⟩, hk', by omega⟩
        by_cases hij : i < j
        · exact hst i hij
        · have : i = j := by omega
          subst this; exact hs
      | some ap =>
        rw [hs] at q5
        exact .inr ⟨ap, rfl, q5, _, rfl, ⟨⟨rfl, q3⟩, j, rfl, hj, hs, hst⟩, hk', by omega⟩
  · rintro fp H' hl hk ⟨fp1, rfl, ⟨⟨rfl, hv⟩, hst⟩, hk2, hle⟩
    exact hend H' hl hk2 hst hv
  · rintro ap j fp H' hl hk ⟨fp1, rfl, ⟨⟨rfl, hv⟩, i, rfl, hi, hs, hst⟩, hk2, hle⟩
    exact hstop ap i H' hl hk2 hi hs hst hv

end

theorem varsQ_mk {vs : List Var} {n : Nat} {L : LoopState → Option AJump → ALoop} {j : Nat} {stop : Option AJump} {H1 : AHeap} {av : AVal} {H' : AHeap} (hs : av = .bool stop.isNone) (h1 : H1.length ≤ H'.length) (h2 : ∀ m, m < H1.length → m ≠ n → m ∉ vs.map (·.1) → H'[m]? = H1[m]?) (h3 : Vars vs (j + 1) H') (h5 : H'[n]? = some (.loop (L (if stop.isNone then .ready else .done) stop))) : VarsQ vs n L j stop H1 av H' := ⟨h1, h2, h3, hs, h5⟩

theorem vars_nil {j : Nat} {H : AHeap} : Vars [] j H := fun v hv => by cases hv
theorem vars_cons {v : Var} {vs : List Var} {j : Nat} {H : AHeap} (h : H[v.1]? = some (.cells [v.2.2 j] v.2.1)) (hs : Vars vs j H) : Vars (v :: vs) j H := fun u hu => by
  rcases List.mem_cons.1 hu with rfl | hu
  · exact h
  · exact hs u hu

theorem exit_fin {P : Program} {c : Ctx} {Q : AVal → AHeap → Prop} {n id : Nat} {L : ALoop} {r : Regs} {H : AHeap} (hrd : c.rd = some n) (hn : H[n]? = some (.loop L)) (hq : Q (.bool false) (H.set n (.loop { L with state := .done, pending := some (.exit id) }))) : Am.Exit P c id [] r H Q := .inr ⟨rfl, n, L, hrd, hn, hq⟩

theorem ice_vec {H L : AHeap} {Q : AVal → AHeap → Prop} {w n : Nat} {el : TypeId} {cs : List AVal} (hl : cs.length = n * w) (hc : closeds H.length cs) (hq : Q (.imm cs n false) H) : IceQ H Q (.slc H.length 0 n w) (H ++ .vec cs el w :: L) :=
  ice_own (keeps_append _ _) ⟨hl, .inr ⟨H.length, Nat.le_refl _, rfl, at_0⟩⟩ hc hq
theorem ice_nils {H H' : AHeap} {Q : AVal → AHeap → Prop} (hk : Keeps H H') (hq : Q (.imm [] 0 false) H) : IceQ H Q .nils H' :=
  ice_own (w := 1) (el := 0) hk Own.nil trivial hq

/-- A list of numbers that is handed in. -/
theorem nums_fits {k : IntKind} (hs : k.signed = false) {a : AVal} (h : FitsA (.slice (.int k)) a) : ∃ bs : List Nat, Sees a (nums k false bs) ∧ (∀ b ∈ bs, (Lit.int k (b : Int)).wf = true) ∧ bs.length ≤ 9223372036854775807 := by
  obtain ⟨bs, h1, h2, h3⟩ := nats_of_fits (H := []) hs h
  refine ⟨bs, ?_, h2, h3⟩
  rcases h with h | ⟨gs, tight, hg, h, hl⟩
  · cases h
    have : bs = [] := List.length_eq_zero_iff.1 (by have := h1.len; simpa [slen] using this.symm)
    subst this
    exact Sees.nils false
  · cases h
    have hv := h1.view
    have hl := h1.len
    simp only [view, slen, Option.some.injEq] at hv hl
    rw [hv, hl]
    exact Sees.loose _ _ _

theorem list_set_get {α : Type} {l : List α} {i j : Nat} {x : α} : (l.set i x)[j]? = if i = j then (if i < l.length then some x else none) else l[j]? := by
  rw [List.getElem?_set]

end Go.Am

namespace Go.Am
open Go
set_option linter.unusedVariables false

/-! ### Ranges whose bodies append to one list, too -/

structure Acc where
  c : Nat
  T : TypeId
  w : Nat
  el : TypeId
  B : Nat
  n : Nat → Nat
  cs : Nat → List AVal

/-- The list's variable, and the list, behind j rounds. -/
def Acc.at_ (A : Acc) (j : Nat) (H : AHeap) (a : AVal) : Prop := H[A.c]? = some (.cells [a] A.T) ∧ Own A.w A.el A.B H a (A.n j) (A.cs j)

theorem Acc.var {A : Acc} {j : Nat} {H : AHeap} {a : AVal} (h : A.at_ j H a) : H[A.c]? = some (.cells [a] A.T) := h.1

theorem Own.ne {w : Nat} {el : TypeId} {B : Nat} {H : AHeap} {a : AVal} {n : Nat} {cs : List AVal} (h : Own w el B H a n cs) {c : Nat} {l : List AVal} {T : TypeId} (hc : H[c]? = some (.cells l T)) : c ∉ a.names := by
  rcases h.is with ⟨rfl, _⟩ | ⟨m, _, rfl, hm⟩
  · simp [AVal.names]
  · simp only [AVal.names, List.mem_singleton]
    rintro rfl
    rw [hm] at hc; cases hc

theorem Own.ne_loop {w : Nat} {el : TypeId} {B : Nat} {H : AHeap} {a : AVal} {n : Nat} {cs : List AVal} (h : Own w el B H a n cs) {c : Nat} {L : ALoop} (hc : H[c]? = some (.loop L)) : c ∉ a.names := by
  rcases h.is with ⟨rfl, _⟩ | ⟨m, _, rfl, hm⟩
  · simp [AVal.names]
  · simp only [AVal.names, List.mem_singleton]
    rintro rfl
    rw [hm] at hc; cases hc

theorem Own.ne_map {w : Nat} {el : TypeId} {B : Nat} {H : AHeap} {a : AVal} {n : Nat} {cs : List AVal} (h : Own w el B H a n cs) {c : Nat} {es : List (AVal × AVal)} (hc : H[c]? = some (.map es)) : c ∉ a.names := by
  rcases h.is with ⟨rfl, _⟩ | ⟨m, _, rfl, hm⟩
  · simp [AVal.names]
  · simp only [AVal.names, List.mem_singleton]
    rintro rfl
    rw [hm] at hc; cases hc

/-- How a round ends. -/
def AccQ (vs : List Var) (A : Acc) (n : Nat) (L : LoopState → Option AJump → ALoop) (j : Nat) (stop : Option AJump) (a : AVal) (H1 : AHeap) (av : AVal) (H' : AHeap) : Prop :=
  H1.length ≤ H'.length ∧ (∀ m, m < H1.length → m ≠ n → m ∉ vs.map (·.1) → m ≠ A.c → m ∉ a.names → H'[m]? = H1[m]?) ∧ Vars vs (j + 1) H' ∧ (∃ a', A.at_ (j + 1) H' a' ∧ ∀ m ∈ a'.names, m ∈ a.names ∨ H1.length ≤ m) ∧
    av = .bool stop.isNone ∧ H'[n]? = some (.loop (L (if stop.isNone then .ready else .done) stop))

section
variable {P : Program} {c : Ctx} {k : List AItem} {r : Regs} {H : AHeap} {Q : AVal → AHeap → Prop}

theorem range_acc {f : AOpd} {ps : List Nat} {as bd : ACode} {g : FuncId} {first captured : List AVal} (hf : geto r f = .fn g first captured) (hrd : ∀ n, c.rd = some n → ∃ L, H[n]? = some (.loop L))
    {item : Nat → List AVal} {len : Nat} (hitem : ∀ j, (item j).length = ps.length) (vs : List Var) (A : Acc) (stop : Nat → Option AJump) {a0 : AVal} (h0 : Vars vs 0 H) (h0a : A.at_ 0 H a0)
    (hbody : ∀ as' bd' j H1 a, j < len → (∀ i, i < j → stop i = none) → H.length < H1.length → (∀ m, m < H.length → m ∉ vs.map (·.1) → m ≠ A.c → m ∉ a0.names → H1[m]? = H[m]?) → H1[H.length]? = some (.loop (lrec c r ps as' bd' .ready none)) → Vars vs j H1 → A.at_ j H1 a →
      Run P ⟨c.fn, c.nt, [], some H.length⟩ [.code as, .begin, .code bd] ((ps.zip (item j)).reverse ++ r) H1 (AccQ vs A H.length (lrec c r ps as' bd') j (stop j) a H1))
    (hiter : ∀ H1, H1.length = H.length + 1 → (∀ m, m < H.length → H1[m]? = H[m]?) → Iter P g (first ++ [.yld H.length] ++ captured) H.length item len [] H1)
    (hend : ∀ H' a, H.length < H'.length → (∀ m, m < H.length → m ∉ vs.map (·.1) → m ≠ A.c → m ∉ a0.names → H'[m]? = H[m]?) → (∀ i, i < len → stop i = none) → Vars vs len H' → A.at_ len H' a → Run P c k r H' Q)
    (hstop : ∀ ap j H' a, H.length < H'.length → (∀ m, m < H.length → m ∉ vs.map (·.1) → m ≠ A.c → m ∉ a0.names → H'[m]? = H[m]?) → j < len → stop j = some ap → (∀ i, i < j → stop i = none) → Vars vs (j + 1) H' → A.at_ (j + 1) H' a → Run P c (jumpItems (some ap) ++ k) r H' Q) :
    Run P c (.code (.range f ps as bd) :: k) r H Q := by
  let other : List Nat := (List.range H.length).filter (fun m => !(vs.map (·.1)).contains m && !(m == A.c) && !a0.names.contains m)
  have hother : ∀ m, m ∈ other ↔ m < H.length ∧ m ∉ vs.map (·.1) ∧ m ≠ A.c ∧ m ∉ a0.names := fun m => by
    simp only [other, List.mem_filter, List.mem_range, Bool.and_eq_true, Bool.not_eq_true', beq_eq_false_iff_ne, List.contains_eq_mem, decide_eq_false_iff_not, and_assoc]
  -- what is known behind j rounds
  let G : Nat → List Nat → AHeap → Prop := fun j fp H' => ∃ a, fp = vs.map (·.1) ++ A.c :: (a.names ++ other) ∧ Vars vs j H' ∧ A.at_ j H' a ∧ (∀ m ∈ other, H'[m]? = H[m]?) ∧ H.length ≤ H'.length ∧ ∀ m ∈ a.names, m ∈ a0.names ∨ H.length ≤ m
  have hG : ∀ j, Foot (G j) := fun j => {
    lt := by
      rintro fp H' ⟨a, rfl, h1, h2, h3, h4, h5⟩ m hm
      simp only [List.mem_append, List.mem_cons] at hm
      rcases hm with hm | rfl | hm | hm
      · obtain ⟨v, hv, rfl⟩ := List.mem_map.1 hm
        exact (List.getElem?_eq_some_iff.1 (h1 v hv)).1
      · exact (List.getElem?_eq_some_iff.1 h2.1).1
      · exact (h2.2.lt m hm).2
      · exact Nat.lt_of_lt_of_le ((hother m).1 hm).1 h4
    stable := by
      rintro fp H' H2 ⟨a, rfl, h1, h2, h3, h4, h5⟩ hle hk
      exact ⟨a, rfl, fun v hv => (hk v.1 (by simp; exact .inl ⟨_, _, hv⟩)).trans (h1 v hv), ⟨(hk A.c (by simp)).trans h2.1, h2.2.moved fun m hm => hk m (by simp [hm])⟩, fun m hm => (hk m (by simp [hm])).trans (h3 m hm), Nat.le_trans h4 hle, h5⟩ }
  refine range_of hf hrd hitem (fun j fp H' => G j fp H' ∧ ∀ i, i < j → stop i = none) (fun ap j fp H' => G j fp H' ∧ ∃ i, j = i + 1 ∧ i < len ∧ stop i = some ap ∧ ∀ i', i' < i → stop i' = none)
    (fun j => ⟨fun fp H' h => (hG j).lt fp H' h.1, fun fp H' H2 h hle hk => ⟨(hG j).stable fp H' H2 h.1 hle hk, h.2⟩⟩)
    (fun ap j => ⟨fun fp H' h => (hG j).lt fp H' h.1, fun fp H' H2 h hle hk => ⟨(hG j).stable fp H' H2 h.1 hle hk, h.2⟩⟩)
    (fp0 := vs.map (·.1) ++ A.c :: (a0.names ++ other)) ⟨⟨a0, rfl, h0, h0a, fun _ _ => rfl, Nat.le_refl _, fun m hm => .inl hm⟩, fun i hi => by omega⟩ ?_ [] (by simp) hiter ?_ ?_
  · rintro as' bd' j fp H1 hj hn hl hrec ⟨⟨a, rfl, hv, ha, ho, hle, hnm⟩, hst⟩
    have hkm : ∀ m, m < H.length → m ∉ vs.map (·.1) → m ≠ A.c → m ∉ a0.names → H1[m]? = H[m]? := fun m a b c d => ho m ((hother m).2 ⟨a, b, c, d⟩)
    refine (hbody as' bd' j H1 a hj hst hl hkm hrec hv ha).mono ?_
    rintro av H' ⟨q1, q2, q3, ⟨a', q4, q5⟩, rfl, q6⟩
    have hn' : H.length ∉ vs.map (·.1) ++ A.c :: (a'.names ++ other) := by
      intro hm
      simp only [List.mem_append, List.mem_cons] at hm hn
      rcases hm with hm | hm | hm | hm
      · exact hn (.inl hm)
      · exact hn (.inr (.inl hm))
      · rcases q5 _ hm with h | h
        · exact hn (.inr (.inr (.inl h)))
        · omega
      · exact hn (.inr (.inr (.inr hm)))
    have ho' : ∀ m ∈ other, H'[m]? = H[m]? := fun m hm => by
      obtain ⟨h1, h2, h3, h4⟩ := (hother m).1 hm
      rw [q2 m (by omega) (by omega) h2 h3 ?_, ho m hm]
      intro h5
      rcases hnm m h5 with h6 | h6
      · exact h4 h6
      · omega
    have hg : G (j + 1) (vs.map (·.1) ++ A.c :: (a'.names ++ other)) H' := ⟨a', rfl, q3, q4, ho', by omega, fun m hm => by
      rcases q5 m hm with h | h
      · exact hnm m h
      · exact .inr (by omega)⟩
    refine ⟨_, ⟨q1, fun m hm => ?_, fun m hm hf => ?_⟩, hn', ?_⟩
    · simp only [List.mem_append, List.mem_cons] at hm ⊢
      rcases hm with rfl | hm | rfl | hm | hm
      · exact .inl (.inl rfl)
      · exact .inl (.inr (.inl hm))
      · exact .inl (.inr (.inr (.inl rfl)))
      · rcases q5 m hm with h | h
        · exact .inl (.inr (.inr (.inr (.inl h))))
        · exact .inr h
      · exact .inl (.inr (.inr (.inr (.inr hm))))
    · simp only [List.mem_append, List.mem_cons, not_or] at hf
      exact q2 m hm hf.1 hf.2.1 hf.2.2.1 hf.2.2.2.1
    · cases hs : stop j with
      | none =>
        rw [hs] at q6
        refine .inl ⟨rfl, q6, hg, fun i hi => ?_⟩
        by_cases hij : i < j
        · exact hst i hij
        · have : i = j := by omega
          subst this; exact hs
      | some ap =>
        rw [hs] at q6
        exact .inr ⟨ap, rfl, q6, hg, j, rfl, hj, hs, hst⟩
  · rintro fp H' hl hk ⟨⟨a, rfl, hv, ha, ho, hle, hnm⟩, hst⟩
    exact hend H' a hl (fun m a b c d => ho m ((hother m).2 ⟨a, b, c, d⟩)) hst hv ha
  · rintro ap j fp H' hl hk ⟨⟨a, rfl, hv, ha, ho, hle, hnm⟩, i, rfl, hi, hs, hst⟩
    exact hstop ap i H' a hl (fun m a b c d => ho m ((hother m).2 ⟨a, b, c, d⟩)) hi hs hst hv ha

end

/-- What a method's end is asked that writes to one block that was there. -/
def MutQ (H : AHeap) (p : Nat) (Q : AVal → AHeap → Prop) (av : AVal) (H' : AHeap) : Prop :=
  H.length ≤ H'.length ∧ (∀ n, n < H.length → n ≠ p → H'[n]? = H[n]?) ∧ ∃ b, H'[p]? = some b ∧ closedB H.length b ∧ closed H.length av ∧ Q av (H.set p b)

theorem mut_mk {H H' : AHeap} {p : Nat} {Q : AVal → AHeap → Prop} {av : AVal} {b : ABlk} (h1 : H.length ≤ H'.length) (h2 : ∀ n, n < H.length → n ≠ p → H'[n]? = H[n]?) (h3 : H'[p]? = some b) (h4 : closedB H.length b) (h5 : closed H.length av) (h6 : Q av (H.set p b)) : MutQ H p Q av H' := ⟨h1, h2, b, h3, h4, h5, h6⟩

/-- Nothing has been written. -/
theorem mut_same {H L : AHeap} {p : Nat} {Q : AVal → AHeap → Prop} {av : AVal} {b : ABlk} (hb : H[p]? = some b) (h4 : closedB H.length b) (h5 : closed H.length av) (h6 : Q av (H.set p b)) : MutQ H p Q av (H ++ L) :=
  ⟨by simp, fun n hn _ => List.getElem?_append_left hn, b, (List.getElem?_append_left (List.getElem?_eq_some_iff.1 hb).1).trans hb, h4, h5, h6⟩

/-- One thing has been written. -/
theorem mut_set {H L : AHeap} {p : Nat} {Q : AVal → AHeap → Prop} {av : AVal} {b : ABlk} (hp : p < H.length) (h4 : closedB H.length b) (h5 : closed H.length av) (h6 : Q av (H.set p b)) : MutQ H p Q av (H.set p b ++ L) :=
  ⟨by simp, fun n hn hne => by rw [List.getElem?_append_left (by simpa using hn), List.getElem?_set_ne (fun h => hne h.symm)], b, by rw [List.getElem?_append_left (by simpa using hp), List.getElem?_set_self hp], h4, h5, h6⟩

/-- A method that writes to one block that was there. -/
theorem fun_mut {P : Program} {f : FuncId} {fn : AFun} {args : List AVal} {H : AHeap} {Q : AVal → AHeap → Prop} (hf : okFun P f fn = true) (p : Nat)
    (h : closeds H.length args → FunOK P f args H (MutQ H p Q)) : FunOK P f args H Q := by
  refine fun_gh (fun _ ha => h ha) (fun av H' hc _ ⟨hle, hk, b, hb, hcb, hca, hq⟩ => ?_) (callable_of hf)
  have := left_of (H' := H') hc hle [] [] (fun n c hn hx => by
    by_cases hnp : n = p
    · subst hnp
      rw [hb] at hx; cases hx
      exact .inr (mv_blk (L := H.length) (fun _ h => toF_low h) hcb)
    · exact .inl (by rw [← hk n hn hnp]; exact hx)) (by simp) (by simp) (by simp)
  refine ⟨_, _, this, ?_⟩
  rw [mv_id (L := H.length) (fun _ h => toF_low h) av hca]
  have e : H'.take H.length ++ List.map (fun m => mvBlk (toF H.length [] []) (H'.getD m .dead)) [] = H.set p b := by
    simp only [List.map_nil, List.append_nil]
    refine List.ext_getElem? fun i => ?_
    rw [List.getElem?_take]
    by_cases hi : i < H.length
    · rw [if_pos hi]
      by_cases hip : i = p
      · subst hip
        rw [List.getElem?_set_self hi, hb]
      · rw [List.getElem?_set_ne (fun h => hip h.symm), hk i hi hip]
    · rw [if_neg hi, List.getElem?_eq_none (by simp; omega)]
  rw [e]; exact hq

theorem resK_append {w : Nat} {el : TypeId} {B : Nat} {H : AHeap} {a x : AVal} {n k : Nat} {cs ys : List AVal} {bytes : Nat} {K : Mode → Prop} {dst : Option Nat} {os : List AOper} {live : List Nat} {kk : List AItem} {r : Regs} (h : Own w el B H a n cs) (hB : B ≤ H.length) (h1 : srcLen x = some k) (h2 : srcCells H x = some ys) (hy : ys.length = k * w) (hw : 0 < w)
    (hl : (n + k) * bytes ≤ 140737488355328) (hl2 : n + k ≤ 9223372036854775807) (hc : ys.all AVal.cellish = true)
    (hK : ∀ v H', Own w el B H' v (n + k) (cs ++ ys) → Touches a.names H v.names H' → (∀ m ∈ v.names, H.length ≤ m) → K (.ops os live kk (rput dst v r) H')) : ResK K (appR (appendA H el w bytes a x)) dst os live kk r := by
  obtain ⟨v, H', p, e, hp, ho, ht, hn⟩ := h.append2 bytes hB h1 h2 hy hw hl hl2 hc
  rw [e]
  exact ⟨hp, hK v H' ho ht hn⟩

/-- Likewise in a drawn region. -/
theorem dresK_append {w : Nat} {el : TypeId} {B : Nat} {H : AHeap} {a x : AVal} {n k : Nat} {cs ys : List AVal} {bytes : Nat} {K : Mode → Prop} {d : DS} {op : AOp} {dst : Option Nat} {i : Nat} {is : List Nat} {log : Log} {r : Regs} (h : Own w el B H a n cs) (hB : B ≤ H.length) (h1 : srcLen x = some k) (h2 : srcCells H x = some ys) (hy : ys.length = k * w) (hw : 0 < w)
    (hl : (n + k) * bytes ≤ 140737488355328) (hl2 : n + k ≤ 9223372036854775807) (hc : ys.all AVal.cellish = true) (he : isEff op = true)
    (hK : ∀ v H', Own w el B H' v (n + k) (cs ++ ys) → Touches a.names H v.names H' → (∀ m ∈ v.names, H.length ≤ m) → recheck i log H' d.chk ∧ K (.draw d is log (rput dst v r) H')) : DResK K d (appR (appendA H el w bytes a x)) op dst i is log r := by
  obtain ⟨v, H', p, e, hp, ho, ht, hn⟩ := h.append2 bytes hB h1 h2 hy hw hl hl2 hc
  rw [e]
  obtain ⟨q1, q2⟩ := hK v H' ho ht hn
  simp only [appR, DResK, he, if_true]
  exact ⟨hp, q1, q2⟩

theorem Own.load {w : Nat} {el : TypeId} {B : Nat} {H : AHeap} {a : AVal} {n : Nat} {cs : List AVal} (h : Own w el B H a n cs) {j : Nat} (hj : j < cs.length) : loadA H none (.sptr a j) = some (True, cs.getD j .junk) := by
  simp only [loadA, cellsAt, h.view, Option.map_some]
  congr 2
  · simp; omega
  · rw [List.headD_eq_head?_getD, List.head?_drop]
    simp [List.getD_eq_getElem?_getD]

theorem Own.isSome {w : Nat} {el : TypeId} {B : Nat} {H : AHeap} {a : AVal} {n : Nat} {cs : List AVal} (h : Own w el B H a n cs) : (Am.view H a).isSome = true := by rw [h.view]; rfl

end Go.Am
