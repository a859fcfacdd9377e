/-
  States under other names: what becomes of lists that are never written to again; the rules of evaluation as sets. By an AI agent. No person has read it.
-/
import Derived.Test.YtiepeiconkjmeaaAm4
set_option linter.unusedSimpArgs false
set_option linter.unusedVariables false

namespace Go.Am
open Go
inductive To where
 | keep (n : Nat)
 | ice (cs : List AVal)
 | lost
def mvPtr (off : Nat) : To → AVal
 | .keep n => .ptr n off
 | .ice cs => .sptr (.imm cs cs.length true) off
 | .lost => .junk
def mvSlc (off len sz : Nat) : To → AVal
 | .keep n => .slc n off len sz
 | .ice cs => .imm ((cs.drop off).take (len * sz)) len false
 | .lost => .junk
def mvMap : To → AVal
 | .keep n => .mapv n
 | _ => .junk
def mvYld : To → AVal
 | .keep n => .yld n
 | _ => .junk
mutual
def mv (f : Nat → To) : AVal → AVal
 | .ptr n off => mvPtr off (f n)
 | .slc n off len sz => mvSlc off len sz (f n)
 | .mapv n => mvMap (f n)
 | .yld n => mvYld (f n)
 | .sptr s off => .sptr (mv f s) off
 | .imm cs len tight => .imm (mvs f cs) len tight
 | .fn g a b => .fn g (mvs f a) (mvs f b)
 | .agg cs => .agg (mvs f cs)
 | .tup cs => .tup (mvs f cs)
 | .junk => .junk
 | .bool b => .bool b
 | .int k n => .int k n
 | .str s => .str s
 | .nilp => .nilp
 | .nils => .nils
 | .nilf => .nilf
 | .nilm => .nilm
def mvs (f : Nat → To) : List AVal → List AVal
 | [] => []
 | c :: cs => mv f c :: mvs f cs
end
theorem mvs_map (f : Nat → To) : ∀ cs : List AVal, mvs f cs = cs.map (mv f)
 | [] => rfl
 | c :: cs => by simp [mvs, mvs_map f cs]
theorem mvs_length (f : Nat → To) (cs : List AVal) : (mvs f cs).length = cs.length := by simp [mvs_map]
mutual
def closed (L : Nat) : AVal → Prop
 | .ptr n _ => n < L
 | .slc n _ _ _ => n < L
 | .mapv n => n < L
 | .yld n => n < L
 | .sptr s _ => closed L s
 | .imm cs _ _ => closeds L cs
 | .fn _ a b => closeds L a ∧ closeds L b
 | .agg cs => closeds L cs
 | .tup cs => closeds L cs
 | _ => True
def closeds (L : Nat) : List AVal → Prop
 | [] => True
 | c :: cs => closed L c ∧ closeds L cs
end
mutual
theorem closed_of {e : Nm} : ∀ (a : AVal) (v : Value), VRel e a v → closed e.H.length a
 | .ptr n off, v, h => by simp only [VRel] at h; exact h.1
 | .slc n off len sz, v, h => by simp only [VRel] at h; exact h.1
 | .mapv n, v, h => by simp only [VRel] at h; exact h.1
 | .yld n, v, h => by simp only [VRel] at h; exact h.1
 | .sptr s off, v, h => by
  simp only [VRel] at h
  obtain ⟨b, o, len, cap, _, h⟩ := h
  exact closed_of s _ h
 | .imm cs len t, v, h => by
  simp only [VRel] at h
  obtain ⟨a, cap, _, _, _, h⟩ := h
  rcases h with ⟨rfl, _⟩ | ⟨b, o, _, _, arr, el, fz, _, h⟩
  ·exact trivial
  ·exact closeds_of cs _ h
 | .fn g a b, v, h => by
  simp only [VRel] at h
  obtain ⟨xs, ys, _, _, _, h1, h2⟩ := h
  exact ⟨closeds_of a _ h1, closeds_of b _ h2⟩
 | .agg cs, v, h => by
  simp only [VRel] at h
  obtain ⟨arr, _, _, h⟩ := h
  exact closeds_of cs _ h
 | .tup cs, v, h => by
  simp only [VRel] at h
  obtain ⟨arr, _, _, h⟩ := h
  exact closeds_of cs _ h
 | .junk, _, _ => trivial
 | .bool _, _, _ => trivial
 | .int _ _, _, _ => trivial
 | .str _, _, _ => trivial
 | .nilp, _, _ => trivial
 | .nils, _, _ => trivial
 | .nilf, _, _ => trivial
 | .nilm, _, _ => trivial
theorem closeds_of {e : Nm} : ∀ (cs : List AVal) (g : Nat → Option Value), VsRel e cs g → closeds e.H.length cs
 | [], _, _ => trivial
 | c :: cs, g, h => by
  simp only [VsRel] at h
  obtain ⟨⟨v, _, h1⟩, h2⟩ := h
  exact ⟨closed_of c v h1, closeds_of cs _ h2⟩
end
mutual
theorem mv_id {L : Nat} {f : Nat → To} (hf : ∀ n, n < L → f n = .keep n) : ∀ (a : AVal), closed L a → mv f a = a
 | .ptr n off, h => by simp only [mv, hf n h, mvPtr]
 | .slc n off len sz, h => by simp only [mv, hf n h, mvSlc]
 | .mapv n, h => by simp only [mv, hf n h, mvMap]
 | .yld n, h => by simp only [mv, hf n h, mvYld]
 | .sptr s off, h => by simp only [mv, mv_id hf s h]
 | .imm cs len t, h => by simp only [mv, mvs_id hf cs h]
 | .fn g a b, h => by simp only [mv, mvs_id hf a h.1, mvs_id hf b h.2]
 | .agg cs, h => by simp only [mv, mvs_id hf cs h]
 | .tup cs, h => by simp only [mv, mvs_id hf cs h]
 | .junk, _ => rfl
 | .bool _, _ => rfl
 | .int _ _, _ => rfl
 | .str _, _ => rfl
 | .nilp, _ => rfl
 | .nils, _ => rfl
 | .nilf, _ => rfl
 | .nilm, _ => rfl
theorem mvs_id {L : Nat} {f : Nat → To} (hf : ∀ n, n < L → f n = .keep n) : ∀ (cs : List AVal), closeds L cs → mvs f cs = cs
 | [], _ => rfl
 | c :: cs, h => by simp only [mvs, mv_id hf c h.1, mvs_id hf cs h.2]
end
def mvRegs (f : Nat → To) : Regs → Regs
 | [] => []
 | (i, v) :: r => (i, mv f v) :: mvRegs f r
theorem rget_mv (f : Nat → To) : ∀ (r : Regs) (i : Nat), rget (mvRegs f r) i = mv f (rget r i)
 | [], i => rfl
 | (j, v) :: r, i => by
  simp only [mvRegs, rget]
  split
  ·rfl
  ·exact rget_mv f r i
def mvEs (f : Nat → To) : List (AVal × AVal) → List (AVal × AVal)
 | [] => []
 | (k, v) :: es => (mv f k, mv f v) :: mvEs f es
theorem mvEs_map (f : Nat → To) : ∀ es, mvEs f es = es.map fun p => (mv f p.1, mv f p.2)
 | [] => rfl
 | (k, v) :: es => by simp [mvEs, mvEs_map f es]
def mvBlk (f : Nat → To) : ABlk → ABlk
 | .dead => .dead
 | .cells cs el => .cells (mvs f cs) el
 | .vec cs el sz => .vec (mvs f cs) el sz
 | .map es => .map (mvEs f es)
 | .loop l => .loop { l with regs := mvRegs f l.regs }
theorem mvBlk_live (f : Nat → To) (c : ABlk) : (mvBlk f c).isLive = c.isLive := by cases c <;> rfl
mutual
def cold (f : Nat → To) : AVal → Prop
 | .ptr n _ => ∀ cs, f n ≠ .ice cs
 | .slc n _ _ _ => ∀ cs, f n ≠ .ice cs
 | .sptr s _ => cold f s
 | .imm cs _ _ => colds f cs
 | .fn _ a b => colds f a ∧ colds f b
 | .agg cs => colds f cs
 | .tup cs => colds f cs
 | _ => True
def colds (f : Nat → To) : List AVal → Prop
 | [] => True
 | c :: cs => cold f c ∧ colds f cs
end
mutual
theorem cold_of {L : Nat} {f : Nat → To} (hf : ∀ n, n < L → f n = .keep n) : ∀ (a : AVal), closed L a → cold f a
 | .ptr n off, h => by simp [cold, hf n h]
 | .slc n off len sz, h => by simp [cold, hf n h]
 | .sptr s off, h => cold_of hf s h
 | .imm cs len t, h => colds_of hf cs h
 | .fn g a b, h => ⟨colds_of hf a h.1, colds_of hf b h.2⟩
 | .agg cs, h => colds_of hf cs h
 | .tup cs, h => colds_of hf cs h
 | .mapv _, _ => trivial
 | .yld _, _ => trivial
 | .junk, _ => trivial
 | .bool _, _ => trivial
 | .int _ _, _ => trivial
 | .str _, _ => trivial
 | .nilp, _ => trivial
 | .nils, _ => trivial
 | .nilf, _ => trivial
 | .nilm, _ => trivial
theorem colds_of {L : Nat} {f : Nat → To} (hf : ∀ n, n < L → f n = .keep n) : ∀ (cs : List AVal), closeds L cs → colds f cs
 | [], _ => trivial
 | c :: cs, h => ⟨cold_of hf c h.1, colds_of hf cs h.2⟩
end
def Mv (f : Nat → To) (c c2 : ABlk) : Prop := c2 = mvBlk f c ∨ ∃ l, c = .loop l ∧ c2 = c ∧ ∀ i, mv f (rget l.regs i) = rget l.regs i
theorem Mv.live {f : Nat → To} {c c2 : ABlk} (h : Mv f c c2) : c2.isLive = c.isLive := by
 rcases h with rfl | ⟨l, rfl, rfl, _⟩
 ·exact mvBlk_live f c
 ·rfl
structure Ghost (f : Nat → To) (H H2 : AHeap) : Prop where
 live : ∀ n', alive H2 n' = true → ∃ n c c2, f n = .keep n' ∧ H[n]? = some c ∧ H2[n']? = some c2 ∧ Mv f c c2
 ice : ∀ n cs, f n = .ice cs → n < H.length → ∃ cs0, content H[n]? = some cs0 ∧ cs = mvs f cs0 ∧ colds f cs0
 lt : ∀ n n', n < H.length → f n = .keep n' → n' < H2.length
 inj : ∀ n m n', f n = .keep n' → f m = .keep n' → n = m
theorem content_live {H : AHeap} {n : Nat} {cs : List AVal} (h : content H[n]? = some cs) : alive H n = true := by
 cases hn : H[n]? with
 | none => simp [hn, content] at h
 | some c => cases c <;> simp [hn, content] at h <;> exact alive_of hn rfl
section
variable {f : Nat → To} {ρ ρ2 : Nat → Option Nat} {H H2 : AHeap} {w : World}
structure GRho (f : Nat → To) (ρ ρ2 : Nat → Option Nat) : Prop where
 eq : ∀ n n', f n = .keep n' → ρ2 n' = ρ n
theorem grho (hg : Ghost f H H2) (ρ : Nat → Option Nat) : ∃ ρ2, GRho f ρ ρ2 := by
 refine ⟨fun n' => by classical exact if h : ∃ n, f n = .keep n' then ρ h.choose else none, ⟨fun n n' h => ?_⟩⟩
 have hx : ∃ n, f n = .keep n' := ⟨n, h⟩
 simp only [dif_pos hx]
 rw [hg.inj _ _ _ hx.choose_spec h]
theorem ghost_live (hg : Ghost f H H2) (hρ : GRho f ρ ρ2) {n n' : Nat} (h : f n = .keep n') (ha : alive H2 n' = true) : alive H n = true ∧ ρ2 n' = ρ n := by
 obtain ⟨m, c, c2, h1, h2, h3, hm⟩ := hg.live n' ha
 have := hg.inj _ _ _ h1 h
 subst this
 refine ⟨alive_of h2 ?_, hρ.eq _ _ h⟩
 obtain ⟨c', h4, h5⟩ := alive_some ha
 rw [h3] at h4; cases h4
 rwa [hm.live] at h5
theorem ghost_unowned (hg : Ghost f H H2) (hρ : GRho f ρ ρ2) {b : Nat} (h : ¬ (nm ρ H w).Owned b) : ¬ (nm ρ2 H2 w).Owned b := by
 rintro ⟨n', h1, h2⟩
 obtain ⟨n, c, c2, h3, h4, h5, hm⟩ := hg.live n' h1
 obtain ⟨h6, h7⟩ := ghost_live hg hρ h3 h1
 exact h ⟨n, h6, by rw [← h2]; exact h7.symm⟩
theorem ghost_iced (hr : HRel (nm ρ H w)) (hg : Ghost f H H2) (hρ : GRho f ρ ρ2) {n b : Nat} {cs : List AVal} (hf : f n = .ice cs) (ha : alive H n = true) (hb : ρ n = some b) : ¬ (nm ρ2 H2 w).Owned b := by
 rintro ⟨n', h1, h2⟩
 obtain ⟨m, c, c2, h3, h4, h5, hm⟩ := hg.live n' h1
 obtain ⟨h6, h7⟩ := ghost_live hg hρ h3 h1
 have h2' : ρ2 n' = some b := h2
 have : m = n := hr.inj m n b h6 ha (by rw [← h2']; exact h7.symm) hb
 subst this
 rw [hf] at h3; cases h3
def Iced (f : Nat → To) (ρ : Nat → Option Nat) (H : AHeap) (e2 : Nm) (w : World) (n : Nat) (cs : List AVal) : Prop :=
 alive H n = true ∧ ((ρ n = none ∧ cs = []) ∨ ∃ b arr el, ρ n = some b ∧ ¬ e2.Owned b ∧ w.heap[b]? = some (.cells arr el (0, 0)) ∧ VsRel e2 cs (fun i => arr[i]?))
mutual
theorem mv_rel (hr : HRel (nm ρ H w)) (hg : Ghost f H H2) (hρ : GRho f ρ ρ2) (p : Prop) (hI : p → ∀ n cs, f n = .ice cs → n < H.length → Iced f ρ H (nm ρ2 H2 w) w n cs) : ∀ (a : AVal) (v : Value), (p ∨ cold f a) → VRel (nm ρ H w) a v → VRel (nm ρ2 H2 w) (mv f a) v
 | .ptr n off, v, hp, h => by
  simp only [VRel] at h
  obtain ⟨hn, a, rfl, h⟩ := h
  simp only [mv]
  cases hf : f n with
  | lost => simp [mvPtr, VRel]
  | keep n' =>
   simp only [mvPtr, VRel]
   refine ⟨hg.lt n n' hn hf, a, rfl, fun ha => ?_⟩
   obtain ⟨h1, h2⟩ := ghost_live hg hρ hf ha
   obtain ⟨h3, h4⟩ := h h1
   exact ⟨h2.trans h3, h4⟩
  | ice cs =>
   rcases hp with hp | hp
   ·obtain ⟨h1, h2⟩ := hI hp n cs hf hn
    obtain ⟨h3, h4⟩ := h h1
    simp only [mvPtr, VRel]
    rcases h2 with ⟨h2, rfl⟩ | ⟨b, arr, el, h5, h6, h7, h8⟩
    ·rw [show (nm ρ H w).ρ n = ρ n from rfl, h2] at h3; cases h3
    ·have : some b = some a.block := h5.symm.trans h3
     cases this
     refine ⟨a.block, 0, cs.length, cs.length, by rw [Nat.zero_add, ← h4], some ⟨a.block, 0, none⟩, cs.length, rfl, Nat.le_refl _, fun _ => rfl, .inr ⟨a.block, 0, rfl, h6, arr, el, _, h7, ?_⟩⟩
     exact h8.congr fun i _ => by rw [Nat.zero_add]
   ·exact absurd hf (hp cs)
 | .slc n off len sz, v, hp, h => by
  simp only [VRel] at h
  obtain ⟨hn, a, cap, rfl, hc, h⟩ := h
  simp only [mv]
  cases hf : f n with
  | lost => simp [mvSlc, VRel]
  | keep n' =>
   simp only [mvSlc, VRel]
   refine ⟨hg.lt n n' hn hf, a, cap, rfl, hc, fun ha => ?_⟩
   obtain ⟨h1, h2⟩ := ghost_live hg hρ hf ha
   rw [show (nm ρ2 H2 w).ρ n' = ρ n from h2]
   exact h h1
  | ice cs =>
   rcases hp with hp | hp
   ·obtain ⟨h1, h2⟩ := hI hp n cs hf hn
    simp only [mvSlc, VRel]
    refine ⟨a, cap, rfl, hc, by simp, ?_⟩
    rcases h2 with ⟨h2, rfl⟩ | ⟨b, arr, el, h5, h6, h7, h8⟩
    ·rcases h h1 with ⟨_, h3, h4⟩ | ⟨h3, _⟩ | ⟨b, r, h3, _⟩
     ·exact .inl ⟨by simp, by omega⟩
     ·exact .inl ⟨by simp, h3⟩
     ·rw [show (nm ρ H w).ρ n = ρ n from rfl, h2] at h3; cases h3
    ·rcases h h1 with ⟨h3, _⟩ | ⟨h3, _⟩ | ⟨b', r, h3, h4, h9, h10⟩
     ·rw [show (nm ρ H w).ρ n = ρ n from rfl, h5] at h3; cases h3
     ·exact .inl ⟨by simp [h3], h3⟩
     ·have : some b = some b' := h5.symm.trans h3
      cases this
      refine .inr ⟨b, off, h4, h6, arr, el, _, h7, ?_⟩
      exact (h8.drop off).take _
   ·exact absurd hf (hp cs)
 | .mapv n, v, hp, h => by
  simp only [VRel] at h
  obtain ⟨hn, b, rfl, h⟩ := h
  simp only [mv]
  cases hf : f n with
  | lost => simp [mvMap, VRel]
  | ice cs => simp [mvMap, VRel]
  | keep n' =>
   simp only [mvMap, VRel]
   refine ⟨hg.lt n n' hn hf, b, rfl, fun ha => ?_⟩
   obtain ⟨h1, h2⟩ := ghost_live hg hρ hf ha
   exact h2.trans (h h1)
 | .yld n, v, hp, h => by
  simp only [VRel] at h
  obtain ⟨hn, b, rfl, h⟩ := h
  simp only [mv]
  cases hf : f n with
  | lost => simp [mvYld, VRel]
  | ice cs => simp [mvYld, VRel]
  | keep n' =>
   simp only [mvYld, VRel]
   refine ⟨hg.lt n n' hn hf, b, rfl, fun ha => ?_⟩
   obtain ⟨h1, h2⟩ := ghost_live hg hρ hf ha
   exact h2.trans (h h1)
 | .sptr s off, v, hp, h => by
  simp only [VRel] at h
  obtain ⟨b, o, len, cap, rfl, h⟩ := h
  simp only [mv, VRel]
  exact ⟨b, o, len, cap, rfl, mv_rel hr hg hρ p hI s _ hp h⟩
 | .imm cs len t, v, hp, h => by
  simp only [VRel] at h
  obtain ⟨a, cap, rfl, hc, ht, h⟩ := h
  simp only [mv, VRel]
  refine ⟨a, cap, rfl, hc, ht, ?_⟩
  rcases h with ⟨rfl, h⟩ | ⟨b, o, ha, ho, arr, el, fz, hb, h⟩
  ·exact .inl ⟨rfl, h⟩
  ·exact .inr ⟨b, o, ha, ghost_unowned hg hρ ho, arr, el, fz, hb, mvs_rel hr hg hρ p hI cs _ hp h⟩
 | .fn g a b, v, hp, h => by
  simp only [VRel] at h
  obtain ⟨xs, ys, rfl, h1, h2, h3, h4⟩ := h
  simp only [mv, VRel]
  exact ⟨xs, ys, rfl, by rw [mvs_length]; exact h1, by rw [mvs_length]; exact h2, mvs_rel hr hg hρ p hI a _ (hp.imp id And.left) h3, mvs_rel hr hg hρ p hI b _ (hp.imp id And.right) h4⟩
 | .agg cs, v, hp, h => by
  simp only [VRel] at h
  obtain ⟨arr, rfl, h1, h2⟩ := h
  simp only [mv, VRel]
  exact ⟨arr, rfl, by rw [mvs_length]; exact h1, mvs_rel hr hg hρ p hI cs _ hp h2⟩
 | .tup cs, v, hp, h => by
  simp only [VRel] at h
  obtain ⟨arr, rfl, h1, h2⟩ := h
  simp only [mv, VRel]
  exact ⟨arr, rfl, by rw [mvs_length]; exact h1, mvs_rel hr hg hρ p hI cs _ hp h2⟩
 | .junk, _, _, _ => by simp [mv, VRel]
 | .bool b, _, _, h => by simpa [mv, VRel] using h
 | .int k n, _, _, h => by simpa [mv, VRel] using h
 | .str s, _, _, h => by simpa [mv, VRel] using h
 | .nilp, _, _, h => by simpa [mv, VRel] using h
 | .nils, _, _, h => by simpa [mv, VRel] using h
 | .nilf, _, _, h => by simpa [mv, VRel] using h
 | .nilm, _, _, h => by simpa [mv, VRel] using h
theorem mvs_rel (hr : HRel (nm ρ H w)) (hg : Ghost f H H2) (hρ : GRho f ρ ρ2) (p : Prop) (hI : p → ∀ n cs, f n = .ice cs → n < H.length → Iced f ρ H (nm ρ2 H2 w) w n cs) : ∀ (cs : List AVal) (g : Nat → Option Value), (p ∨ colds f cs) → VsRel (nm ρ H w) cs g → VsRel (nm ρ2 H2 w) (mvs f cs) g
 | [], _, _, _ => by simp [mvs, VsRel]
 | c :: cs, g, hp, h => by
  simp only [VsRel] at h
  obtain ⟨⟨v, h1, h2⟩, h3⟩ := h
  simp only [mvs, VsRel]
  exact ⟨⟨v, h1, mv_rel hr hg hρ p hI c v (hp.imp id And.left) h2⟩, mvs_rel hr hg hρ p hI cs _ (hp.imp id And.right) h3⟩
end
theorem iced (hr : HRel (nm ρ H w)) (hg : Ghost f H H2) (hρ : GRho f ρ ρ2) (n : Nat) (cs : List AVal) (hf : f n = .ice cs) (hn : n < H.length) : Iced f ρ H (nm ρ2 H2 w) w n cs := by
 obtain ⟨cs0, h1, rfl, h0⟩ := hg.ice n cs hf hn
 have ha := content_live h1
 refine ⟨ha, ?_⟩
 rcases content_at hr h1 with ⟨h2, rfl, _⟩ | ⟨b, arr, el, h2, h3, h4, _⟩
 ·exact .inl ⟨h2, rfl⟩
 ·exact .inr ⟨b, arr, el, h2, ghost_iced hr hg hρ hf ha h2, h3, mvs_rel hr hg hρ False (fun h => h.elim) cs0 _ (.inr h0) h4⟩
theorem ghost_val (hr : HRel (nm ρ H w)) (hg : Ghost f H H2) (hρ : GRho f ρ ρ2) {a : AVal} {v : Value} (h : VRel (nm ρ H w) a v) : VRel (nm ρ2 H2 w) (mv f a) v :=
 mv_rel hr hg hρ True (fun _ => iced hr hg hρ) a v (.inl trivial) h
theorem ghost_vals (hr : HRel (nm ρ H w)) (hg : Ghost f H H2) (hρ : GRho f ρ ρ2) {cs : List AVal} {g : Nat → Option Value} (h : VsRel (nm ρ H w) cs g) : VsRel (nm ρ2 H2 w) (mvs f cs) g :=
 mvs_rel hr hg hρ True (fun _ => iced hr hg hρ) cs g (.inl trivial) h
theorem ghost_regs (hr : HRel (nm ρ H w)) (hg : Ghost f H H2) (hρ : GRho f ρ ρ2) {r : Regs} {tmps : Array Value} (h : RRel (nm ρ H w) r tmps) : RRel (nm ρ2 H2 w) (mvRegs f r) tmps := fun i => by
 rw [rget_mv]; exact ghost_val hr hg hρ (h i)
theorem ghost_blk (hr : HRel (nm ρ H w)) (hg : Ghost f H H2) (hρ : GRho f ρ ρ2) {r : Option Nat} {c c2 : ABlk} (hm : Mv f c c2) (h : BRel (nm ρ H w) r c) : BRel (nm ρ2 H2 w) r c2 := by
 rcases hm with rfl | ⟨l, rfl, rfl, hm⟩
 rotate_left
 ·obtain ⟨b, rl, h1, h2, h3, h4, h5, h6, h7, h8⟩ := h
  exact ⟨b, rl, h1, h2, h3, h4, h5, h6, fun i => by rw [← hm i]; exact ghost_val hr hg hρ (h7 i), h8⟩
 cases c with
 | dead => trivial
 | cells cs el =>
  obtain ⟨b, arr, h1, h2, h3, h4⟩ := h
  exact ⟨b, arr, h1, h2, by rw [mvs_length]; exact h3, ghost_vals hr hg hρ h4⟩
 | vec cs el sz =>
  rcases h with ⟨h, rfl⟩ | ⟨b, arr, h1, h2, h3⟩
  ·exact .inl ⟨h, rfl⟩
  ·exact .inr ⟨b, arr, h1, h2, ghost_vals hr hg hρ h3⟩
 | map es =>
  obtain ⟨b, ents, clk, h1, h2, h3, h4⟩ := h
  refine ⟨b, ents, clk, h1, h2, by rw [mvEs_map]; simpa using h3, fun i hi => ?_⟩
  rw [mvEs_map] at hi
  simp only [List.length_map] at hi
  obtain ⟨m, g1, g2, g3⟩ := h4 i hi
  exact ⟨m, g1, by simpa [mvEs_map] using ghost_val hr hg hρ g2, by simpa [mvEs_map] using ghost_val hr hg hρ g3⟩
 | loop l =>
  obtain ⟨b, rl, h1, h2, h3, h4, h5, h6, h7, h8⟩ := h
  exact ⟨b, rl, h1, h2, h3, h4, h5, h6, ghost_regs hr hg hρ h7, h8⟩
theorem ghost_heap (hr : HRel (nm ρ H w)) (hg : Ghost f H H2) (hρ : GRho f ρ ρ2) : HRel (nm ρ2 H2 w) where
 blk n' c' hc' := by
  by_cases hl : c'.isLive = true
  ·obtain ⟨n, c, c2, h1, h2, h3, hm⟩ := hg.live n' (alive_of hc' hl)
   have hc2 : H2[n']? = some c' := hc'
   rw [h3] at hc2; cases hc2
   have := ghost_blk hr hg hρ hm (hr.blk n c h2)
   rw [show (nm ρ2 H2 w).ρ n' = ρ n from hρ.eq _ _ h1]
   exact this
  ·cases c' <;> simp_all [ABlk.isLive]
   trivial
 inj n' m' b hn hm h1 h2 := by
  obtain ⟨n, c, c2, g1, g2, g3, _⟩ := hg.live n' hn
  obtain ⟨m, d, d2, k1, k2, k3, _⟩ := hg.live m' hm
  obtain ⟨g4, g5⟩ := ghost_live hg hρ g1 hn
  obtain ⟨k4, k5⟩ := ghost_live hg hρ k1 hm
  have e1 : ρ2 n' = some b := h1
  have e2 : ρ2 m' = some b := h2
  have := hr.inj n m b g4 k4 (g5.symm.trans e1) (k5.symm.trans e2)
  subst this
  rw [g1] at k1; cases k1; rfl
theorem ghost_post {B : Nat} {ρ0 : Nat → Option Nat} {H0 : AHeap} {w0 : World} (hg : Ghost f H H2) (hρ : GRho f ρ ρ2) (hf : ∀ n, n < H0.length → f n = .keep n) (hl : H0.length ≤ H2.length) (hp : Pres B ρ0 H0 w0 ρ H w) : Pres B ρ0 H0 w0 ρ2 H2 w where
 size := hp.size
 os := hp.os
 tape := hp.tape
 output := hp.output
 len := hl
 name n hn ha := by
  obtain ⟨h1, h2⟩ := ghost_live hg hρ (hf n hn) ha
  obtain ⟨h3, h4⟩ := hp.name n hn h1
  exact ⟨h3, h2.trans h4⟩
 keep := hp.keep
 out b hb ho := ghost_unowned hg hρ (hp.out b hb ho)
 room := hp.room
theorem ghost_pre {B : Nat} {ρ' : Nat → Option Nat} {H' : AHeap} {w' : World} (hg : Ghost f H H2) (hρ : GRho f ρ ρ2) (hf : ∀ n n', f n = .keep n' → n' = n) (hl : H2.length = H.length) (hp : Pres B ρ2 H2 w ρ' H' w') : Pres B ρ H w ρ' H' w' where
 size := hp.size
 os := hp.os
 tape := hp.tape
 output := hp.output
 len := by rw [← hl]; exact hp.len
 name n hn ha := by
  obtain ⟨h1, h2⟩ := hp.name n (by rw [hl]; exact hn) ha
  obtain ⟨m, c, c2, h3, _⟩ := hg.live n h1
  have := hf _ _ h3
  subst this
  obtain ⟨h4, h5⟩ := ghost_live hg hρ h3 h1
  exact ⟨h4, h2.trans h5⟩
 keep b hb ho := hp.keep b hb (ghost_unowned hg hρ ho)
 out b hb ho := hp.out b hb (ghost_unowned hg hρ ho)
 room := hp.room
end
end Go.Am

namespace Go.Am
open Go
def closedEs (L : Nat) (es : List (AVal × AVal)) : Prop := ∀ p ∈ es, closed L p.1 ∧ closed L p.2
def closedB (L : Nat) : ABlk → Prop
 | .dead => True
 | .cells cs _ => closeds L cs
 | .vec cs _ _ => closeds L cs
 | .map es => closedEs L es
 | .loop l => ∀ i, closed L (rget l.regs i)
theorem brel_closed {e : Nm} {r : Option Nat} {c : ABlk} (h : BRel e r c) : closedB e.H.length c := by
 cases c with
 | dead => trivial
 | cells cs el =>
  obtain ⟨b, arr, h1, h2, h3, h4⟩ := h
  exact closeds_of cs _ h4
 | vec cs el sz =>
  rcases h with ⟨h, rfl⟩ | ⟨b, arr, h1, h2, h3⟩
  ·exact trivial
  ·exact closeds_of cs _ h3
 | map es =>
  obtain ⟨b, ents, clk, h1, h2, h3, h4⟩ := h
  intro p hp
  obtain ⟨i, hi, rfl⟩ := List.getElem_of_mem hp
  obtain ⟨m, g1, g2, g3⟩ := h4 i hi
  exact ⟨closed_of _ _ g2, closed_of _ _ g3⟩
 | loop l =>
  obtain ⟨b, rl, h1, h2, h3, h4, h5, h6, h7, h8⟩ := h
  exact fun i => closed_of _ _ (h7 i)
theorem mv_blk {L : Nat} {f : Nat → To} (hf : ∀ n, n < L → f n = .keep n) {c : ABlk} (h : closedB L c) : Mv f c c := by
 cases c with
 | dead => exact .inl rfl
 | cells cs el => exact .inl (by simp only [mvBlk, mvs_id hf cs h])
 | vec cs el sz => exact .inl (by simp only [mvBlk, mvs_id hf cs h])
 | map es =>
  refine .inl ?_
  simp only [mvBlk, mvEs_map]
  congr 1
  have : es.map (fun p => (mv f p.1, mv f p.2)) = es.map id := List.map_congr_left fun p hp => by
   obtain ⟨h1, h2⟩ := h p hp
   simp only [mv_id hf _ h1, mv_id hf _ h2, id]
  rw [this, List.map_id]
 | loop l => exact .inr ⟨l, rfl, rfl, fun i => mv_id hf _ (h i)⟩
def ClosedH (H : AHeap) : Prop := ∀ (n : Nat) (c : ABlk), H[n]? = some c → closedB H.length c
theorem hrel_closed {ρ : Nat → Option Nat} {H : AHeap} {w : World} (h : HRel (nm ρ H w)) : ClosedH H := fun n c hc => brel_closed (h.blk n c hc)
structure Left (H H' : AHeap) (f : Nat → To) (H2 : AHeap) : Prop where
 ghost : Ghost f H' H2
 low : ∀ n, n < H.length → f n = .keep n
 le : H.length ≤ H2.length
section
variable {P : Program} {c : Ctx} {k : List AItem} {r : Regs} {H : AHeap} {Q Q' : AVal → AHeap → Prop}
theorem fun_gh {f : FuncId} {args : List AVal} (h : ClosedH H → closeds H.length args → FunOK P f args H Q') (hg : ∀ av H', ClosedH H → closeds H.length args → Q' av H' → ∃ g H2, Left H H' g H2 ∧ Q (mv g av) H2) (hcb : Callable P f) : FunOK P f args H Q := by
 refine ⟨hcb, fun ρ vs w h1 h2 h3 cs => ?_⟩
 have hc1 := hrel_closed h3
 have hc2 : closeds H.length args := closeds_of _ _ h2
 obtain ⟨av, H', ρ', v, w', fr, q1, q2, q3, q4, q5, q6, q7⟩ := (h hc1 hc2).2 ρ vs w h1 h2 h3 cs
 obtain ⟨g, H2, hl, hq⟩ := hg av H' hc1 hc2 q1
 obtain ⟨ρ2, hρ⟩ := grho hl.ghost ρ'
 exact ⟨_, H2, ρ2, v, w', fr, hq, q2, q3, q4, ghost_val q6 hl.ghost hρ q5, ghost_heap q6 hl.ghost hρ, ghost_post hl.ghost hρ hl.low hl.le q7⟩
theorem runO_pre {f : Nat → To} {H2 : AHeap} {as : List AOper} (hg : ClosedH H → Ghost f H H2) (hf : ∀ n n', f n = .keep n' → n' = n) (hl : H2.length = H.length) (hrd : ∀ n, c.rd = some n → f n = .keep n) (h : RunO P c as k (mvRegs f r) H2 Q) : RunO P c as k r H Q := by
 intro B ρ w tmps D b cs k' ops is hr hlow hops
 have hg := hg (hrel_closed hr.heap)
 obtain ⟨ρ2, hρ⟩ := grho hg ρ
 have hreal : Real P c (mvRegs f r) H2 B ρ2 w tmps D b cs := {
  le := hr.le
  nt := hr.nt
  regs := ghost_regs hr.heap hg hρ hr.regs
  heap := ghost_heap hr.heap hg hρ
  dfr := ⟨hr.dfr.nodup, fun d hd => by
   obtain ⟨h1, h2, h3⟩ := hr.dfr.is d hd
   exact ⟨h1, h2, ghost_unowned hg hρ h3⟩⟩
  rd := by
   have := hr.rd
   cases hro : c.rd with
   | none => rw [hro] at this; exact this
   | some n =>
    rw [hro] at this
    obtain ⟨l, h1, h2, h3⟩ := this
    refine ⟨l, h1, ?_, h3⟩
    have := ghost_val hr.heap hg hρ h2
    simpa [mv, hrd n hro, mvYld] using this
  fn := hr.fn
  kind := hr.kind
  ctx := hr.ctx }
 obtain ⟨av, H', ρ', v, w', m', q1, q2, q3, q4, q5, q6⟩ := h B ρ2 w tmps D b cs k' ops is hreal hlow hops
 exact ⟨av, H', ρ', v, w', m', q1, q2, q3, q4, q5, ghost_pre hg hρ hf hl q6⟩
end
def findN (n : Nat) : List Nat → Nat → Option Nat
 | [], _ => none
 | m :: ms, i => if m = n then some i else findN n ms (i + 1)
def findI (n : Nat) : List (Nat × List AVal) → Option (List AVal)
 | [] => none
 | p :: ps => if p.1 = n then some p.2 else findI n ps
def toF (L : Nat) (ks : List Nat) (is : List (Nat × List AVal)) (n : Nat) : To :=
 if n < L then .keep n else match findN n ks L with
  | some i => .keep i
  | none => match findI n is with
   | some cs => .ice cs
   | none => .lost
theorem toF_low {L : Nat} {ks : List Nat} {is : List (Nat × List AVal)} {n : Nat} (h : n < L) : toF L ks is n = .keep n := by simp [toF, h]
theorem findN_some {n : Nat} : ∀ {ms : List Nat} {i j : Nat}, findN n ms i = some j → i ≤ j ∧ j < i + ms.length ∧ ms[j - i]? = some n
 | [], i, j, h => by simp [findN] at h
 | m :: ms, i, j, h => by
  simp only [findN] at h
  split at h
  ·cases h; subst_vars; simp
  ·obtain ⟨h1, h2, h3⟩ := findN_some h
   refine ⟨by omega, by simp; omega, ?_⟩
   rw [show j - i = (j - (i + 1)) + 1 by omega]
   simpa using h3
theorem findI_some {n : Nat} : ∀ {ps : List (Nat × List AVal)} {cs : List AVal}, findI n ps = some cs → (n, cs) ∈ ps
 | [], cs, h => by simp [findI] at h
 | p :: ps, cs, h => by
  simp only [findI] at h
  split at h
  ·cases h; subst_vars; exact List.mem_cons_self
  ·exact List.mem_cons_of_mem _ (findI_some h)
theorem toF_keep {L : Nat} {ks : List Nat} {is : List (Nat × List AVal)} {n n' : Nat} (h : toF L ks is n = .keep n') : (n < L ∧ n' = n) ∨ (L ≤ n ∧ L ≤ n' ∧ n' < L + ks.length ∧ ks[n' - L]? = some n) := by
 unfold toF at h
 split at h
 ·cases h; exact .inl ⟨‹_›, rfl⟩
 ·right
  split at h
  ·rename_i i hi
   cases h
   obtain ⟨h1, h2, h3⟩ := findN_some hi
   exact ⟨by omega, h1, h2, h3⟩
  ·split at h <;> cases h
theorem toF_ice {L : Nat} {ks : List Nat} {is : List (Nat × List AVal)} {n : Nat} {cs : List AVal} (h : toF L ks is n = .ice cs) : L ≤ n ∧ (n, cs) ∈ is := by
 unfold toF at h
 split at h
 ·cases h
 ·split at h
  ·cases h
  ·split at h
   ·rename_i hx; cases h; exact ⟨by omega, findI_some hx⟩
   ·cases h
theorem left_of {H H' : AHeap} (hc : ClosedH H) (hle : H.length ≤ H'.length) (ks : List Nat) (is : List (Nat × List AVal))
  (hlow : ∀ n c, n < H.length → H'[n]? = some c → H[n]? = some c ∨ Mv (toF H.length ks is) c c)
  (hks : ∀ m ∈ ks, H.length ≤ m)
  (his : ∀ p ∈ is, ∃ cs0, content H'[p.1]? = some cs0 ∧ p.2 = mvs (toF H.length ks is) cs0 ∧ colds (toF H.length ks is) cs0)
  (hnd : ks.Nodup) : Left H H' (toF H.length ks is) (H'.take H.length ++ ks.map fun m => mvBlk (toF H.length ks is) (H'.getD m .dead)) where
 low n h := toF_low h
 le := by simp; omega
 ghost := by
  have hlow' : ∀ n c, n < H.length → H'[n]? = some c → Mv (toF H.length ks is) c c := by
   intro n c hn h
   rcases hlow n c hn h with h1 | h1
   ·exact mv_blk (L := H.length) (fun _ h => toF_low h) (hc n c h1)
   ·exact h1
  have htl : (H'.take H.length).length = H.length := by simp; omega
  refine ⟨?_, ?_, ?_, ?_⟩
  ·intro n' ha
   have hlt := alive_lt ha
   simp only [List.length_append, htl, List.length_map] at hlt
   by_cases hn : n' < H.length
   ·have h1 : n' < H'.length := by omega
    refine ⟨n', H'[n'], H'[n'], toF_low hn, List.getElem?_eq_getElem h1, ?_, hlow' n' _ hn (List.getElem?_eq_getElem h1)⟩
    rw [List.getElem?_append_left (by omega), List.getElem?_take, if_pos hn, List.getElem?_eq_getElem h1]
   ·have hk : n' - H.length < ks.length := by omega
    have hget : (H'.take H.length ++ ks.map fun m => mvBlk (toF H.length ks is) (H'.getD m .dead))[n']? = some (mvBlk (toF H.length ks is) (H'.getD ks[n' - H.length] .dead)) := by
     rw [List.getElem?_append_right (by omega), htl, List.getElem?_map, List.getElem?_eq_getElem hk]; rfl
    have hmem : ks[n' - H.length] ∈ ks := List.getElem_mem hk
    have hfk : toF H.length ks is ks[n' - H.length] = .keep n' := by
     have h1 := hks _ hmem
     unfold toF
     rw [if_neg (by omega)]
     have : findN ks[n' - H.length] ks H.length = some n' := by
      have key : ∀ (ms : List Nat) (i j : Nat) (h : j < ms.length), ms.Nodup → findN ms[j] ms i = some (i + j) := by
       intro ms
       induction ms with
       | nil => intro i j h; simp at h
       | cons m ms ih =>
        intro i j h hn
        simp only [findN]
        cases j with
        | zero => simp
        | succ j =>
         simp only [List.length_cons, Nat.add_lt_add_iff_right] at h
         rw [List.nodup_cons] at hn
         have hne : m ≠ (m :: ms)[j + 1] := by
          intro he
          apply hn.1
          have : (m :: ms)[j + 1] = ms[j] := rfl
          rw [he, this]; exact List.getElem_mem h
         rw [if_neg hne]
         have := ih (i + 1) j h hn.2
         rw [show (m :: ms)[j + 1] = ms[j] from rfl, this]
         congr 1; omega
      have := key ks H.length (n' - H.length) hk hnd
      rw [this]; congr 1; omega
     rw [this]
    obtain ⟨c2, h2, h3⟩ := alive_some ha
    rw [hget] at h2; cases h2
    rw [mvBlk_live] at h3
    cases hx : H'[ks[n' - H.length]]? with
    | none =>
     rw [List.getD_eq_getElem?_getD, hx] at h3; cases h3
    | some cx =>
     refine ⟨_, cx, _, hfk, hx, hget, .inl ?_⟩
     rw [List.getD_eq_getElem?_getD, hx]; rfl
  ·intro n cs h hn
   obtain ⟨h1, h2⟩ := toF_ice h
   exact his _ h2
  ·intro n n' hn h
   simp only [List.length_append, htl, List.length_map]
   rcases toF_keep h with ⟨h1, rfl⟩ | ⟨h1, h2, h3, h4⟩ <;> omega
  ·intro n m n' h1 h2
   rcases toF_keep h1 with ⟨a1, a2⟩ | ⟨a1, a2, a3, a4⟩ <;> rcases toF_keep h2 with ⟨b1, b2⟩ | ⟨b1, b2, b3, b4⟩
   ·omega
   ·omega
   ·omega
   ·rw [a4] at b4; exact Option.some.inj b4
theorem keeps_take {H H' : AHeap} (h : Keeps H H') : H'.take H.length = H := by
 refine List.ext_getElem? fun i => ?_
 rw [List.getElem?_take]
 by_cases hi : i < H.length
 ·rw [if_pos hi, h.at_ i hi]
 ·rw [if_neg hi, List.getElem?_eq_none (by omega)]
theorem left_keeps {H H' : AHeap} (hc : ClosedH H) (hk : Keeps H H') (ks : List Nat) (is : List (Nat × List AVal)) (hks : ∀ m ∈ ks, H.length ≤ m)
  (his : ∀ p ∈ is, ∃ cs0, content H'[p.1]? = some cs0 ∧ p.2 = mvs (toF H.length ks is) cs0 ∧ colds (toF H.length ks is) cs0)
  (hnd : ks.Nodup) : Left H H' (toF H.length ks is) (H ++ ks.map fun m => mvBlk (toF H.length ks is) (H'.getD m .dead)) := by
 have := left_of (H' := H') hc hk.le ks is (fun n c hn h => .inl (by rw [← hk.at_ n hn]; exact h)) hks his hnd
 rwa [keeps_take hk] at this
end Go.Am

namespace Go.Am
open Go
def Sees (a a' : AVal) : Prop := ∀ e v, VRel e a v → VRel e a' v
def SeesL (as as' : List AVal) : Prop := as.length = as'.length ∧ ∀ (i : Nat) (h : i < as.length) (h' : i < as'.length), Sees as[i] as'[i]
theorem Sees.refl (a : AVal) : Sees a a := fun _ _ h => h
theorem Sees.nils (t : Bool) : Sees .nils (.imm [] 0 t) := fun e v h => by
 simp only [VRel] at h; subst h
 unfold VRel
 exact ⟨none, 0, rfl, Nat.le_refl _, fun _ => rfl, .inl ⟨rfl, rfl⟩⟩
theorem Sees.loose (cs : List AVal) (n : Nat) (t : Bool) : Sees (.imm cs n t) (.imm cs n false) := fun e v h => by
 simp only [VRel] at h ⊢
 obtain ⟨a, cap, h1, h2, h3, h4⟩ := h
 exact ⟨a, cap, h1, h2, by simp, h4⟩
theorem SeesL.nil : SeesL [] [] := ⟨rfl, fun i h => by simp at h⟩
theorem SeesL.cons {a a' : AVal} {as as' : List AVal} (h : Sees a a') (hs : SeesL as as') : SeesL (a :: as) (a' :: as') :=
 ⟨by simp [hs.1], fun i h1 h2 => by
  cases i with
  | zero => exact h
  | succ i => exact hs.2 i (by simpa using h1) (by simpa using h2)⟩
theorem SeesL.refl (as : List AVal) : SeesL as as := ⟨rfl, fun i h _ => Sees.refl _⟩
theorem vsRel_sees {e : Nm} {as as' : List AVal} {g : Nat → Option Value} (hs : SeesL as as') (h : VsRel e as g) : VsRel e as' g := by
 rw [vsRel_iff] at h ⊢
 intro i hi
 have hl := hs.1
 obtain ⟨v, h1, h2⟩ := h i (by omega)
 exact ⟨v, h1, hs.2 i (by omega) hi _ _ h2⟩
theorem Sees.imm {cs cs' : List AVal} (h : SeesL cs cs') (n : Nat) (t : Bool) : Sees (.imm cs n t) (.imm cs' n t) := fun e v hv => by
 simp only [VRel] at hv ⊢
 obtain ⟨a, cap, h1, h2, h3, h4⟩ := hv
 refine ⟨a, cap, h1, h2, h3, ?_⟩
 rcases h4 with ⟨rfl, h4⟩ | ⟨b, o, g1, g2, arr, el, fz, g3, g4⟩
 ·have : cs' = [] := List.length_eq_zero_iff.1 (by have := h.1; simpa using this.symm)
  exact .inl ⟨this, h4⟩
 ·exact .inr ⟨b, o, g1, g2, arr, el, fz, g3, vsRel_sees h g4⟩
theorem Sees.agg {cs cs' : List AVal} (h : SeesL cs cs') : Sees (.agg cs) (.agg cs') := fun e v hv => by
 simp only [VRel] at hv ⊢
 obtain ⟨arr, h1, h2, h3⟩ := hv
 exact ⟨arr, h1, by rw [← h.1]; exact h2, vsRel_sees h h3⟩
theorem Sees.tup {cs cs' : List AVal} (h : SeesL cs cs') : Sees (.tup cs) (.tup cs') := fun e v hv => by
 simp only [VRel] at hv ⊢
 obtain ⟨arr, h1, h2, h3⟩ := hv
 exact ⟨arr, h1, by rw [← h.1]; exact h2, vsRel_sees h h3⟩
theorem Sees.fn {f : FuncId} {a a' b b' : List AVal} (h : SeesL a a') (h' : SeesL b b') : Sees (.fn f a b) (.fn f a' b') := fun e v hv => by
 simp only [VRel] at hv ⊢
 obtain ⟨xs, ys, h1, h2, h3, h4, h5⟩ := hv
 exact ⟨xs, ys, h1, by rw [← h.1]; exact h2, by rw [← h'.1]; exact h3, vsRel_sees h h4, vsRel_sees h' h5⟩
section
variable {P : Program} {c : Ctx} {k : List AItem} {r : Regs} {H : AHeap} {Q Q' : AVal → AHeap → Prop}
theorem fun_sees {f : FuncId} {args args' : List AVal} (hs : SeesL args args') (h : FunOK P f args' H Q) : FunOK P f args H Q :=
 ⟨h.1, fun ρ vs w h1 h2 h3 cs => h.2 ρ vs w (by rw [← hs.1]; exact h1) (vsRel_sees hs h2) h3 cs⟩
theorem fun_less {f : FuncId} {args : List AVal} (h : FunOK P f args H Q') (hq : ∀ av H', Q' av H' → ∃ av', Sees av av' ∧ Q av' H') : FunOK P f args H Q :=
 ⟨h.1, fun ρ vs w h1 h2 h3 cs => by
  obtain ⟨av, H', ρ', v, w', fr, q1, q2, q3, q4, q5, q6, q7⟩ := h.2 ρ vs w h1 h2 h3 cs
  obtain ⟨av', g1, g2⟩ := hq av H' q1
  exact ⟨av', H', ρ', v, w', fr, g2, q2, q3, q4, g1 _ _ q5, q6, q7⟩⟩
theorem fun_ice {f : FuncId} {args : List AVal} (hcb : Callable P f) (h : ClosedH H → closeds H.length args → FunOK P f args H fun av H' => Keeps H H' ∧ ∃ is av',
   (∀ p ∈ is, ∃ cs0, content H'[p.1]? = some cs0 ∧ p.2 = mvs (toF H.length [] is) cs0 ∧ colds (toF H.length [] is) cs0) ∧ Sees (mv (toF H.length [] is) av) av' ∧ Q av' H) : FunOK P f args H Q :=
 fun_less (Q' := fun av H' => ∃ av', Sees av av' ∧ Q av' H') (fun_gh h (fun av H' hc _ ⟨hk, is, av', his, hs, hq⟩ => ⟨toF H.length [] is, H, by simpa using left_keeps hc hk [] is (by simp) his (by simp), av', hs, hq⟩) hcb) fun _ _ h => h
end
structure Own (w : Nat) (el : TypeId) (B : Nat) (H : AHeap) (a : AVal) (n : Nat) (cs : List AVal) : Prop where
 len : cs.length = n * w
 is : (a = .nils ∧ n = 0) ∨ ∃ m, B ≤ m ∧ a = .slc m 0 n w ∧ H[m]? = some (.vec cs el w)
theorem Own.nil {w : Nat} {el : TypeId} {B : Nat} {H : AHeap} : Own w el B H .nils 0 [] := ⟨by simp, .inl ⟨rfl, rfl⟩⟩
theorem Own.slen {w : Nat} {el : TypeId} {B : Nat} {H : AHeap} {a : AVal} {n : Nat} {cs : List AVal} (h : Own w el B H a n cs) : slen a = some n := by
 rcases h.is with ⟨rfl, rfl⟩ | ⟨m, _, rfl, _⟩ <;> rfl
theorem Own.view {w : Nat} {el : TypeId} {B : Nat} {H : AHeap} {a : AVal} {n : Nat} {cs : List AVal} (h : Own w el B H a n cs) : view H a = some cs := by
 have hl := h.len
 rcases h.is with ⟨rfl, rfl⟩ | ⟨m, _, rfl, hm⟩
 ·have : cs = [] := List.length_eq_zero_iff.1 (by simpa using hl)
  subst this; rfl
 ·simp [Am.view, hm, content, ← hl]
theorem Own.src {w : Nat} {el : TypeId} {B : Nat} {H : AHeap} {a : AVal} {n : Nat} {cs : List AVal} (h : Own w el B H a n cs) : srcLen a = some n ∧ srcCells H a = some cs := by
 have h1 := h.slen
 have h2 := h.view
 rcases h.is with ⟨rfl, rfl⟩ | ⟨m, _, rfl, _⟩ <;> exact ⟨h1, h2⟩
theorem Own.cell {w : Nat} {el : TypeId} {B : Nat} {H : AHeap} {a : AVal} {n : Nat} {cs : List AVal} (h : Own w el B H a n cs) : a.cells = [a] ∧ a.cellish = true := by
 rcases h.is with ⟨rfl, rfl⟩ | ⟨m, _, rfl, _⟩ <;> exact ⟨rfl, rfl⟩
theorem Own.moved {w : Nat} {el : TypeId} {B : Nat} {H H' : AHeap} {a : AVal} {n : Nat} {cs : List AVal} (h : Own w el B H a n cs) (hk : ∀ m ∈ a.names, H'[m]? = H[m]?) : Own w el B H' a n cs := by
 refine ⟨h.len, ?_⟩
 rcases h.is with ⟨rfl, rfl⟩ | ⟨m, hb, rfl, hm⟩
 ·exact .inl ⟨rfl, rfl⟩
 ·exact .inr ⟨m, hb, rfl, by rw [hk m (by simp [AVal.names])]; exact hm⟩
theorem Own.keep {w : Nat} {el : TypeId} {B : Nat} {H H' : AHeap} {a : AVal} {n : Nat} {cs : List AVal} (h : Own w el B H a n cs) (hk : Keeps H H') : Own w el B H' a n cs := by
 refine ⟨h.len, ?_⟩
 rcases h.is with ⟨rfl, rfl⟩ | ⟨m, hb, rfl, hm⟩
 ·exact .inl ⟨rfl, rfl⟩
 ·exact .inr ⟨m, hb, rfl, hk.get hm⟩
theorem Own.lt {w : Nat} {el : TypeId} {B : Nat} {H : AHeap} {a : AVal} {n : Nat} {cs : List AVal} (h : Own w el B H a n cs) : ∀ m ∈ a.names, B ≤ m ∧ m < H.length := by
 rcases h.is with ⟨rfl, rfl⟩ | ⟨m, hb, rfl, hm⟩
 ·intro m hm; cases hm
 ·intro k hk
  simp [AVal.names] at hk; subst hk
  exact ⟨hb, (List.getElem?_eq_some_iff.1 hm).1⟩
theorem Own.append2 {w : Nat} {el : TypeId} {B : Nat} {H : AHeap} {a x : AVal} {n k : Nat} {cs ys : List AVal} (h : Own w el B H a n cs) (bytes : Nat) (hB : B ≤ H.length) (h1 : srcLen x = some k) (h2 : srcCells H x = some ys) (hy : ys.length = k * w) (hw : 0 < w)
  (hl : (n + k) * bytes ≤ 140737488355328) (hl2 : n + k ≤ 9223372036854775807) (hc : ys.all AVal.cellish = true) :
  ∃ v H' p, appendA H el w bytes a x = some (p, v, H') ∧ p ∧ Own w el B H' v (n + k) (cs ++ ys) ∧ Touches a.names H v.names H' ∧ (∀ m ∈ v.names, H.length ≤ m) := by
 have hcs := h.len
 rcases h.is with ⟨rfl, rfl⟩ | ⟨m, hm, rfl, hb⟩
 ·have : cs = [] := List.length_eq_zero_iff.1 (by simpa using hcs)
  subst this
  rw [Nat.zero_add] at hl hl2
  refine ⟨_, _, _, by simp only [appendA, h1, h2]; rfl, ?_, ⟨by simpa using hy, .inr ⟨H.length, hB, by rw [Nat.zero_add], by simp⟩⟩, ?_, ?_⟩
  ·exact ⟨hy, hw, hl, hl2⟩
  ·exact ⟨by simp, fun m hm => by simp [AVal.names] at hm; exact .inr (by omega), fun m hm _ => List.getElem?_append_left hm⟩
  ·intro m hm; simp [AVal.names] at hm; omega
 ·refine ⟨_, _, _, by simp only [appendA, h1, h2, hb]; rfl, ?_, ⟨by rw [List.length_append, hcs, hy, Nat.add_mul], .inr ⟨(H.set m .dead).length, by simp; exact hB, by simp, by simp⟩⟩, ?_, ?_⟩
  ·exact ⟨hy, hw, hl, hl2, trivial, trivial, trivial, trivial, hcs, hc⟩
  ·refine ⟨by simp, fun m hm => by simp [AVal.names] at hm; exact .inr (by omega), fun m hm hf => ?_⟩
   rw [List.getElem?_append_left (by simpa using hm), List.getElem?_set_ne]
   simp [AVal.names] at hf; omega
  ·intro m hm; simp [AVal.names] at hm; omega
section
variable {P : Program} {H : AHeap} {Q : AVal → AHeap → Prop}
theorem closeds_ints {L : Nat} (k : IntKind) (xs : List Nat) : closeds L (xs.map fun n : Nat => AVal.int k (n : Int)) := by
 induction xs with
 | nil => trivial
 | cons x xs ih => exact ⟨trivial, ih⟩
theorem closeds_append {L : Nat} : ∀ {as bs : List AVal}, closeds L as → closeds L bs → closeds L (as ++ bs)
 | [], _, _, h => h
 | a :: as, bs, h, h' => ⟨h.1, closeds_append h.2 h'⟩
theorem closeds_all {L : Nat} : ∀ {as : List AVal}, (∀ a ∈ as, closed L a) → closeds L as
 | [], _ => trivial
 | a :: as, h => ⟨h a (by simp), closeds_all fun x hx => h x (by simp [hx])⟩
end
def iceF (m : Nat) (cs : List AVal) (n : Nat) : To := if n = m then .ice cs else .keep n
theorem ghost_ice {H : AHeap} {m : Nat} {cs : List AVal} (hc : content H[m]? = some cs) (hcl : colds (iceF m cs) cs) (hid : mvs (iceF m cs) cs = cs) {H2 : AHeap} (hl : H2.length = H.length) (hd : H2[m]? = some .dead)
  (hb : ∀ n c, n ≠ m → H[n]? = some c → ∃ c2, H2[n]? = some c2 ∧ Mv (iceF m cs) c c2) : Ghost (iceF m cs) H H2 where
 live n' ha := by
  have hne : n' ≠ m := by
   rintro rfl
   simp [alive, hd, ABlk.isLive] at ha
  have hlt := alive_lt ha
  obtain ⟨c2, h1, h2⟩ := hb n' _ hne (List.getElem?_eq_getElem (by omega : n' < H.length))
  exact ⟨n', _, c2, by simp [iceF, hne], List.getElem?_eq_getElem (by omega), h1, h2⟩
 ice n cs' h hn := by
  unfold iceF at h
  split at h
  ·cases h; subst_vars; exact ⟨cs, hc, hid.symm, hcl⟩
  ·cases h
 lt n n' hn h := by
  unfold iceF at h
  split at h
  ·cases h
  ·cases h; omega
 inj n k n' h1 h2 := by
  unfold iceF at h1 h2
  split at h1 <;> split at h2 <;> first | (cases h1; done) | (cases h2; done) | skip
  cases h1; cases h2; rfl
end Go.Am

namespace Go.Am
open Go
def nums (k : IntKind) (t : Bool) (xs : List Nat) : AVal := .imm (xs.map fun n : Nat => AVal.int k (n : Int)) xs.length t
def ints (t : Bool) (xs : List Int) : AVal := .imm (xs.map fun n : Int => AVal.int .i64 n) xs.length t
def recs {α : Type} (enc : α → List AVal) (t : Bool) (xs : List α) : AVal := .imm (xs.flatMap enc) xs.length t
def cell (a : AVal) : AVal := .sptr (.imm [a] 1 true) 0
section
variable {k : IntKind} {t : Bool} {xs : List Nat} {ys : List Int} {H : AHeap}
theorem nums_nats (k : IntKind) (t : Bool) (xs : List Nat) (H : AHeap) : Nats k H (nums k t xs) xs := ⟨by simp [nums, slen], by simp [nums, view], fun _ _ _ _ h => by cases h⟩
theorem slen_nums : slen (nums k t xs) = some xs.length := rfl
theorem slen_ints : slen (ints t ys) = some ys.length := rfl
theorem slen_recs {α : Type} {enc : α → List AVal} {zs : List α} : slen (recs enc t zs) = some zs.length := rfl
theorem view_nums : view H (nums k t xs) = some (xs.map fun n : Nat => AVal.int k (n : Int)) := rfl
theorem view_ints : view H (ints t ys) = some (ys.map fun n : Int => AVal.int .i64 n) := rfl
theorem view_recs {α : Type} {enc : α → List AVal} {zs : List α} : view H (recs enc t zs) = some (zs.flatMap enc) := rfl
theorem srcLen_nums : srcLen (nums k t xs) = some xs.length := rfl
theorem srcLen_ints : srcLen (ints t ys) = some ys.length := rfl
theorem srcLen_recs {α : Type} {enc : α → List AVal} {zs : List α} : srcLen (recs enc t zs) = some zs.length := rfl
theorem srcCells_nums : srcCells H (nums k t xs) = some (xs.map fun n : Nat => AVal.int k (n : Int)) := rfl
theorem srcCells_ints : srcCells H (ints t ys) = some (ys.map fun n : Int => AVal.int .i64 n) := rfl
theorem srcCells_recs {α : Type} {enc : α → List AVal} {zs : List α} : srcCells H (recs enc t zs) = some (zs.flatMap enc) := rfl
theorem cells_nums : (nums k t xs).cells = [nums k t xs] := rfl
theorem cells_ints : (ints t ys).cells = [ints t ys] := rfl
theorem cells_recs {α : Type} {enc : α → List AVal} {zs : List α} : (recs enc t zs).cells = [recs enc t zs] := rfl
theorem cells_cell {a : AVal} : (cell a).cells = [cell a] := rfl
theorem cellish_nums : (nums k t xs).cellish = true := rfl
theorem cellish_ints : (ints t ys).cellish = true := rfl
theorem cellish_recs {α : Type} {enc : α → List AVal} {zs : List α} : (recs enc t zs).cellish = true := rfl
theorem cellish_cell {a : AVal} : (cell a).cellish = true := rfl
theorem load_nums {j : Nat} (h : j < xs.length) : loadA H none (.sptr (nums k t xs) j) = some (True, .int k ((xs.getD j 0 : Nat) : Int)) := (nums_nats k t xs H).load h
theorem load_ints {j : Nat} (h : j < ys.length) : loadA H none (.sptr (ints t ys) j) = some (True, .int .i64 (ys.getD j 0)) := by
 simp only [loadA, cellsAt, view_ints, Option.map_some]
 congr 2
 ·simp; omega
 ·rw [List.headD_eq_head?_getD, List.head?_drop]
  simp [h]
theorem flatMap_drop {α : Type} {enc : α → List AVal} {w : Nat} (hw : ∀ z, (enc z).length = w) : ∀ (zs : List α) (j : Nat), (zs.flatMap enc).drop (j * w) = (zs.drop j).flatMap enc
 | zs, 0 => by simp
 | [], j + 1 => by simp
 | z :: zs, j + 1 => by
  rw [List.flatMap_cons, Nat.add_mul, Nat.one_mul, Nat.add_comm, List.drop_append, hw, List.drop_eq_nil_of_le (by rw [hw]; omega), List.nil_append, Nat.add_sub_cancel_left, flatMap_drop hw zs j]
  simp
theorem flatMap_take {α : Type} {enc : α → List AVal} {w : Nat} (hw : ∀ z, (enc z).length = w) : ∀ (zs : List α) (j : Nat), (zs.flatMap enc).take (j * w) = (zs.take j).flatMap enc
 | zs, 0 => by simp
 | [], j + 1 => by simp
 | z :: zs, j + 1 => by
  rw [List.flatMap_cons, Nat.add_mul, Nat.one_mul, Nat.add_comm, List.take_append, hw, List.take_of_length_le (by rw [hw]; omega), Nat.add_sub_cancel_left, flatMap_take hw zs j]
  simp
theorem flatMap_length {α : Type} {enc : α → List AVal} {w : Nat} (hw : ∀ z, (enc z).length = w) : ∀ (zs : List α), (zs.flatMap enc).length = zs.length * w
 | [] => by simp
 | z :: zs => by rw [List.flatMap_cons, List.length_append, flatMap_length hw zs, hw, List.length_cons, Nat.add_mul]; omega
theorem load_recs {α : Type} [Inhabited α] {enc : α → List AVal} {w : Nat} (hw : ∀ z, (enc z).length = w) {zs : List α} {j : Nat} (h : j < zs.length) : loadA H (some w) (.sptr (recs enc t zs) (j * w)) = some (True, .agg (enc (zs.getD j default))) := by
 simp only [loadA, cellsAt, view_recs, Option.map_some, flatMap_drop hw]
 have hd := List.drop_eq_getElem_cons h
 rw [hd, List.flatMap_cons]
 congr 2
 ·simp [hw]
 ·rw [List.take_append, hw, List.take_of_length_le (by rw [hw]; omega), Nat.sub_self, List.take_zero, List.append_nil]
  simp [List.getD_eq_getElem?_getD, h]
theorem load_rec1 {α : Type} [Inhabited α] {enc : α → List AVal} {w : Nat} (hw : ∀ z, (enc z).length = w) {zs : List α} {j o : Nat} (h : j < zs.length) (ho : o < w) : loadA H none (.sptr (recs enc t zs) (j * w + o)) = some (True, (enc (zs.getD j default)).getD o .junk) := by
 simp only [loadA, cellsAt, view_recs, Option.map_some, ← List.drop_drop, flatMap_drop hw]
 have hd := List.drop_eq_getElem_cons h
 rw [hd, List.flatMap_cons, List.drop_append, hw]
 have e : o - w = 0 := by omega
 rw [e, List.drop_zero]
 have hl : o < (enc zs[j]).length := by rw [hw]; exact ho
 congr 2
 ·simp [hw]; omega
 ·rw [List.headD_eq_head?_getD, List.head?_append, List.head?_drop]
  simp [List.getD_eq_getElem?_getD, h, hl]
theorem load_cellV {a : AVal} : loadA H none (cell a) = some (True, a) := by
 simp [cell, loadA, cellsAt, view]
theorem slice_nums {lo hi mx : Option Int} {l r : Nat} (hl : lo.getD 0 = l) (hr : hi.getD xs.length = r) (hm : ((r : Nat) : Int) ≤ mx.getD xs.length) (hm2 : mx.getD xs.length ≤ xs.length) (hle : l ≤ r) :
  sliceA 1 (nums k t xs) lo hi mx = some (True, nums k ((t && mx.isNone && decide (r = xs.length)) || (mx.isSome && decide (r = (mx.getD xs.length).toNat))) ((xs.drop l).take (r - l))) := by
 simp only [sliceA, nums, bounds, hl, hr, Int.toNat_natCast, Nat.mul_one, List.length_map]
 congr 2
 ·simp; omega
 ·congr 1
  ·simp [List.map_take, List.map_drop]
  ·simp; omega
theorem slice_ints {lo hi mx : Option Int} {l r : Nat} (hl : lo.getD 0 = l) (hr : hi.getD ys.length = r) (hm : ((r : Nat) : Int) ≤ mx.getD ys.length) (hm2 : mx.getD ys.length ≤ ys.length) (hle : l ≤ r) :
  sliceA 1 (ints t ys) lo hi mx = some (True, ints ((t && mx.isNone && decide (r = ys.length)) || (mx.isSome && decide (r = (mx.getD ys.length).toNat))) ((ys.drop l).take (r - l))) := by
 simp only [sliceA, ints, bounds, hl, hr, Int.toNat_natCast, Nat.mul_one, List.length_map]
 congr 2
 ·simp; omega
 ·congr 1
  ·simp [List.map_take, List.map_drop]
  ·simp; omega
theorem slice_recs {α : Type} {enc : α → List AVal} {w : Nat} (hw : ∀ z, (enc z).length = w) {zs : List α} {lo hi mx : Option Int} {l r : Nat} (hl : lo.getD 0 = l) (hr : hi.getD zs.length = r) (hm : ((r : Nat) : Int) ≤ mx.getD zs.length) (hm2 : mx.getD zs.length ≤ zs.length) (hle : l ≤ r) :
  sliceA w (recs enc t zs) lo hi mx = some (True, recs enc ((t && mx.isNone && decide (r = zs.length)) || (mx.isSome && decide (r = (mx.getD zs.length).toNat))) ((zs.drop l).take (r - l))) := by
 simp only [sliceA, recs, bounds, hl, hr, Int.toNat_natCast, flatMap_length hw, flatMap_drop hw, flatMap_take hw]
 congr 2
 ·simp; omega
 ·congr 1
  simp; omega
end
theorem closed_nums {L : Nat} (k : IntKind) (t : Bool) (xs : List Nat) : closed L (nums k t xs) := closeds_ints k xs
theorem closed_ints {L : Nat} (t : Bool) (xs : List Int) : closed L (ints t xs) := closeds_all fun a ha => by
 obtain ⟨n, _, rfl⟩ := List.mem_map.1 ha; trivial
theorem closed_recs {L : Nat} {α : Type} {enc : α → List AVal} (t : Bool) (xs : List α) (h : ∀ x ∈ xs, closeds L (enc x)) : closed L (recs enc t xs) := by
 simp only [recs, closed]
 induction xs with
 | nil => trivial
 | cons x xs ih => exact closeds_append (h x (by simp)) (ih fun y hy => h y (by simp [hy]))
section
variable {k : IntKind} {t : Bool} {xs : List Nat} {ys : List Int}
theorem slice_nums_from {l : Int} (h : 0 ≤ l) (h' : l ≤ xs.length) : sliceA 1 (nums k t xs) (some l) none none = some (True, nums k t (xs.drop l.toNat)) := by
 rw [slice_nums (l := l.toNat) (r := xs.length) (by simp; omega) rfl (by simp) (by simp) (by omega), List.take_of_length_le (by simp)]
 simp
theorem slice_nums_to {r : Int} (h : 0 ≤ r) (h' : r ≤ xs.length) : sliceA 1 (nums k t xs) none (some r) none = some (True, nums k (t && decide (r.toNat = xs.length)) (xs.take r.toNat)) := by
 rw [slice_nums (l := 0) (r := r.toNat) (by simp) (by simp; omega) (by simp; omega) (by simp) (by omega)]
 simp
theorem slice_nums_both {l r : Int} (h : 0 ≤ l) (hlr : l ≤ r) (h' : r ≤ xs.length) : sliceA 1 (nums k t xs) (some l) (some r) none = some (True, nums k (t && decide (r.toNat = xs.length)) ((xs.drop l.toNat).take (r.toNat - l.toNat))) := by
 rw [slice_nums (l := l.toNat) (r := r.toNat) (by simp; omega) (by simp; omega) (by simp; omega) (by simp) (by omega)]
 simp
theorem slice_nums_cap {r : Int} (h : 0 ≤ r) (h' : r ≤ xs.length) : sliceA 1 (nums k t xs) none (some r) (some r) = some (True, nums k true (xs.take r.toNat)) := by
 rw [slice_nums (l := 0) (r := r.toNat) (by simp) (by simp; omega) (by simp; omega) (by simp; omega) (by omega)]
 simp
theorem slice_nums_cap2 {l r : Int} (h : 0 ≤ l) (hlr : l ≤ r) (h' : r ≤ xs.length) : sliceA 1 (nums k t xs) (some l) (some r) (some r) = some (True, nums k true ((xs.drop l.toNat).take (r.toNat - l.toNat))) := by
 rw [slice_nums (l := l.toNat) (r := r.toNat) (by simp; omega) (by simp; omega) (by simp; omega) (by simp; omega) (by omega)]
 simp
theorem slice_nums_all : sliceA 1 (nums k t xs) none none none = some (True, nums k t xs) := by
 rw [slice_nums (l := 0) (r := xs.length) (by simp) (by simp) (by simp) (by simp) (by omega), List.take_of_length_le (by simp)]
 simp
theorem slice_ints_from {l : Int} (h : 0 ≤ l) (h' : l ≤ ys.length) : sliceA 1 (ints t ys) (some l) none none = some (True, ints t (ys.drop l.toNat)) := by
 rw [slice_ints (l := l.toNat) (r := ys.length) (by simp; omega) rfl (by simp) (by simp) (by omega), List.take_of_length_le (by simp)]
 simp
theorem slice_ints_to {r : Int} (h : 0 ≤ r) (h' : r ≤ ys.length) : sliceA 1 (ints t ys) none (some r) none = some (True, ints (t && decide (r.toNat = ys.length)) (ys.take r.toNat)) := by
 rw [slice_ints (l := 0) (r := r.toNat) (by simp) (by simp; omega) (by simp; omega) (by simp) (by omega)]
 simp
theorem slice_ints_both {l r : Int} (h : 0 ≤ l) (hlr : l ≤ r) (h' : r ≤ ys.length) : sliceA 1 (ints t ys) (some l) (some r) none = some (True, ints (t && decide (r.toNat = ys.length)) ((ys.drop l.toNat).take (r.toNat - l.toNat))) := by
 rw [slice_ints (l := l.toNat) (r := r.toNat) (by simp; omega) (by simp; omega) (by simp; omega) (by simp) (by omega)]
 simp
theorem slice_recs_to {α : Type} {enc : α → List AVal} {w : Nat} (hw : ∀ z, (enc z).length = w) {zs : List α} {r : Int} (h : 0 ≤ r) (h' : r ≤ zs.length) : sliceA w (recs enc t zs) none (some r) none = some (True, recs enc (t && decide (r.toNat = zs.length)) (zs.take r.toNat)) := by
 rw [slice_recs hw (l := 0) (r := r.toNat) (by simp) (by simp; omega) (by simp; omega) (by simp) (by omega)]
 simp
end
theorem at_0 {H0 L : AHeap} : (H0 ++ L)[H0.length]? = L[0]? := by rw [List.getElem?_append_right (Nat.le_refl _), Nat.sub_self]
theorem at_k {H0 L : AHeap} {k : Nat} : (H0 ++ L)[H0.length + k]? = L[k]? := by rw [List.getElem?_append_right (Nat.le_add_right _ _), Nat.add_sub_cancel_left]
theorem set_0 {H0 L : AHeap} {b : ABlk} : (H0 ++ L).set H0.length b = H0 ++ L.set 0 b := by rw [List.set_append_right _ _ (Nat.le_refl _), Nat.sub_self]
theorem set_k {H0 L : AHeap} {k : Nat} {b : ABlk} : (H0 ++ L).set (H0.length + k) b = H0 ++ L.set k b := by rw [List.set_append_right _ _ (Nat.le_add_right _ _), Nat.add_sub_cancel_left]
theorem at_low {H0 L : AHeap} {n : Nat} (h : n < H0.length) : (H0 ++ L)[n]? = H0[n]? := List.getElem?_append_left h
theorem set_low {H0 L : AHeap} {n : Nat} {b : ABlk} (h : n < H0.length) : (H0 ++ L).set n b = H0.set n b ++ L := List.set_append_left _ _ h
theorem callable_of {P : Program} {f : FuncId} {a : AFun} (hf : okFun P f a = true) : Callable P f := by
 unfold okFun at hf
 cases hp : P.funcs[f]? with
 | none => simp [hp] at hf
 | some fn =>
  simp only [hp] at hf
  cases hb : fn.body with
  | none => simp [hb] at hf
  | some cd =>
   simp only [hb, Bool.and_eq_true, Bool.not_eq_true', beq_iff_eq, decide_eq_true_eq] at hf
   exact ⟨fn, cd, hp, hb, hf.1.1.1.2⟩
theorem run_V0 {P : Program} {c : Ctx} {Q : AVal → AHeap → Prop} (n : Nat) {k : List AItem} {r : Regs} {H : AHeap} (h : V P c Q [] n (.todo k r H)) : Run P c k r H Q := by
 have := run_V n h
 rwa [List.append_nil] at this
theorem keeps_append (H L : AHeap) : Keeps H (H ++ L) := ⟨by simp, fun n hn => List.getElem?_append_left hn⟩
def IceQ (H : AHeap) (Q : AVal → AHeap → Prop) (av : AVal) (H' : AHeap) : Prop := Keeps H H' ∧ ∃ is av',
 (∀ p ∈ is, ∃ cs0, content H'[p.1]? = some cs0 ∧ p.2 = mvs (toF H.length [] is) cs0 ∧ colds (toF H.length [] is) cs0) ∧ Sees (mv (toF H.length [] is) av) av' ∧ Q av' H
theorem ice_none {H L : AHeap} {Q : AVal → AHeap → Prop} {av : AVal} (ha : closed H.length av) (hq : Q av H) : IceQ H Q av (H ++ L) :=
 ⟨keeps_append _ _, [], _, by simp, Sees.refl _, by rw [mv_id (L := H.length) (fun _ h => toF_low h) av ha]; exact hq⟩
theorem ice_keeps {H H' : AHeap} {Q : AVal → AHeap → Prop} {av : AVal} (hk : Keeps H H') (ha : closed H.length av) (hq : Q av H) : IceQ H Q av H' :=
 ⟨hk, [], _, by simp, Sees.refl _, by rw [mv_id (L := H.length) (fun _ h => toF_low h) av ha]; exact hq⟩
theorem ice_clo2 {H L : AHeap} {Q : AVal → AHeap → Prop} {g : FuncId} {a b : AVal} {T T' : TypeId} (ha : closed H.length a) (hb : closed H.length b) (hq : Q (.fn g [] [cell a, cell b]) H) : IceQ H Q (.fn g [] [.ptr H.length 0, .ptr (H.length + 1) 0]) (H ++ .cells [a] T :: .cells [b] T' :: L) := by
 refine ⟨keeps_append _ _, [(H.length, [a]), (H.length + 1, [b])], .fn g [] [cell a, cell b], ?_, ?_, hq⟩
 ·intro p hp
  simp only [List.mem_cons, List.not_mem_nil, or_false] at hp
  rcases hp with rfl | rfl
  ·have hc : closeds H.length [a] := ⟨ha, trivial⟩
   exact ⟨[a], by simp [content], (mvs_id (L := H.length) (fun _ h => toF_low h) _ hc).symm, colds_of (L := H.length) (fun _ h => toF_low h) _ hc⟩
  ·have hc : closeds H.length [b] := ⟨hb, trivial⟩
   exact ⟨[b], by simp [content], (mvs_id (L := H.length) (fun _ h => toF_low h) _ hc).symm, colds_of (L := H.length) (fun _ h => toF_low h) _ hc⟩
 ·have h1 : toF H.length [] [(H.length, [a]), (H.length + 1, [b])] H.length = .ice [a] := by simp [toF, findN, findI]
  have h2 : toF H.length [] [(H.length, [a]), (H.length + 1, [b])] (H.length + 1) = .ice [b] := by simp [toF, findN, findI]
  simp only [mv, mvs, h1, h2, mvPtr]
  exact Sees.refl _
theorem ice_own {H H' : AHeap} {Q : AVal → AHeap → Prop} {a : AVal} {w n : Nat} {el : TypeId} {cs : List AVal} (hk : Keeps H H') (ho : Own w el H.length H' a n cs) (hc : closeds H.length cs) (hq : Q (.imm cs n false) H) : IceQ H Q a H' := by
 refine ⟨hk, ?_⟩
 have hl := ho.len
 rcases ho.is with ⟨rfl, rfl⟩ | ⟨m, hb, rfl, hm⟩
 ·have : cs = [] := List.length_eq_zero_iff.1 (by simpa using hl)
  subst this
  exact ⟨[], _, by simp, Sees.nils false, hq⟩
 ·refine ⟨[(m, cs)], .imm cs n false, ?_, ?_, hq⟩
  ·intro p hp
   simp only [List.mem_singleton] at hp
   subst hp
   exact ⟨cs, by simp [hm, content], (mvs_id (L := H.length) (fun _ h => toF_low h) cs hc).symm, colds_of (L := H.length) (fun _ h => toF_low h) cs hc⟩
  ·have : toF H.length [] [(m, cs)] m = .ice cs := by
    unfold toF; rw [if_neg (by omega)]; simp [findN, findI]
   simp only [mv, this, mvSlc, List.drop_zero, ← hl, List.take_length]
   exact Sees.refl _
def Fin (H H' : AHeap) (a a' : AVal) : Prop := (closed H.length a ∧ a' = a) ∨ ∃ w n el cs, Own w el H.length H' a n cs ∧ closeds H.length cs ∧ a' = .imm cs n false
theorem Fin.same {H H' : AHeap} {a : AVal} (h : closed H.length a) : Fin H H' a a := .inl ⟨h, rfl⟩
theorem Fin.own {H H' : AHeap} {a : AVal} {w n : Nat} {el : TypeId} {cs : List AVal} (h : Own w el H.length H' a n cs) (hc : closeds H.length cs) : Fin H H' a (.imm cs n false) := .inr ⟨w, n, el, cs, h, hc, rfl⟩
def icesOf (L : Nat) : List (AVal × AVal) → List (Nat × List AVal)
 | [] => []
 | (.slc m _ _ _, .imm cs _ _) :: l => if m < L then icesOf L l else (m, cs) :: icesOf L l
 | _ :: l => icesOf L l
theorem icesOf_mem {L : Nat} : ∀ {l : List (AVal × AVal)} {m : Nat} {cs : List AVal}, (m, cs) ∈ icesOf L l → L ≤ m ∧ ∃ o n z k t, (AVal.slc m o n z, AVal.imm cs k t) ∈ l
 | [], m, cs, h => by simp [icesOf] at h
 | (a, b) :: l, m, cs, h => by
  have key : (m, cs) ∈ icesOf L l → L ≤ m ∧ ∃ o n z k t, (AVal.slc m o n z, AVal.imm cs k t) ∈ (a, b) :: l := fun h => by
   obtain ⟨h1, o, n, z, k, t, h2⟩ := icesOf_mem h
   exact ⟨h1, o, n, z, k, t, List.mem_cons_of_mem _ h2⟩
  unfold icesOf at h
  split at h
  ·cases ‹_ :: _ = []›
  ·rename_i heq
   cases heq
   split at h
   ·exact key h
   ·rcases List.mem_cons.1 h with h | h
    ·cases h; exact ⟨by omega, _, _, _, _, _, List.mem_cons_self⟩
    ·exact key h
  ·rename_i heq
   cases heq
   exact key h
theorem icesOf_has {L : Nat} : ∀ {l : List (AVal × AVal)} {m o n z k : Nat} {cs : List AVal} {t : Bool}, (AVal.slc m o n z, AVal.imm cs k t) ∈ l → L ≤ m → ∃ cs', findI m (icesOf L l) = some cs'
 | [], m, o, n, z, k, cs, t, h, hm => by cases h
 | (a, b) :: l, m, o, n, z, k, cs, t, h, hm => by
  have key : (AVal.slc m o n z, AVal.imm cs k t) ∈ l → ∃ cs', findI m (icesOf L ((a, b) :: l)) = some cs' := fun h => by
   obtain ⟨cs', h1⟩ := icesOf_has h hm
   unfold icesOf
   split
   ·cases ‹_ :: _ = []›
   ·rename_i heq
    cases heq
    split
    ·exact ⟨cs', h1⟩
    ·simp only [findI]
     split
     ·exact ⟨_, rfl⟩
     ·exact ⟨cs', h1⟩
   ·rename_i heq
    cases heq
    exact ⟨cs', h1⟩
  rcases List.mem_cons.1 h with h | h
  ·cases h
   simp only [icesOf]
   rw [if_neg (by omega)]
   exact ⟨cs, by simp [findI]⟩
  ·exact key h
theorem icesOf_fin {H H' : AHeap} {l : List (AVal × AVal)} (hf : ∀ p ∈ l, Fin H H' p.1 p.2) {m : Nat} {cs : List AVal} (h : (m, cs) ∈ icesOf H.length l) : H.length ≤ m ∧ content H'[m]? = some cs ∧ closeds H.length cs := by
 obtain ⟨h1, o, n, z, k, t, h2⟩ := icesOf_mem h
 refine ⟨h1, ?_⟩
 rcases hf _ h2 with ⟨h3, h4⟩ | ⟨w, n', el, cs', h3, h4, h5⟩
 ·have : m < H.length := h3
  omega
 ·cases h5
  rcases h3.is with ⟨h6, _⟩ | ⟨m', _, h6, h7⟩
  ·cases h6
  ·cases h6
   exact ⟨by simp [h7, content], h4⟩
theorem ice_fin1 {H H' : AHeap} {l : List (AVal × AVal)} (hf : ∀ p ∈ l, Fin H H' p.1 p.2) {a a' : AVal} (h : (a, a') ∈ l) : Sees (mv (toF H.length [] (icesOf H.length l)) a) a' := by
 rcases hf _ h with ⟨h3, h4⟩ | ⟨w, n', el, cs', h3, h4, h5⟩
 ·simp only at h3 h4
  subst h4
  rw [mv_id (L := H.length) (fun _ h => toF_low h) _ h3]
  exact Sees.refl _
 ·simp only at h3 h5
  subst h5
  have hl := h3.len
  rcases h3.is with ⟨rfl, rfl⟩ | ⟨m', hm, rfl, h7⟩
  ·have : cs' = [] := List.length_eq_zero_iff.1 (by simpa using hl)
   subst this
   exact Sees.nils false
  ·obtain ⟨cs2, h8⟩ := icesOf_has h hm
   have h9 := icesOf_fin hf (findI_some h8)
   have : cs2 = cs' := by
    have := h9.2.1
    simp [h7, content] at this
    exact this.symm
   subst this
   have : toF H.length [] (icesOf H.length l) m' = .ice cs2 := by
    unfold toF; rw [if_neg (by omega)]; simp [findN, h8]
   simp only [mv, this, mvSlc, List.drop_zero, ← hl, List.take_length]
   exact Sees.refl _
theorem ice_many {H H' : AHeap} {l : List (AVal × AVal)} (hf : ∀ p ∈ l, Fin H H' p.1 p.2) : ∀ p ∈ icesOf H.length l, ∃ cs0, content H'[p.1]? = some cs0 ∧ p.2 = mvs (toF H.length [] (icesOf H.length l)) cs0 ∧ colds (toF H.length [] (icesOf H.length l)) cs0 := by
 rintro ⟨m, cs⟩ hp
 obtain ⟨h1, h2, h3⟩ := icesOf_fin hf hp
 exact ⟨cs, h2, (mvs_id (L := H.length) (fun _ h => toF_low h) cs h3).symm, colds_of (L := H.length) (fun _ h => toF_low h) cs h3⟩
theorem ice_tup {H H' : AHeap} {Q : AVal → AHeap → Prop} (l : List (AVal × AVal)) (hk : Keeps H H') (hf : ∀ p ∈ l, Fin H H' p.1 p.2) (hq : Q (.tup (l.map (·.2))) H) : IceQ H Q (.tup (l.map (·.1))) H' := by
 refine ⟨hk, icesOf H.length l, .tup (l.map (·.2)), ice_many hf, ?_, hq⟩
 simp only [mv, mvs_map, List.map_map]
 refine Sees.tup ⟨by simp, fun i h1 h2 => ?_⟩
 simp only [List.getElem_map, Function.comp]
 exact ice_fin1 hf (List.getElem_mem (by simpa using h1))
theorem fun_iced {P : Program} {f : FuncId} {fn : AFun} {args : List AVal} {H : AHeap} {Q : AVal → AHeap → Prop} (hf : okFun P f fn = true) (h : closeds H.length args → FunOK P f args H (IceQ H Q)) : FunOK P f args H Q :=
 fun_ice (callable_of hf) fun _ ha => h ha
end Go.Am

namespace Go.Am
open Go
variable (P : Program) (c : Ctx) (Q : AVal → AHeap → Prop) (T : List AItem) (K : Mode → Prop) (d : DS) (dst : Option Nat) (g : Option (Nat × Bool)) (os : List AOper) (live : List Nat) (k : List AItem) (i : Nat) (is : List Nat) (log : Log) (r : Regs) (H : AHeap)
theorem goK_mov (x0 : AOpd) : GoK P c Q T K (some true) ⟨dst, (.mov x0), g⟩ os live k r H = ResK K (evalOp (geto r) H (.mov x0)) dst os live k r := rfl
theorem dgoK_mov (x0 : AOpd) : DGoK P c Q T K d (some true) ⟨dst, (.mov x0), g⟩ i is log r H = DResK K d (evalOp (geto r) H (.mov x0)) (.mov x0) dst i is log r := rfl
theorem isEff_mov (x0 : AOpd) : isEff (.mov x0) = false := rfl
theorem isPure_mov (x0 : AOpd) : isPure (.mov x0) = true := rfl
theorem goK_pick (x0 : AOpd) (x1 : AOpd) (x2 : AOpd) : GoK P c Q T K (some true) ⟨dst, (.pick x0 x1 x2), g⟩ os live k r H = ResK K (evalOp (geto r) H (.pick x0 x1 x2)) dst os live k r := rfl
theorem dgoK_pick (x0 : AOpd) (x1 : AOpd) (x2 : AOpd) : DGoK P c Q T K d (some true) ⟨dst, (.pick x0 x1 x2), g⟩ i is log r H = DResK K d (evalOp (geto r) H (.pick x0 x1 x2)) (.pick x0 x1 x2) dst i is log r := rfl
theorem isEff_pick (x0 : AOpd) (x1 : AOpd) (x2 : AOpd) : isEff (.pick x0 x1 x2) = false := rfl
theorem isPure_pick (x0 : AOpd) (x1 : AOpd) (x2 : AOpd) : isPure (.pick x0 x1 x2) = true := rfl
theorem goK_alloc (x0 : TypeId) (x1 : List AVal) : GoK P c Q T K (some true) ⟨dst, (.alloc x0 x1), g⟩ os live k r H = ResK K (evalOp (geto r) H (.alloc x0 x1)) dst os live k r := rfl
theorem dgoK_alloc (x0 : TypeId) (x1 : List AVal) : DGoK P c Q T K d (some true) ⟨dst, (.alloc x0 x1), g⟩ i is log r H = DResK K d (evalOp (geto r) H (.alloc x0 x1)) (.alloc x0 x1) dst i is log r := rfl
theorem isEff_alloc (x0 : TypeId) (x1 : List AVal) : isEff (.alloc x0 x1) = true := rfl
theorem isPure_alloc (x0 : TypeId) (x1 : List AVal) : isPure (.alloc x0 x1) = false := rfl
theorem goK_box (x0 : TypeId) (x1 : AOpd) : GoK P c Q T K (some true) ⟨dst, (.box x0 x1), g⟩ os live k r H = ResK K (evalOp (geto r) H (.box x0 x1)) dst os live k r := rfl
theorem dgoK_box (x0 : TypeId) (x1 : AOpd) : DGoK P c Q T K d (some true) ⟨dst, (.box x0 x1), g⟩ i is log r H = DResK K d (evalOp (geto r) H (.box x0 x1)) (.box x0 x1) dst i is log r := rfl
theorem isEff_box (x0 : TypeId) (x1 : AOpd) : isEff (.box x0 x1) = true := rfl
theorem isPure_box (x0 : TypeId) (x1 : AOpd) : isPure (.box x0 x1) = false := rfl
theorem goK_build (x0 : List AVal) (x1 : List (Nat × Nat × AOpd)) : GoK P c Q T K (some true) ⟨dst, (.build x0 x1), g⟩ os live k r H = ResK K (evalOp (geto r) H (.build x0 x1)) dst os live k r := rfl
theorem dgoK_build (x0 : List AVal) (x1 : List (Nat × Nat × AOpd)) : DGoK P c Q T K d (some true) ⟨dst, (.build x0 x1), g⟩ i is log r H = DResK K d (evalOp (geto r) H (.build x0 x1)) (.build x0 x1) dst i is log r := rfl
theorem isEff_build (x0 : List AVal) (x1 : List (Nat × Nat × AOpd)) : isEff (.build x0 x1) = false := rfl
theorem isPure_build (x0 : List AVal) (x1 : List (Nat × Nat × AOpd)) : isPure (.build x0 x1) = true := rfl
theorem goK_lit (x0 : TypeId) (x1 : Nat) (x2 : Nat) (x3 : List AVal) (x4 : List (Nat × Nat × AOpd)) : GoK P c Q T K (some true) ⟨dst, (.lit x0 x1 x2 x3 x4), g⟩ os live k r H = ResK K (evalOp (geto r) H (.lit x0 x1 x2 x3 x4)) dst os live k r := rfl
theorem dgoK_lit (x0 : TypeId) (x1 : Nat) (x2 : Nat) (x3 : List AVal) (x4 : List (Nat × Nat × AOpd)) : DGoK P c Q T K d (some true) ⟨dst, (.lit x0 x1 x2 x3 x4), g⟩ i is log r H = DResK K d (evalOp (geto r) H (.lit x0 x1 x2 x3 x4)) (.lit x0 x1 x2 x3 x4) dst i is log r := rfl
theorem isEff_lit (x0 : TypeId) (x1 : Nat) (x2 : Nat) (x3 : List AVal) (x4 : List (Nat × Nat × AOpd)) : isEff (.lit x0 x1 x2 x3 x4) = true := rfl
theorem isPure_lit (x0 : TypeId) (x1 : Nat) (x2 : Nat) (x3 : List AVal) (x4 : List (Nat × Nat × AOpd)) : isPure (.lit x0 x1 x2 x3 x4) = false := rfl
theorem goK_load (x0 : Option Nat) (x1 : AOpd) : GoK P c Q T K (some true) ⟨dst, (.load x0 x1), g⟩ os live k r H = ResK K (evalOp (geto r) H (.load x0 x1)) dst os live k r := rfl
theorem dgoK_load (x0 : Option Nat) (x1 : AOpd) : DGoK P c Q T K d (some true) ⟨dst, (.load x0 x1), g⟩ i is log r H = DResK K d (evalOp (geto r) H (.load x0 x1)) (.load x0 x1) dst i is log r := rfl
theorem isEff_load (x0 : Option Nat) (x1 : AOpd) : isEff (.load x0 x1) = false := rfl
theorem isPure_load (x0 : Option Nat) (x1 : AOpd) : isPure (.load x0 x1) = false := rfl
theorem goK_store (x0 : Nat) (x1 : AOpd) (x2 : AOpd) : GoK P c Q T K (some true) ⟨dst, (.store x0 x1 x2), g⟩ os live k r H = ResK K (evalOp (geto r) H (.store x0 x1 x2)) dst os live k r := rfl
theorem dgoK_store (x0 : Nat) (x1 : AOpd) (x2 : AOpd) : DGoK P c Q T K d (some true) ⟨dst, (.store x0 x1 x2), g⟩ i is log r H = DResK K d (evalOp (geto r) H (.store x0 x1 x2)) (.store x0 x1 x2) dst i is log r := rfl
theorem isEff_store (x0 : Nat) (x1 : AOpd) (x2 : AOpd) : isEff (.store x0 x1 x2) = true := rfl
theorem isPure_store (x0 : Nat) (x1 : AOpd) (x2 : AOpd) : isPure (.store x0 x1 x2) = false := rfl
theorem goK_bin (x0 : BinOp) (x1 : AOpd) (x2 : AOpd) : GoK P c Q T K (some true) ⟨dst, (.bin x0 x1 x2), g⟩ os live k r H = ResK K (evalOp (geto r) H (.bin x0 x1 x2)) dst os live k r := rfl
theorem dgoK_bin (x0 : BinOp) (x1 : AOpd) (x2 : AOpd) : DGoK P c Q T K d (some true) ⟨dst, (.bin x0 x1 x2), g⟩ i is log r H = DResK K d (evalOp (geto r) H (.bin x0 x1 x2)) (.bin x0 x1 x2) dst i is log r := rfl
theorem isEff_bin (x0 : BinOp) (x1 : AOpd) (x2 : AOpd) : isEff (.bin x0 x1 x2) = false := rfl
theorem isPure_bin (x0 : BinOp) (x1 : AOpd) (x2 : AOpd) : isPure (.bin x0 x1 x2) = true := rfl
theorem goK_eq (x0 : Bool) (x1 : EKind) (x2 : AOpd) (x3 : AOpd) : GoK P c Q T K (some true) ⟨dst, (.eq x0 x1 x2 x3), g⟩ os live k r H = ResK K (evalOp (geto r) H (.eq x0 x1 x2 x3)) dst os live k r := rfl
theorem dgoK_eq (x0 : Bool) (x1 : EKind) (x2 : AOpd) (x3 : AOpd) : DGoK P c Q T K d (some true) ⟨dst, (.eq x0 x1 x2 x3), g⟩ i is log r H = DResK K d (evalOp (geto r) H (.eq x0 x1 x2 x3)) (.eq x0 x1 x2 x3) dst i is log r := rfl
theorem isEff_eq (x0 : Bool) (x1 : EKind) (x2 : AOpd) (x3 : AOpd) : isEff (.eq x0 x1 x2 x3) = false := rfl
theorem isPure_eq (x0 : Bool) (x1 : EKind) (x2 : AOpd) (x3 : AOpd) : isPure (.eq x0 x1 x2 x3) = true := rfl
theorem goK_un (x0 : UnOp) (x1 : AOpd) : GoK P c Q T K (some true) ⟨dst, (.un x0 x1), g⟩ os live k r H = ResK K (evalOp (geto r) H (.un x0 x1)) dst os live k r := rfl
theorem dgoK_un (x0 : UnOp) (x1 : AOpd) : DGoK P c Q T K d (some true) ⟨dst, (.un x0 x1), g⟩ i is log r H = DResK K d (evalOp (geto r) H (.un x0 x1)) (.un x0 x1) dst i is log r := rfl
theorem isEff_un (x0 : UnOp) (x1 : AOpd) : isEff (.un x0 x1) = false := rfl
theorem isPure_un (x0 : UnOp) (x1 : AOpd) : isPure (.un x0 x1) = true := rfl
theorem goK_conv (x0 : IntKind) (x1 : AOpd) : GoK P c Q T K (some true) ⟨dst, (.conv x0 x1), g⟩ os live k r H = ResK K (evalOp (geto r) H (.conv x0 x1)) dst os live k r := rfl
theorem dgoK_conv (x0 : IntKind) (x1 : AOpd) : DGoK P c Q T K d (some true) ⟨dst, (.conv x0 x1), g⟩ i is log r H = DResK K d (evalOp (geto r) H (.conv x0 x1)) (.conv x0 x1) dst i is log r := rfl
theorem isEff_conv (x0 : IntKind) (x1 : AOpd) : isEff (.conv x0 x1) = false := rfl
theorem isPure_conv (x0 : IntKind) (x1 : AOpd) : isPure (.conv x0 x1) = true := rfl
theorem goK_nilc (x0 : AOpd) : GoK P c Q T K (some true) ⟨dst, (.nilc x0), g⟩ os live k r H = ResK K (evalOp (geto r) H (.nilc x0)) dst os live k r := rfl
theorem dgoK_nilc (x0 : AOpd) : DGoK P c Q T K d (some true) ⟨dst, (.nilc x0), g⟩ i is log r H = DResK K d (evalOp (geto r) H (.nilc x0)) (.nilc x0) dst i is log r := rfl
theorem isEff_nilc (x0 : AOpd) : isEff (.nilc x0) = false := rfl
theorem isPure_nilc (x0 : AOpd) : isPure (.nilc x0) = true := rfl
theorem goK_field (x0 : Nat) (x1 : AOpd) : GoK P c Q T K (some true) ⟨dst, (.field x0 x1), g⟩ os live k r H = ResK K (evalOp (geto r) H (.field x0 x1)) dst os live k r := rfl
theorem dgoK_field (x0 : Nat) (x1 : AOpd) : DGoK P c Q T K d (some true) ⟨dst, (.field x0 x1), g⟩ i is log r H = DResK K d (evalOp (geto r) H (.field x0 x1)) (.field x0 x1) dst i is log r := rfl
theorem isEff_field (x0 : Nat) (x1 : AOpd) : isEff (.field x0 x1) = false := rfl
theorem isPure_field (x0 : Nat) (x1 : AOpd) : isPure (.field x0 x1) = true := rfl
theorem goK_idx (x0 : Nat) (x1 : Option Nat) (x2 : AOpd) (x3 : AOpd) : GoK P c Q T K (some true) ⟨dst, (.idx x0 x1 x2 x3), g⟩ os live k r H = ResK K (evalOp (geto r) H (.idx x0 x1 x2 x3)) dst os live k r := rfl
theorem dgoK_idx (x0 : Nat) (x1 : Option Nat) (x2 : AOpd) (x3 : AOpd) : DGoK P c Q T K d (some true) ⟨dst, (.idx x0 x1 x2 x3), g⟩ i is log r H = DResK K d (evalOp (geto r) H (.idx x0 x1 x2 x3)) (.idx x0 x1 x2 x3) dst i is log r := rfl
theorem isEff_idx (x0 : Nat) (x1 : Option Nat) (x2 : AOpd) (x3 : AOpd) : isEff (.idx x0 x1 x2 x3) = false := rfl
theorem goK_sidx (x0 : AOpd) (x1 : AOpd) : GoK P c Q T K (some true) ⟨dst, (.sidx x0 x1), g⟩ os live k r H = ResK K (evalOp (geto r) H (.sidx x0 x1)) dst os live k r := rfl
theorem dgoK_sidx (x0 : AOpd) (x1 : AOpd) : DGoK P c Q T K d (some true) ⟨dst, (.sidx x0 x1), g⟩ i is log r H = DResK K d (evalOp (geto r) H (.sidx x0 x1)) (.sidx x0 x1) dst i is log r := rfl
theorem isEff_sidx (x0 : AOpd) (x1 : AOpd) : isEff (.sidx x0 x1) = false := rfl
theorem isPure_sidx (x0 : AOpd) (x1 : AOpd) : isPure (.sidx x0 x1) = true := rfl
theorem goK_slice (x0 : Nat) (x1 : SKind) (x2 : AOpd) (x3 : Option AOpd) (x4 : Option AOpd) (x5 : Option AOpd) : GoK P c Q T K (some true) ⟨dst, (.slice x0 x1 x2 x3 x4 x5), g⟩ os live k r H = ResK K (evalOp (geto r) H (.slice x0 x1 x2 x3 x4 x5)) dst os live k r := rfl
theorem dgoK_slice (x0 : Nat) (x1 : SKind) (x2 : AOpd) (x3 : Option AOpd) (x4 : Option AOpd) (x5 : Option AOpd) : DGoK P c Q T K d (some true) ⟨dst, (.slice x0 x1 x2 x3 x4 x5), g⟩ i is log r H = DResK K d (evalOp (geto r) H (.slice x0 x1 x2 x3 x4 x5)) (.slice x0 x1 x2 x3 x4 x5) dst i is log r := rfl
theorem isEff_slice (x0 : Nat) (x1 : SKind) (x2 : AOpd) (x3 : Option AOpd) (x4 : Option AOpd) (x5 : Option AOpd) : isEff (.slice x0 x1 x2 x3 x4 x5) = false := rfl
theorem goK_toArr (x0 : Nat) (x1 : AOpd) : GoK P c Q T K (some true) ⟨dst, (.toArr x0 x1), g⟩ os live k r H = ResK K (evalOp (geto r) H (.toArr x0 x1)) dst os live k r := rfl
theorem dgoK_toArr (x0 : Nat) (x1 : AOpd) : DGoK P c Q T K d (some true) ⟨dst, (.toArr x0 x1), g⟩ i is log r H = DResK K d (evalOp (geto r) H (.toArr x0 x1)) (.toArr x0 x1) dst i is log r := rfl
theorem isEff_toArr (x0 : Nat) (x1 : AOpd) : isEff (.toArr x0 x1) = false := rfl
theorem isPure_toArr (x0 : Nat) (x1 : AOpd) : isPure (.toArr x0 x1) = false := rfl
theorem goK_len (x0 : LKind) (x1 : AOpd) : GoK P c Q T K (some true) ⟨dst, (.len x0 x1), g⟩ os live k r H = ResK K (evalOp (geto r) H (.len x0 x1)) dst os live k r := rfl
theorem dgoK_len (x0 : LKind) (x1 : AOpd) : DGoK P c Q T K d (some true) ⟨dst, (.len x0 x1), g⟩ i is log r H = DResK K d (evalOp (geto r) H (.len x0 x1)) (.len x0 x1) dst i is log r := rfl
theorem isEff_len (x0 : LKind) (x1 : AOpd) : isEff (.len x0 x1) = false := rfl
theorem goK_maxmin (x0 : Bool) (x1 : AOpd) (x2 : AOpd) : GoK P c Q T K (some true) ⟨dst, (.maxmin x0 x1 x2), g⟩ os live k r H = ResK K (evalOp (geto r) H (.maxmin x0 x1 x2)) dst os live k r := rfl
theorem dgoK_maxmin (x0 : Bool) (x1 : AOpd) (x2 : AOpd) : DGoK P c Q T K d (some true) ⟨dst, (.maxmin x0 x1 x2), g⟩ i is log r H = DResK K d (evalOp (geto r) H (.maxmin x0 x1 x2)) (.maxmin x0 x1 x2) dst i is log r := rfl
theorem isEff_maxmin (x0 : Bool) (x1 : AOpd) (x2 : AOpd) : isEff (.maxmin x0 x1 x2) = false := rfl
theorem isPure_maxmin (x0 : Bool) (x1 : AOpd) (x2 : AOpd) : isPure (.maxmin x0 x1 x2) = true := rfl
theorem goK_extract (x0 : AOpd) (x1 : Nat) : GoK P c Q T K (some true) ⟨dst, (.extract x0 x1), g⟩ os live k r H = ResK K (evalOp (geto r) H (.extract x0 x1)) dst os live k r := rfl
theorem dgoK_extract (x0 : AOpd) (x1 : Nat) : DGoK P c Q T K d (some true) ⟨dst, (.extract x0 x1), g⟩ i is log r H = DResK K d (evalOp (geto r) H (.extract x0 x1)) (.extract x0 x1) dst i is log r := rfl
theorem isEff_extract (x0 : AOpd) (x1 : Nat) : isEff (.extract x0 x1) = false := rfl
theorem isPure_extract (x0 : AOpd) (x1 : Nat) : isPure (.extract x0 x1) = true := rfl
theorem goK_mkfn (x0 : FuncId) (x1 : List AOpd) (x2 : List AOpd) : GoK P c Q T K (some true) ⟨dst, (.mkfn x0 x1 x2), g⟩ os live k r H = ResK K (evalOp (geto r) H (.mkfn x0 x1 x2)) dst os live k r := rfl
theorem dgoK_mkfn (x0 : FuncId) (x1 : List AOpd) (x2 : List AOpd) : DGoK P c Q T K d (some true) ⟨dst, (.mkfn x0 x1 x2), g⟩ i is log r H = DResK K d (evalOp (geto r) H (.mkfn x0 x1 x2)) (.mkfn x0 x1 x2) dst i is log r := rfl
theorem isEff_mkfn (x0 : FuncId) (x1 : List AOpd) (x2 : List AOpd) : isEff (.mkfn x0 x1 x2) = false := rfl
theorem isPure_mkfn (x0 : FuncId) (x1 : List AOpd) (x2 : List AOpd) : isPure (.mkfn x0 x1 x2) = true := rfl
theorem goK_append (x0 : Nat) (x1 : Nat) (x2 : Nat) (x3 : AOpd) (x4 : AOpd) : GoK P c Q T K (some true) ⟨dst, (.append x0 x1 x2 x3 x4), g⟩ os live k r H = ResK K (evalOp (geto r) H (.append x0 x1 x2 x3 x4)) dst os live k r := rfl
theorem dgoK_append (x0 : Nat) (x1 : Nat) (x2 : Nat) (x3 : AOpd) (x4 : AOpd) : DGoK P c Q T K d (some true) ⟨dst, (.append x0 x1 x2 x3 x4), g⟩ i is log r H = DResK K d (evalOp (geto r) H (.append x0 x1 x2 x3 x4)) (.append x0 x1 x2 x3 x4) dst i is log r := rfl
theorem isEff_append (x0 : Nat) (x1 : Nat) (x2 : Nat) (x3 : AOpd) (x4 : AOpd) : isEff (.append x0 x1 x2 x3 x4) = true := rfl
theorem isPure_append (x0 : Nat) (x1 : Nat) (x2 : Nat) (x3 : AOpd) (x4 : AOpd) : isPure (.append x0 x1 x2 x3 x4) = false := rfl
theorem goK_mkmap  : GoK P c Q T K (some true) ⟨dst, (.mkmap), g⟩ os live k r H = ResK K (evalOp (geto r) H (.mkmap)) dst os live k r := rfl
theorem dgoK_mkmap  : DGoK P c Q T K d (some true) ⟨dst, (.mkmap), g⟩ i is log r H = DResK K d (evalOp (geto r) H (.mkmap)) (.mkmap) dst i is log r := rfl
theorem isEff_mkmap  : isEff (.mkmap) = true := rfl
theorem isPure_mkmap  : isPure (.mkmap) = false := rfl
theorem goK_mkslice (x0 : Nat) (x1 : Nat) (x2 : Nat) (x3 : List AVal) (x4 : AOpd) (x5 : AOpd) : GoK P c Q T K (some true) ⟨dst, (.mkslice x0 x1 x2 x3 x4 x5), g⟩ os live k r H = ResK K (evalOp (geto r) H (.mkslice x0 x1 x2 x3 x4 x5)) dst os live k r := rfl
theorem dgoK_mkslice (x0 : Nat) (x1 : Nat) (x2 : Nat) (x3 : List AVal) (x4 : AOpd) (x5 : AOpd) : DGoK P c Q T K d (some true) ⟨dst, (.mkslice x0 x1 x2 x3 x4 x5), g⟩ i is log r H = DResK K d (evalOp (geto r) H (.mkslice x0 x1 x2 x3 x4 x5)) (.mkslice x0 x1 x2 x3 x4 x5) dst i is log r := rfl
theorem isEff_mkslice (x0 : Nat) (x1 : Nat) (x2 : Nat) (x3 : List AVal) (x4 : AOpd) (x5 : AOpd) : isEff (.mkslice x0 x1 x2 x3 x4 x5) = true := rfl
theorem isPure_mkslice (x0 : Nat) (x1 : Nat) (x2 : Nat) (x3 : List AVal) (x4 : AOpd) (x5 : AOpd) : isPure (.mkslice x0 x1 x2 x3 x4 x5) = false := rfl
theorem goK_lookup (x0 : Leaf) (x1 : AVal) (x2 : Bool) (x3 : AOpd) (x4 : AOpd) : GoK P c Q T K (some true) ⟨dst, (.lookup x0 x1 x2 x3 x4), g⟩ os live k r H = ResK K (evalOp (geto r) H (.lookup x0 x1 x2 x3 x4)) dst os live k r := rfl
theorem dgoK_lookup (x0 : Leaf) (x1 : AVal) (x2 : Bool) (x3 : AOpd) (x4 : AOpd) : DGoK P c Q T K d (some true) ⟨dst, (.lookup x0 x1 x2 x3 x4), g⟩ i is log r H = DResK K d (evalOp (geto r) H (.lookup x0 x1 x2 x3 x4)) (.lookup x0 x1 x2 x3 x4) dst i is log r := rfl
theorem isEff_lookup (x0 : Leaf) (x1 : AVal) (x2 : Bool) (x3 : AOpd) (x4 : AOpd) : isEff (.lookup x0 x1 x2 x3 x4) = false := rfl
theorem isPure_lookup (x0 : Leaf) (x1 : AVal) (x2 : Bool) (x3 : AOpd) (x4 : AOpd) : isPure (.lookup x0 x1 x2 x3 x4) = false := rfl
theorem goK_mapset (x0 : Leaf) (x1 : AOpd) (x2 : AOpd) (x3 : AOpd) : GoK P c Q T K (some true) ⟨dst, (.mapset x0 x1 x2 x3), g⟩ os live k r H = ResK K (evalOp (geto r) H (.mapset x0 x1 x2 x3)) dst os live k r := rfl
theorem dgoK_mapset (x0 : Leaf) (x1 : AOpd) (x2 : AOpd) (x3 : AOpd) : DGoK P c Q T K d (some true) ⟨dst, (.mapset x0 x1 x2 x3), g⟩ i is log r H = DResK K d (evalOp (geto r) H (.mapset x0 x1 x2 x3)) (.mapset x0 x1 x2 x3) dst i is log r := rfl
theorem isEff_mapset (x0 : Leaf) (x1 : AOpd) (x2 : AOpd) (x3 : AOpd) : isEff (.mapset x0 x1 x2 x3) = true := rfl
theorem isPure_mapset (x0 : Leaf) (x1 : AOpd) (x2 : AOpd) (x3 : AOpd) : isPure (.mapset x0 x1 x2 x3) = false := rfl
theorem isEff_call (x0 : AOpd) (x1 : List AOpd) : isEff (.call x0 x1) = true := rfl
theorem isPure_call (x0 : AOpd) (x1 : List AOpd) : isPure (.call x0 x1) = false := rfl
theorem isPure_lenS (x : AOpd) : isPure (.len .slice x) = true := rfl
theorem isPure_lenT (x : AOpd) : isPure (.len .str x) = true := rfl
theorem isPure_lenM (x : AOpd) : isPure (.len .map x) = false := rfl
theorem isPure_sliceS (n : Nat) (x : AOpd) (a b c : Option AOpd) : isPure (.slice n .slice x a b c) = true := rfl
theorem isPure_sliceT (n : Nat) (x : AOpd) (a b c : Option AOpd) : isPure (.slice n .string x a b c) = true := rfl
theorem isPure_sliceA (n m : Nat) (x : AOpd) (a b c : Option AOpd) : isPure (.slice n (.array m) x a b c) = false := rfl
theorem isPure_idxS (n : Nat) (x i : AOpd) : isPure (.idx n none x i) = false := rfl
theorem isPure_idxA (n m : Nat) (x i : AOpd) : isPure (.idx n (some m) x i) = true := rfl
theorem exit_code (id : Nat) (k : List AItem) (c : ACode) : aexitTo id (.code c :: k) = aexitTo id k := rfl
theorem exit_loop (id : Nat) (k : List AItem) (c : ACode) : aexitTo id (.inLoop c :: k) = aexitTo id k := rfl
theorem exit_scope (id : Nat) (k : List AItem) : aexitTo id (.inScope :: k) = aexitTo id k := rfl
theorem exit_begin (id : Nat) (k : List AItem) : aexitTo id (.begin :: k) = aexitTo id k := rfl
theorem exit_block (id j : Nat) (k : List AItem) : aexitTo id (.inBlock j :: k) = if j = id then some k else aexitTo id k := rfl
theorem exit_nil (id : Nat) : aexitTo id [] = none := rfl
theorem pack_nil : pack [] = .tup [] := rfl
theorem pack_one (v : AVal) : pack [v] = v := rfl
theorem pack_two (v u : AVal) (vs : List AVal) : pack (v :: u :: vs) = .tup (v :: u :: vs) := rfl
theorem loadV_vec (agg : Option Nat) (o z : Nat) (cs : List AVal) (el : TypeId) : loadV agg o (some (.vec cs el z)) = loadB agg o (some (.cells cs 0)) := rfl
theorem loadV_cells (agg : Option Nat) (o : Nat) (cs : List AVal) (el : TypeId) : loadV agg o (some (.cells cs el)) = loadB agg o (some (.cells cs el)) := rfl
theorem loadB_agg (n o : Nat) (cs : List AVal) (el : TypeId) : loadB (some n) o (some (.cells cs el)) = some (n ≤ (cs.drop o).length, .agg ((cs.drop o).take n)) := rfl
theorem loadB_one (o : Nat) (cs : List AVal) (el : TypeId) : loadB none o (some (.cells cs el)) = some (o < cs.length, cs.getD o .junk) := rfl
theorem branch_t (K : Mode → Prop) (x y : ACode) (k : List AItem) (r : Regs) (H : AHeap) : BranchK K (.bool true) x y k r H = K (.todo (.code x :: k) r H) := rfl
theorem branch_f (K : Mode → Prop) (x y : ACode) (k : List AItem) (r : Regs) (H : AHeap) : BranchK K (.bool false) x y k r H = K (.todo (.code y :: k) r H) := rfl
theorem prune_nil (r : Regs) : prune [] r = [] := rfl
theorem prune_cons (i : Nat) (l : List Nat) (r : Regs) : prune (i :: l) r = (i, rget r i) :: prune l r := rfl
theorem content_cells (cs : List AVal) (el : TypeId) : content (some (.cells cs el)) = some cs := rfl
theorem content_vec (cs : List AVal) (el : TypeId) (z : Nat) : content (some (.vec cs el z)) = some cs := rfl
theorem view_nils (H : AHeap) : view H .nils = some [] := rfl
theorem srcLen_nils : srcLen .nils = some 0 := rfl
theorem srcLen_slc (n o l z : Nat) : srcLen (.slc n o l z) = some l := rfl
theorem srcLen_str (b : ByteArray) : srcLen (.str b) = some b.size := rfl
theorem srcCells_slc (H : AHeap) (n o l z : Nat) : srcCells H (.slc n o l z) = view H (.slc n o l z) := rfl
theorem srcCells_nils (H : AHeap) : srcCells H .nils = some [] := rfl
def appR : Option (Prop × AVal × AHeap) → Res
 | some (p, v, H') => .ok p v H'
 | none => .bad
theorem evalOp_append (g : AOpd → AVal) (H : AHeap) (el sz bytes : Nat) (s x : AOpd) : evalOp g H (.append el sz bytes s x) = appR (appendA H el sz bytes (g s) (g x)) := by
 simp only [evalOp]; cases appendA H el sz bytes (g s) (g x) <;> rfl
theorem appR_some (p : Prop) (v : AVal) (H : AHeap) : appR (some (p, v, H)) = .ok p v H := rfl
def idxA (sz n : Nat) (H : AHeap) : AVal → AVal → Res
 | .ptr b o, .int _ i => .ok (0 ≤ i ∧ i < n) (.ptr b (o + i.toNat * sz)) H
 | .sptr s o, .int _ i => .ok (0 ≤ i ∧ i < n) (.sptr s (o + i.toNat * sz)) H
 | _, _ => .bad
def idxS2 (sz : Nat) (H : AHeap) (x : AVal) (i : Int) : Option Nat → Res
 | some n => .ok (0 ≤ i ∧ i < n ∧ (view H x).isSome = true ∧ 0 < sz) (.sptr x (i.toNat * sz)) H
 | none => .bad
def idxS (sz : Nat) (H : AHeap) (x : AVal) : AVal → Res
 | .int _ i => idxS2 sz H x i (slen x)
 | _ => .bad
theorem evalOp_idxA (g : AOpd → AVal) (H : AHeap) (sz n : Nat) (x i : AOpd) : evalOp g H (.idx sz (some n) x i) = idxA sz n H (g x) (g i) := by
 cases hi : g i <;> cases hx : g x <;> simp [evalOp, idxA, hi, hx]
theorem evalOp_idxS (g : AOpd → AVal) (H : AHeap) (sz : Nat) (x i : AOpd) : evalOp g H (.idx sz none x i) = idxS sz H (g x) (g i) := by
 cases hi : g i <;> simp [evalOp, idxS, idxS2, hi]
 cases slen (g x) <;> rfl
theorem idxA_ptr (sz n : Nat) (H : AHeap) (b o : Nat) (k : IntKind) (i : Int) : idxA sz n H (.ptr b o) (.int k i) = .ok (0 ≤ i ∧ i < n) (.ptr b (o + i.toNat * sz)) H := rfl
theorem idxA_sptr (sz n : Nat) (H : AHeap) (s : AVal) (o : Nat) (k : IntKind) (i : Int) : idxA sz n H (.sptr s o) (.int k i) = .ok (0 ≤ i ∧ i < n) (.sptr s (o + i.toNat * sz)) H := rfl
theorem idxS_int (sz : Nat) (H : AHeap) (x : AVal) (k : IntKind) (i : Int) : idxS sz H x (.int k i) = idxS2 sz H x i (slen x) := rfl
theorem idxS2_some (sz : Nat) (H : AHeap) (x : AVal) (i : Int) (n : Nat) : idxS2 sz H x i (some n) = .ok (0 ≤ i ∧ i < n ∧ (view H x).isSome = true ∧ 0 < sz) (.sptr x (i.toNat * sz)) H := rfl
end Go.Am

namespace Go.Am
open Go
theorem pr {a b : Prop} (x : a) (y : b) : a ∧ b := ⟨x, y⟩
abbrev std := pr (pr (pr (pr (pr (pr (pr (pr @V.eq_1 @V.eq_2) (pr @V.eq_3 (pr @V.eq_4 @V.eq_5))) (pr (pr @V.eq_6 (pr @V.eq_7 @V.eq_8)) (pr @V.eq_9 (pr @V.eq_10 @V.eq_11)))) (pr (pr (pr @V.eq_12 @V.eq_13) (pr @V.eq_14 (pr @V.eq_15 @V.eq_16))) (pr (pr @V.eq_17 (pr @V.eq_18 @V.eq_19)) (pr @V.eq_20 (pr @V.eq_21 @V.eq_22))))) (pr (pr (pr (pr @V.eq_23 @V.eq_24) (pr @V.eq_25 (pr @GoK.eq_1 @GoK.eq_2))) (pr (pr @GoK.eq_4 (pr @ResK.eq_1 @ResK.eq_2)) (pr @LeaveK.eq_1 (pr @LeaveK.eq_2 @JumpK.eq_1)))) (pr (pr (pr @JumpK.eq_2 @DResK.eq_1) (pr @DResK.eq_2 (pr @DGoK.eq_1 @DGoK.eq_2))) (pr (pr @DGoK.eq_4 (pr @DAtK.eq_1 @DAtK.eq_2)) (pr @Sem'.eq_1 (pr @Sem'.eq_2 @Sem'.eq_3)))))) (pr (pr (pr (pr (pr @Sem'.eq_4 @argRegs.eq_1) (pr @argRegs.eq_2 (pr @evalOp.eq_1 @evalOp.eq_2))) (pr (pr @evalOp.eq_3 (pr @evalOp.eq_4 @evalOp.eq_5)) (pr @evalOp.eq_6 (pr @evalOp.eq_7 @evalOp.eq_8)))) (pr (pr (pr @evalOp.eq_9 @evalOp.eq_10) (pr @evalOp.eq_11 (pr @evalOp.eq_12 @evalOp.eq_13))) (pr (pr @evalOp.eq_14 (pr @evalOp.eq_18 @evalOp.eq_19)) (pr @evalOp.eq_20 (pr @evalOp.eq_21 @evalOp.eq_22))))) (pr (pr (pr (pr @evalOp.eq_23 @evalOp.eq_24) (pr @evalOp.eq_25 (pr @evalOp.eq_26 @evalOp.eq_28))) (pr (pr @evalOp.eq_29 (pr @evalOp.eq_30 @evalOp.eq_31)) (pr @evalOp.eq_32 (pr @wants.eq_1 @wants.eq_2)))) (pr (pr (pr @geto.eq_1 (pr @geto.eq_2 @rget.eq_1)) (pr @rget.eq_2 (pr @rput.eq_1 @rput.eq_2))) (pr (pr @binA.eq_1 (pr @binA.eq_2 @binA.eq_3)) (pr @binA.eq_4 (pr @binA.eq_5 @binA.eq_6))))))) (pr (pr (pr (pr (pr (pr @binA.eq_7 @binA.eq_8) (pr @binA.eq_9 (pr @binA.eq_10 @binA.eq_11))) (pr (pr @binA.eq_12 (pr @binA.eq_13 @binA.eq_14)) (pr @binA.eq_15 (pr @binA.eq_16 @binA.eq_17)))) (pr (pr (pr @binA.eq_18 @binA.eq_19) (pr @binA.eq_20 (pr @unA.eq_1 @unA.eq_2))) (pr (pr @unA.eq_4 (pr @IntKind.bits.eq_1 @IntKind.bits.eq_2)) (pr @IntKind.bits.eq_3 (pr @IntKind.bits.eq_4 @IntKind.bits.eq_5))))) (pr (pr (pr (pr @IntKind.bits.eq_6 @IntKind.bits.eq_7) (pr @IntKind.bits.eq_8 (pr @logAdd.eq_1 @recheck.eq_1))) (pr (pr @recheck.eq_2 (pr @resOne.eq_1 @resOne.eq_2)) (pr @resA.eq_1 (pr @resA.eq_2 @fillParts.eq_1)))) (pr (pr (pr @fillParts.eq_2 (pr @fillAt.eq_1 @fillAt.eq_2)) (pr @opdInt.eq_1 (pr @opdInt.eq_2 @goK_mov))) (pr (pr @dgoK_mov (pr @isEff_mov @isPure_mov)) (pr @goK_pick (pr @dgoK_pick @isEff_pick)))))) (pr (pr (pr (pr (pr @isPure_pick @goK_alloc) (pr @dgoK_alloc (pr @isEff_alloc @isPure_alloc))) (pr (pr @goK_box (pr @dgoK_box @isEff_box)) (pr @isPure_box (pr @goK_build @dgoK_build)))) (pr (pr (pr @isEff_build @isPure_build) (pr @goK_lit (pr @dgoK_lit @isEff_lit))) (pr (pr @isPure_lit (pr @goK_load @dgoK_load)) (pr @isEff_load (pr @isPure_load @goK_store))))) (pr (pr (pr (pr @dgoK_store @isEff_store) (pr @isPure_store (pr @goK_bin @dgoK_bin))) (pr (pr @isEff_bin (pr @isPure_bin @goK_eq)) (pr @dgoK_eq (pr @isEff_eq @isPure_eq)))) (pr (pr (pr @goK_un (pr @dgoK_un @isEff_un)) (pr @isPure_un (pr @goK_conv @dgoK_conv))) (pr (pr @isEff_conv (pr @isPure_conv @goK_nilc)) (pr @dgoK_nilc (pr @isEff_nilc @isPure_nilc)))))))) (pr (pr (pr (pr (pr (pr (pr @goK_field @dgoK_field) (pr @isEff_field (pr @isPure_field @goK_idx))) (pr (pr @dgoK_idx (pr @isEff_idx @goK_sidx)) (pr @dgoK_sidx (pr @isEff_sidx @isPure_sidx)))) (pr (pr (pr @goK_slice @dgoK_slice) (pr @isEff_slice (pr @goK_toArr @dgoK_toArr))) (pr (pr @isEff_toArr (pr @isPure_toArr @goK_len)) (pr @dgoK_len (pr @isEff_len @goK_maxmin))))) (pr (pr (pr (pr @dgoK_maxmin @isEff_maxmin) (pr @isPure_maxmin (pr @goK_extract @dgoK_extract))) (pr (pr @isEff_extract (pr @isPure_extract @goK_mkfn)) (pr @dgoK_mkfn (pr @isEff_mkfn @isPure_mkfn)))) (pr (pr (pr @goK_append @dgoK_append) (pr @isEff_append (pr @isPure_append @goK_mkmap))) (pr (pr @dgoK_mkmap (pr @isEff_mkmap @isPure_mkmap)) (pr @goK_mkslice (pr @dgoK_mkslice @isEff_mkslice)))))) (pr (pr (pr (pr (pr @isPure_mkslice @goK_lookup) (pr @dgoK_lookup (pr @isEff_lookup @isPure_lookup))) (pr (pr @goK_mapset (pr @dgoK_mapset @isEff_mapset)) (pr @isPure_mapset (pr @isEff_call @isPure_call)))) (pr (pr (pr @isPure_lenS @isPure_lenT) (pr @isPure_lenM (pr @isPure_sliceS @isPure_sliceT))) (pr (pr @isPure_sliceA (pr @isPure_idxS @isPure_idxA)) (pr @exit_code (pr @exit_loop @exit_scope))))) (pr (pr (pr (pr @exit_begin @exit_block) (pr @exit_nil (pr @pack_nil @pack_one))) (pr (pr @pack_two (pr @loadV_vec @loadV_cells)) (pr @loadB_agg (pr @loadB_one @branch_t)))) (pr (pr (pr @branch_f (pr @prune_nil @prune_cons)) (pr @content_cells (pr @content_vec @view_nils))) (pr (pr @srcLen_nils (pr @srcLen_slc @srcLen_str)) (pr @srcCells_slc (pr @srcCells_nils @evalOp_append))))))) (pr (pr (pr (pr (pr (pr @appR_some @evalOp_idxA) (pr @evalOp_idxS (pr @idxA_ptr @idxA_sptr))) (pr (pr @idxS_int (pr @idxS2_some @List.map_nil.{0, 0})) (pr @List.map_cons.{0, 0} (pr @List.all_nil.{0} @List.all_cons.{0})))) (pr (pr (pr @true_and @and_true) (pr @and_self (pr @decide_eq_true @decide_eq_false))) (pr (pr @and_left (pr @fdiv_pow @Int.toNat_natCast)) (pr @Nat.mul_one (pr @Bool.not_eq_eq_eq_not @decide_true))))) (pr (pr (pr (pr @decide_false @Nat.zero_lt_one) (pr @List.any_nil.{0} (pr @List.nil_append.{0} @beq_true))) (pr (pr @beq_false (pr @Int.fdiv_eq_ediv_of_nonneg @beq_self_eq_true.{0})) (pr @Bool.not_true (pr @Bool.not_false @wrap_i64)))) (pr (pr (pr @wrap_u64 (pr @wrap_u32 @wrap_u16)) (pr @wrap_i32 (pr @wrap_u8 @slen_nils))) (pr (pr @slen_slc (pr @slen_imm @Bool.false_eq_true)) (pr @List.getElem?_cons_zero.{0} (pr @List.getElem?_cons_succ.{0} @List.length_cons.{0})))))) (pr (pr (pr (pr (pr @List.length_nil.{0} @Bool.and_self) (pr @Bool.and_true (pr @Bool.true_and @List.set_cons_zero.{0}))) (pr (pr @List.set_cons_succ.{0} (pr @Nat.zero_add @Nat.le_refl)) (pr @List.getD_cons_zero.{0} (pr @List.getD_cons_succ.{0} @Nat.min_eq_left)))) (pr (pr (pr @Nat.min_eq_right @cells_int) (pr @cells_bool (pr @cells_str @cells_agg))) (pr (pr @cells_slc (pr @cells_nils @cells_nilp)) (pr @cells_nilf (pr @cells_nilm @cells_ptr))))) (pr (pr (pr (pr @cells_mapv @cells_fn) (pr @cells_imm (pr @cellish_int @cellish_bool))) (pr (pr @cellish_str (pr @cellish_slc @cellish_nils)) (pr @cellish_nilp (pr @cellish_nilf @cellish_nilm)))) (pr (pr (pr @cellish_ptr (pr @cellish_mapv @cellish_fn)) (pr @cellish_imm (pr @cells_nums @cells_ints))) (pr (pr @cells_recs (pr @cells_cell @cellish_nums)) (pr @cellish_ints (pr @cellish_recs @cellish_cell))))))))
abbrev stdh := pr (pr (pr (pr (pr (pr (pr (pr @V.eq_1 (pr @V.eq_2 @V.eq_3)) (pr (pr @V.eq_4 @V.eq_5) (pr @V.eq_6 @V.eq_7))) (pr (pr @V.eq_8 (pr @V.eq_9 @V.eq_10)) (pr (pr @V.eq_11 @V.eq_12) (pr @V.eq_13 @V.eq_14)))) (pr (pr (pr @V.eq_15 (pr @V.eq_16 @V.eq_17)) (pr (pr @V.eq_18 @V.eq_19) (pr @V.eq_20 @V.eq_21))) (pr (pr @V.eq_22 (pr @V.eq_23 @V.eq_24)) (pr (pr @V.eq_25 @GoK.eq_1) (pr @GoK.eq_2 @GoK.eq_4))))) (pr (pr (pr (pr @ResK.eq_1 (pr @ResK.eq_2 @LeaveK.eq_1)) (pr (pr @LeaveK.eq_2 @JumpK.eq_1) (pr @JumpK.eq_2 @DResK.eq_1))) (pr (pr @DResK.eq_2 (pr @DGoK.eq_1 @DGoK.eq_2)) (pr (pr @DGoK.eq_4 @DAtK.eq_1) (pr @DAtK.eq_2 @Sem'.eq_1)))) (pr (pr (pr @Sem'.eq_2 (pr @Sem'.eq_3 @Sem'.eq_4)) (pr (pr @argRegs.eq_1 @argRegs.eq_2) (pr @evalOp.eq_1 @evalOp.eq_2))) (pr (pr @evalOp.eq_3 (pr @evalOp.eq_4 @evalOp.eq_5)) (pr (pr @evalOp.eq_6 @evalOp.eq_7) (pr @evalOp.eq_8 @evalOp.eq_9)))))) (pr (pr (pr (pr (pr @evalOp.eq_10 (pr @evalOp.eq_11 @evalOp.eq_12)) (pr (pr @evalOp.eq_13 @evalOp.eq_14) (pr @evalOp.eq_18 @evalOp.eq_19))) (pr (pr @evalOp.eq_20 (pr @evalOp.eq_21 @evalOp.eq_22)) (pr (pr @evalOp.eq_23 @evalOp.eq_24) (pr @evalOp.eq_25 @evalOp.eq_26)))) (pr (pr (pr @evalOp.eq_28 (pr @evalOp.eq_29 @evalOp.eq_30)) (pr (pr @evalOp.eq_31 @evalOp.eq_32) (pr @wants.eq_1 @wants.eq_2))) (pr (pr @geto.eq_1 (pr @geto.eq_2 @rget.eq_1)) (pr (pr @rget.eq_2 @rput.eq_1) (pr @rput.eq_2 @binA.eq_1))))) (pr (pr (pr (pr @binA.eq_2 (pr @binA.eq_3 @binA.eq_4)) (pr (pr @binA.eq_5 @binA.eq_6) (pr @binA.eq_7 @binA.eq_8))) (pr (pr @binA.eq_9 (pr @binA.eq_10 @binA.eq_11)) (pr (pr @binA.eq_12 @binA.eq_13) (pr @binA.eq_14 @binA.eq_15)))) (pr (pr (pr @binA.eq_16 (pr @binA.eq_17 @binA.eq_18)) (pr (pr @binA.eq_19 @binA.eq_20) (pr @unA.eq_1 @unA.eq_2))) (pr (pr @unA.eq_4 (pr @IntKind.bits.eq_1 @IntKind.bits.eq_2)) (pr (pr @IntKind.bits.eq_3 @IntKind.bits.eq_4) (pr @IntKind.bits.eq_5 @IntKind.bits.eq_6))))))) (pr (pr (pr (pr (pr (pr @IntKind.bits.eq_7 (pr @IntKind.bits.eq_8 @logAdd.eq_1)) (pr (pr @recheck.eq_1 @recheck.eq_2) (pr @resOne.eq_1 @resOne.eq_2))) (pr (pr @resA.eq_1 (pr @resA.eq_2 @fillParts.eq_1)) (pr (pr @fillParts.eq_2 @fillAt.eq_1) (pr @fillAt.eq_2 @opdInt.eq_1)))) (pr (pr (pr @opdInt.eq_2 (pr @goK_mov @dgoK_mov)) (pr (pr @isEff_mov @isPure_mov) (pr @goK_pick @dgoK_pick))) (pr (pr @isEff_pick (pr @isPure_pick @goK_alloc)) (pr (pr @dgoK_alloc @isEff_alloc) (pr @isPure_alloc @goK_box))))) (pr (pr (pr (pr @dgoK_box (pr @isEff_box @isPure_box)) (pr (pr @goK_build @dgoK_build) (pr @isEff_build @isPure_build))) (pr (pr @goK_lit (pr @dgoK_lit @isEff_lit)) (pr (pr @isPure_lit @goK_load) (pr @dgoK_load @isEff_load)))) (pr (pr (pr @isPure_load (pr @goK_store @dgoK_store)) (pr (pr @isEff_store @isPure_store) (pr @goK_bin @dgoK_bin))) (pr (pr @isEff_bin (pr @isPure_bin @goK_eq)) (pr (pr @dgoK_eq @isEff_eq) (pr @isPure_eq @goK_un)))))) (pr (pr (pr (pr (pr @dgoK_un (pr @isEff_un @isPure_un)) (pr (pr @goK_conv @dgoK_conv) (pr @isEff_conv @isPure_conv))) (pr (pr @goK_nilc (pr @dgoK_nilc @isEff_nilc)) (pr (pr @isPure_nilc @goK_field) (pr @dgoK_field @isEff_field)))) (pr (pr (pr @isPure_field (pr @goK_idx @dgoK_idx)) (pr (pr @isEff_idx @goK_sidx) (pr @dgoK_sidx @isEff_sidx))) (pr (pr @isPure_sidx (pr @goK_slice @dgoK_slice)) (pr (pr @isEff_slice @goK_toArr) (pr @dgoK_toArr @isEff_toArr))))) (pr (pr (pr (pr @isPure_toArr (pr @goK_len @dgoK_len)) (pr (pr @isEff_len @goK_maxmin) (pr @dgoK_maxmin @isEff_maxmin))) (pr (pr @isPure_maxmin (pr @goK_extract @dgoK_extract)) (pr (pr @isEff_extract @isPure_extract) (pr @goK_mkfn @dgoK_mkfn)))) (pr (pr (pr @isEff_mkfn (pr @isPure_mkfn @goK_append)) (pr (pr @dgoK_append @isEff_append) (pr @isPure_append @goK_mkmap))) (pr (pr @dgoK_mkmap (pr @isEff_mkmap @isPure_mkmap)) (pr (pr @goK_mkslice @dgoK_mkslice) (pr @isEff_mkslice @isPure_mkslice)))))))) (pr (pr (pr (pr (pr (pr (pr @goK_lookup (pr @dgoK_lookup @isEff_lookup)) (pr (pr @isPure_lookup @goK_mapset) (pr @dgoK_mapset @isEff_mapset))) (pr (pr @isPure_mapset (pr @isEff_call @isPure_call)) (pr (pr @isPure_lenS @isPure_lenT) (pr @isPure_lenM @isPure_sliceS)))) (pr (pr (pr @isPure_sliceT (pr @isPure_sliceA @isPure_idxS)) (pr (pr @isPure_idxA @exit_code) (pr @exit_loop @exit_scope))) (pr (pr @exit_begin (pr @exit_block @exit_nil)) (pr (pr @pack_nil @pack_one) (pr @pack_two @loadV_vec))))) (pr (pr (pr (pr @loadV_cells (pr @loadB_agg @loadB_one)) (pr (pr @branch_t @branch_f) (pr @prune_nil @prune_cons))) (pr (pr @content_cells (pr @content_vec @view_nils)) (pr (pr @srcLen_nils @srcLen_slc) (pr @srcLen_str @srcCells_slc)))) (pr (pr (pr @srcCells_nils (pr @evalOp_append @appR_some)) (pr (pr @evalOp_idxA @evalOp_idxS) (pr @idxA_ptr @idxA_sptr))) (pr (pr @idxS_int (pr @idxS2_some @List.map_nil.{0, 0})) (pr (pr @List.map_cons.{0, 0} @List.all_nil.{0}) (pr @List.all_cons.{0} @true_and)))))) (pr (pr (pr (pr (pr @and_true (pr @and_self @decide_eq_true)) (pr (pr @decide_eq_false @and_left) (pr @fdiv_pow @Int.toNat_natCast))) (pr (pr @Nat.mul_one (pr @Bool.not_eq_eq_eq_not @decide_true)) (pr (pr @decide_false @Nat.zero_lt_one) (pr @List.any_nil.{0} @List.nil_append.{0})))) (pr (pr (pr @beq_true (pr @beq_false @Int.fdiv_eq_ediv_of_nonneg)) (pr (pr @beq_self_eq_true.{0} @Bool.not_true) (pr @Bool.not_false @wrap_i64))) (pr (pr @wrap_u64 (pr @wrap_u32 @wrap_u16)) (pr (pr @wrap_i32 @wrap_u8) (pr @slen_nils @slen_slc))))) (pr (pr (pr (pr @slen_imm (pr @Bool.false_eq_true @List.getElem?_cons_zero.{0})) (pr (pr @List.getElem?_cons_succ.{0} @List.length_cons.{0}) (pr @List.length_nil.{0} @Bool.and_self))) (pr (pr @Bool.and_true (pr @Bool.true_and @List.set_cons_zero.{0})) (pr (pr @List.set_cons_succ.{0} @Nat.zero_add) (pr @Nat.le_refl @List.getD_cons_zero.{0})))) (pr (pr (pr @List.getD_cons_succ.{0} (pr @Nat.min_eq_left @Nat.min_eq_right)) (pr (pr @cells_int @cells_bool) (pr @cells_str @cells_agg))) (pr (pr @cells_slc (pr @cells_nils @cells_nilp)) (pr (pr @cells_nilf @cells_nilm) (pr @cells_ptr @cells_mapv))))))) (pr (pr (pr (pr (pr (pr @cells_fn (pr @cells_imm @cellish_int)) (pr (pr @cellish_bool @cellish_str) (pr @cellish_slc @cellish_nils))) (pr (pr @cellish_nilp (pr @cellish_nilf @cellish_nilm)) (pr (pr @cellish_ptr @cellish_mapv) (pr @cellish_fn @cellish_imm)))) (pr (pr (pr @loadA_at (pr @storeA_at @List.drop_zero.{0})) (pr (pr @lrec_state @lrec_set) (pr @lrec_busy @List.any_cons.{0}))) (pr (pr @Bool.or_false (pr @Bool.or_true @Bool.or_self)) (pr (pr @false_implies @implies_true.{1}) (pr @forall_const.{1} @Option.getD_some.{0}))))) (pr (pr (pr (pr @Option.getD_none.{0} (pr @Res.ok.injEq @exists_eq_left.{1})) (pr (pr @exists_eq_left'.{1} @imp_self) (pr @ne_eq.{1} @not_false_eq_true))) (pr (pr @slen_nums (pr @slen_ints @slen_recs)) (pr (pr @view_nums @view_ints) (pr @view_recs @srcLen_nums)))) (pr (pr (pr @srcLen_ints (pr @srcLen_recs @srcCells_nums)) (pr (pr @srcCells_ints @srcCells_recs) (pr @cells_nums @cells_ints))) (pr (pr @cells_recs (pr @cells_cell @cellish_nums)) (pr (pr @cellish_ints @cellish_recs) (pr @cellish_cell @load_nums)))))) (pr (pr (pr (pr (pr @load_ints (pr @load_cellV @slice_nums_from)) (pr (pr @slice_nums_to @slice_nums_both) (pr @slice_nums_cap @slice_nums_cap2))) (pr (pr @slice_nums_all (pr @slice_ints_from @slice_ints_to)) (pr (pr @slice_ints_both @at_0) (pr @at_k @set_0)))) (pr (pr (pr @set_k (pr @List.append_assoc.{0} @List.cons_append.{0})) (pr (pr @List.length_append.{0} @List.length_set.{0}) (pr @Bool.false_and @Bool.and_false))) (pr (pr @List.take_succ_cons.{0} (pr @List.take_zero.{0} @List.take_nil.{0})) (pr (pr @List.drop_succ_cons.{0} @List.drop_nil.{0}) (pr @Option.isSome_some.{0} @Option.isSome_none.{0}))))) (pr (pr (pr (pr @Option.isNone_some.{0} (pr @Option.isNone_none.{0} @BeginK.eq_1)) (pr (pr @RetK.eq_1 @storeB.eq_1) (pr @storeB.eq_2 @logAt.eq_1))) (pr (pr @logAt.eq_2 (pr @Again.eq_1 @eqA.eq_1)) (pr (pr @eqA.eq_3 @eqA.eq_4) (pr @eqA.eq_5 @eqA.eq_6)))) (pr (pr (pr @eqA.eq_7 (pr @eqA.eq_9 @eqA.eq_10)) (pr (pr @eqA.eq_11 @eqA.eq_12) (pr @eqA.eq_13 @eqA.eq_15))) (pr (pr (pr @eqA.eq_16 @eqA.eq_17) (pr @eqA.eq_19 @eqCells.eq_1)) (pr (pr @eqCells.eq_2 @eqCell.eq_1) (pr @eqCell.eq_2 @eqCell.eq_3))))))))
abbrev Var := Nat × TypeId × (Nat → AVal)
def Vars (vs : List Var) (j : Nat) (H : AHeap) : Prop := ∀ v ∈ vs, H[v.1]? = some (.cells [v.2.2 j] v.2.1)
theorem Vars.get {vs : List Var} {j : Nat} {H : AHeap} (h : Vars vs j H) {c : Nat} {T : TypeId} {f : Nat → AVal} (hv : (c, T, f) ∈ vs) : H[c]? = some (.cells [f j] T) := h _ hv
def varsJ (vs : List Var) (j : Nat) (fp : List Nat) (H : AHeap) : Prop := fp = vs.map (·.1) ∧ Vars vs j H
theorem varsJ_foot (vs : List Var) (j : Nat) : Foot (varsJ vs j) where
 lt := by
  rintro fp H ⟨rfl, h⟩ m hm
  obtain ⟨v, hv, rfl⟩ := List.mem_map.1 hm
  exact (List.getElem?_eq_some_iff.1 (h v hv)).1
 stable := by
  rintro fp H H' ⟨rfl, h⟩ hle hk
  exact ⟨rfl, fun v hv => (hk v.1 (List.mem_map.2 ⟨v, hv, rfl⟩)).trans (h v hv)⟩
def VarsQ (vs : List Var) (n : Nat) (L : LoopState → Option AJump → ALoop) (j : Nat) (stop : Option AJump) (H1 : AHeap) (av : AVal) (H' : AHeap) : Prop :=
 H1.length ≤ H'.length ∧ (∀ m, m < H1.length → m ≠ n → m ∉ vs.map (·.1) → H'[m]? = H1[m]?) ∧ Vars vs (j + 1) H' ∧ av = .bool stop.isNone ∧ H'[n]? = some (.loop (L (if stop.isNone then .ready else .done) stop))
section
variable {P : Program} {c : Ctx} {k : List AItem} {r : Regs} {H : AHeap} {Q : AVal → AHeap → Prop}
theorem range_vars {f : AOpd} {ps : List Nat} {as bd : ACode} {g : FuncId} {first captured : List AVal} (hf : geto r f = .fn g first captured) (hrd : ∀ n, c.rd = some n → ∃ L, H[n]? = some (.loop L))
  {item : Nat → List AVal} {len : Nat} (hitem : ∀ j, (item j).length = ps.length) (vs : List Var) (stop : Nat → Option AJump) (h0 : Vars vs 0 H)
  (hbody : ∀ as' bd' j H1, j < len → (∀ i, i < j → stop i = none) → H.length < H1.length → (∀ m, m < H.length → m ∉ vs.map (·.1) → H1[m]? = H[m]?) → H1[H.length]? = some (.loop (lrec c r ps as' bd' .ready none)) → Vars vs j H1 →
   Run P ⟨c.fn, c.nt, [], some H.length⟩ [.code as, .begin, .code bd] ((ps.zip (item j)).reverse ++ r) H1 (VarsQ vs H.length (lrec c r ps as' bd') j (stop j) H1))
  (hiter : ∀ H1, H1.length = H.length + 1 → (∀ m, m < H.length → H1[m]? = H[m]?) → Iter P g (first ++ [.yld H.length] ++ captured) H.length item len [] H1)
  (hend : ∀ H', H.length < H'.length → (∀ m, m < H.length → m ∉ vs.map (·.1) → H'[m]? = H[m]?) → (∀ i, i < len → stop i = none) → Vars vs len H' → Run P c k r H' Q)
  (hstop : ∀ ap j H', H.length < H'.length → (∀ m, m < H.length → m ∉ vs.map (·.1) → H'[m]? = H[m]?) → j < len → stop j = some ap → (∀ i, i < j → stop i = none) → Vars vs (j + 1) H' → Run P c (jumpItems (some ap) ++ k) r H' Q) :
  Run P c (.code (.range f ps as bd) :: k) r H Q := by
 have hlt : ∀ m ∈ vs.map (·.1), m < H.length := fun m hm => by
  obtain ⟨v, hv, rfl⟩ := List.mem_map.1 hm
  exact (List.getElem?_eq_some_iff.1 (h0 v hv)).1
 let J : Nat → List Nat → AHeap → Prop := fun j fp H' => varsJ vs j fp H' ∧ (∀ i, i < j → stop i = none)
 let S : AJump → Nat → List Nat → AHeap → Prop := fun ap j fp H' => varsJ vs j fp H' ∧ ∃ i, j = i + 1 ∧ i < len ∧ stop i = some ap ∧ ∀ i', i' < i → stop i' = none
 have hJ : ∀ j, Foot (J j) := fun j => ⟨fun fp H' h => (varsJ_foot vs j).lt fp H' h.1, fun fp H' H2 h hle hk => ⟨(varsJ_foot vs j).stable fp H' H2 h.1 hle hk, h.2⟩⟩
 have hS : ∀ ap j, Foot (S ap j) := fun ap j => ⟨fun fp H' h => (varsJ_foot vs j).lt fp H' h.1, fun fp H' H2 h hle hk => ⟨(varsJ_foot vs j).stable fp H' H2 h.1 hle hk, h.2⟩⟩
 -- other blocks stay, too
 let J2 : Nat → List Nat → AHeap → Prop := fun j fp H' => J j fp H'
 have hfeet : (∀ as' bd' j fp H1, j < len → H.length ∉ fp → H.length < H1.length → H1[H.length]? = some (.loop (lrec c r ps as' bd' .ready none)) → J j fp H1 → True) := fun _ _ _ _ _ _ _ _ _ _ => trivial
 let K : Nat → List Nat → AHeap → Prop := fun j fp H' => ∃ fp1, fp = fp1 ++ (List.range H.length).filter (fun m => !(vs.map (·.1)).contains m) ∧ J j fp1 H' ∧ (∀ m, m < H.length → m ∉ vs.map (·.1) → H'[m]? = H[m]?) ∧ H.length ≤ H'.length
 let KS : AJump → Nat → List Nat → AHeap → Prop := fun ap j fp H' => ∃ fp1, fp = fp1 ++ (List.range H.length).filter (fun m => !(vs.map (·.1)).contains m) ∧ S ap j fp1 H' ∧ (∀ m, m < H.length → m ∉ vs.map (·.1) → H'[m]? = H[m]?) ∧ H.length ≤ H'.length
 have hmem : ∀ m, m < H.length → m ∉ vs.map (·.1) → m ∈ (List.range H.length).filter (fun m => !(vs.map (·.1)).contains m) := fun m h1 h2 => by
  rw [List.mem_filter]; exact ⟨List.mem_range.2 h1, by simpa using h2⟩
 have hmem2 : ∀ m ∈ (List.range H.length).filter (fun m => !(vs.map (·.1)).contains m), m < H.length := fun m hm => by
  rw [List.mem_filter] at hm; exact List.mem_range.1 hm.1
 have hK : ∀ j, Foot (K j) := fun j => {
  lt := by
   rintro fp H' ⟨fp1, rfl, h1, h2, h3⟩ m hm
   rcases List.mem_append.1 hm with hm | hm
   ·exact (hJ j).lt _ _ h1 m hm
   ·exact Nat.lt_of_lt_of_le (hmem2 m hm) h3
  stable := by
   rintro fp H' H2 ⟨fp1, rfl, h1, h2, h3⟩ hle hk
   exact ⟨fp1, rfl, (hJ j).stable _ _ _ h1 hle (fun m hm => hk m (by simp [hm])), fun m a b => (hk m (List.mem_append_right _ (hmem m a b))).trans (h2 m a b), Nat.le_trans h3 hle⟩ }
 have hKS : ∀ ap j, Foot (KS ap j) := fun ap j => {
  lt := by
   rintro fp H' ⟨fp1, rfl, h1, h2, h3⟩ m hm
   rcases List.mem_append.1 hm with hm | hm
   ·exact (hS ap j).lt _ _ h1 m hm
   ·exact Nat.lt_of_lt_of_le (hmem2 m hm) h3
  stable := by
   rintro fp H' H2 ⟨fp1, rfl, h1, h2, h3⟩ hle hk
   exact ⟨fp1, rfl, (hS ap j).stable _ _ _ h1 hle (fun m hm => hk m (by simp [hm])), fun m a b => (hk m (List.mem_append_right _ (hmem m a b))).trans (h2 m a b), Nat.le_trans h3 hle⟩ }
 refine range_of hf hrd hitem K KS hK hKS (fp0 := vs.map (·.1) ++ (List.range H.length).filter (fun m => !(vs.map (·.1)).contains m)) ⟨_, rfl, ⟨⟨rfl, h0⟩, fun i hi => by omega⟩, fun _ _ _ => rfl, Nat.le_refl _⟩ ?_ [] (by simp) hiter ?_ ?_
 ·rintro as' bd' j fp H1 hj hn hl hrec ⟨fp1, rfl, ⟨⟨rfl, hv⟩, hst⟩, hk, hle⟩
  refine (hbody as' bd' j H1 hj hst hl hk hrec hv).mono ?_
  rintro av H' ⟨q1, q2, q3, rfl, q5⟩
  have hk' : ∀ m, m < H.length → m ∉ vs.map (·.1) → H'[m]? = H[m]? := fun m h1 h2 => by rw [q2 m (by omega) (by omega) h2, hk m h1 h2]
  refine ⟨_, ⟨q1, fun m hm => .inl hm, fun m hm hf => ?_⟩, hn, ?_⟩
  ·simp only [List.mem_cons, not_or, List.mem_append] at hf
   exact q2 m hm hf.1 hf.2.1
  ·cases hs : stop j with
   | none =>
    rw [hs] at q5
    refine .inl ⟨rfl, q5, _, rfl, ⟨⟨rfl, q3⟩, fun i hi => ?_⟩, hk', by omega⟩
    by_cases hij : i < j
    ·exact hst i hij
    ·have : i = j := by omega
     subst this; exact hs
   | some ap =>
    rw [hs] at q5
    exact .inr ⟨ap, rfl, q5, _, rfl, ⟨⟨rfl, q3⟩, j, rfl, hj, hs, hst⟩, hk', by omega⟩
 ·rintro fp H' hl hk ⟨fp1, rfl, ⟨⟨rfl, hv⟩, hst⟩, hk2, hle⟩
  exact hend H' hl hk2 hst hv
 ·rintro ap j fp H' hl hk ⟨fp1, rfl, ⟨⟨rfl, hv⟩, i, rfl, hi, hs, hst⟩, hk2, hle⟩
  exact hstop ap i H' hl hk2 hi hs hst hv
end
theorem varsQ_mk {vs : List Var} {n : Nat} {L : LoopState → Option AJump → ALoop} {j : Nat} {stop : Option AJump} {H1 : AHeap} {av : AVal} {H' : AHeap} (hs : av = .bool stop.isNone) (h1 : H1.length ≤ H'.length) (h2 : ∀ m, m < H1.length → m ≠ n → m ∉ vs.map (·.1) → H'[m]? = H1[m]?) (h3 : Vars vs (j + 1) H') (h5 : H'[n]? = some (.loop (L (if stop.isNone then .ready else .done) stop))) : VarsQ vs n L j stop H1 av H' := ⟨h1, h2, h3, hs, h5⟩
theorem vars_nil {j : Nat} {H : AHeap} : Vars [] j H := fun v hv => by cases hv
theorem vars_cons {v : Var} {vs : List Var} {j : Nat} {H : AHeap} (h : H[v.1]? = some (.cells [v.2.2 j] v.2.1)) (hs : Vars vs j H) : Vars (v :: vs) j H := fun u hu => by
 rcases List.mem_cons.1 hu with rfl | hu
 ·exact h
 ·exact hs u hu
theorem exit_fin {P : Program} {c : Ctx} {Q : AVal → AHeap → Prop} {n id : Nat} {L : ALoop} {r : Regs} {H : AHeap} (hrd : c.rd = some n) (hn : H[n]? = some (.loop L)) (hq : Q (.bool false) (H.set n (.loop { L with state := .done, pending := some (.exit id) }))) : Am.Exit P c id [] r H Q := .inr ⟨rfl, n, L, hrd, hn, hq⟩
theorem ice_nils {H H' : AHeap} {Q : AVal → AHeap → Prop} (hk : Keeps H H') (hq : Q (.imm [] 0 false) H) : IceQ H Q .nils H' :=
 ice_own (w := 1) (el := 0) hk Own.nil trivial hq
end Go.Am

namespace Go.Am
open Go
structure Acc where
 c : Nat
 T : TypeId
 w : Nat
 el : TypeId
 B : Nat
 n : Nat → Nat
 cs : Nat → List AVal
def Acc.at_ (A : Acc) (j : Nat) (H : AHeap) (a : AVal) : Prop := H[A.c]? = some (.cells [a] A.T) ∧ Own A.w A.el A.B H a (A.n j) (A.cs j)
theorem Own.ne {w : Nat} {el : TypeId} {B : Nat} {H : AHeap} {a : AVal} {n : Nat} {cs : List AVal} (h : Own w el B H a n cs) {c : Nat} {l : List AVal} {T : TypeId} (hc : H[c]? = some (.cells l T)) : c ∉ a.names := by
 rcases h.is with ⟨rfl, _⟩ | ⟨m, _, rfl, hm⟩
 ·simp [AVal.names]
 ·simp only [AVal.names, List.mem_singleton]
  rintro rfl
  rw [hm] at hc; cases hc
theorem Own.ne_loop {w : Nat} {el : TypeId} {B : Nat} {H : AHeap} {a : AVal} {n : Nat} {cs : List AVal} (h : Own w el B H a n cs) {c : Nat} {L : ALoop} (hc : H[c]? = some (.loop L)) : c ∉ a.names := by
 rcases h.is with ⟨rfl, _⟩ | ⟨m, _, rfl, hm⟩
 ·simp [AVal.names]
 ·simp only [AVal.names, List.mem_singleton]
  rintro rfl
  rw [hm] at hc; cases hc
def AccQ (vs : List Var) (A : Acc) (n : Nat) (L : LoopState → Option AJump → ALoop) (j : Nat) (stop : Option AJump) (a : AVal) (H1 : AHeap) (av : AVal) (H' : AHeap) : Prop :=
 H1.length ≤ H'.length ∧ (∀ m, m < H1.length → m ≠ n → m ∉ vs.map (·.1) → m ≠ A.c → m ∉ a.names → H'[m]? = H1[m]?) ∧ Vars vs (j + 1) H' ∧ (∃ a', A.at_ (j + 1) H' a' ∧ ∀ m ∈ a'.names, m ∈ a.names ∨ H1.length ≤ m) ∧
  av = .bool stop.isNone ∧ H'[n]? = some (.loop (L (if stop.isNone then .ready else .done) stop))
section
variable {P : Program} {c : Ctx} {k : List AItem} {r : Regs} {H : AHeap} {Q : AVal → AHeap → Prop}
theorem range_acc {f : AOpd} {ps : List Nat} {as bd : ACode} {g : FuncId} {first captured : List AVal} (hf : geto r f = .fn g first captured) (hrd : ∀ n, c.rd = some n → ∃ L, H[n]? = some (.loop L))
  {item : Nat → List AVal} {len : Nat} (hitem : ∀ j, (item j).length = ps.length) (vs : List Var) (A : Acc) (stop : Nat → Option AJump) {a0 : AVal} (h0 : Vars vs 0 H) (h0a : A.at_ 0 H a0)
  (hbody : ∀ as' bd' j H1 a, j < len → (∀ i, i < j → stop i = none) → H.length < H1.length → (∀ m, m < H.length → m ∉ vs.map (·.1) → m ≠ A.c → m ∉ a0.names → H1[m]? = H[m]?) → H1[H.length]? = some (.loop (lrec c r ps as' bd' .ready none)) → Vars vs j H1 → A.at_ j H1 a →
   Run P ⟨c.fn, c.nt, [], some H.length⟩ [.code as, .begin, .code bd] ((ps.zip (item j)).reverse ++ r) H1 (AccQ vs A H.length (lrec c r ps as' bd') j (stop j) a H1))
  (hiter : ∀ H1, H1.length = H.length + 1 → (∀ m, m < H.length → H1[m]? = H[m]?) → Iter P g (first ++ [.yld H.length] ++ captured) H.length item len [] H1)
  (hend : ∀ H' a, H.length < H'.length → (∀ m, m < H.length → m ∉ vs.map (·.1) → m ≠ A.c → m ∉ a0.names → H'[m]? = H[m]?) → (∀ i, i < len → stop i = none) → Vars vs len H' → A.at_ len H' a → Run P c k r H' Q)
  (hstop : ∀ ap j H' a, H.length < H'.length → (∀ m, m < H.length → m ∉ vs.map (·.1) → m ≠ A.c → m ∉ a0.names → H'[m]? = H[m]?) → j < len → stop j = some ap → (∀ i, i < j → stop i = none) → Vars vs (j + 1) H' → A.at_ (j + 1) H' a → Run P c (jumpItems (some ap) ++ k) r H' Q) :
  Run P c (.code (.range f ps as bd) :: k) r H Q := by
 let other : List Nat := (List.range H.length).filter (fun m => !(vs.map (·.1)).contains m && !(m == A.c) && !a0.names.contains m)
 have hother : ∀ m, m ∈ other ↔ m < H.length ∧ m ∉ vs.map (·.1) ∧ m ≠ A.c ∧ m ∉ a0.names := fun m => by
  simp only [other, List.mem_filter, List.mem_range, Bool.and_eq_true, Bool.not_eq_true', beq_eq_false_iff_ne, List.contains_eq_mem, decide_eq_false_iff_not, and_assoc]
 -- what is known behind j rounds
 let G : Nat → List Nat → AHeap → Prop := fun j fp H' => ∃ a, fp = vs.map (·.1) ++ A.c :: (a.names ++ other) ∧ Vars vs j H' ∧ A.at_ j H' a ∧ (∀ m ∈ other, H'[m]? = H[m]?) ∧ H.length ≤ H'.length ∧ ∀ m ∈ a.names, m ∈ a0.names ∨ H.length ≤ m
 have hG : ∀ j, Foot (G j) := fun j => {
  lt := by
   rintro fp H' ⟨a, rfl, h1, h2, h3, h4, h5⟩ m hm
   simp only [List.mem_append, List.mem_cons] at hm
   rcases hm with hm | rfl | hm | hm
   ·obtain ⟨v, hv, rfl⟩ := List.mem_map.1 hm
    exact (List.getElem?_eq_some_iff.1 (h1 v hv)).1
   ·exact (List.getElem?_eq_some_iff.1 h2.1).1
   ·exact (h2.2.lt m hm).2
   ·exact Nat.lt_of_lt_of_le ((hother m).1 hm).1 h4
  stable := by
   rintro fp H' H2 ⟨a, rfl, h1, h2, h3, h4, h5⟩ hle hk
   exact ⟨a, rfl, fun v hv => (hk v.1 (by simp; exact .inl ⟨_, _, hv⟩)).trans (h1 v hv), ⟨(hk A.c (by simp)).trans h2.1, h2.2.moved fun m hm => hk m (by simp [hm])⟩, fun m hm => (hk m (by simp [hm])).trans (h3 m hm), Nat.le_trans h4 hle, h5⟩ }
 refine range_of hf hrd hitem (fun j fp H' => G j fp H' ∧ ∀ i, i < j → stop i = none) (fun ap j fp H' => G j fp H' ∧ ∃ i, j = i + 1 ∧ i < len ∧ stop i = some ap ∧ ∀ i', i' < i → stop i' = none)
  (fun j => ⟨fun fp H' h => (hG j).lt fp H' h.1, fun fp H' H2 h hle hk => ⟨(hG j).stable fp H' H2 h.1 hle hk, h.2⟩⟩)
  (fun ap j => ⟨fun fp H' h => (hG j).lt fp H' h.1, fun fp H' H2 h hle hk => ⟨(hG j).stable fp H' H2 h.1 hle hk, h.2⟩⟩)
  (fp0 := vs.map (·.1) ++ A.c :: (a0.names ++ other)) ⟨⟨a0, rfl, h0, h0a, fun _ _ => rfl, Nat.le_refl _, fun m hm => .inl hm⟩, fun i hi => by omega⟩ ?_ [] (by simp) hiter ?_ ?_
 ·rintro as' bd' j fp H1 hj hn hl hrec ⟨⟨a, rfl, hv, ha, ho, hle, hnm⟩, hst⟩
  have hkm : ∀ m, m < H.length → m ∉ vs.map (·.1) → m ≠ A.c → m ∉ a0.names → H1[m]? = H[m]? := fun m a b c d => ho m ((hother m).2 ⟨a, b, c, d⟩)
  refine (hbody as' bd' j H1 a hj hst hl hkm hrec hv ha).mono ?_
  rintro av H' ⟨q1, q2, q3, ⟨a', q4, q5⟩, rfl, q6⟩
  have hn' : H.length ∉ vs.map (·.1) ++ A.c :: (a'.names ++ other) := by
   intro hm
   simp only [List.mem_append, List.mem_cons] at hm hn
   rcases hm with hm | hm | hm | hm
   ·exact hn (.inl hm)
   ·exact hn (.inr (.inl hm))
   ·rcases q5 _ hm with h | h
    ·exact hn (.inr (.inr (.inl h)))
    ·omega
   ·exact hn (.inr (.inr (.inr hm)))
  have ho' : ∀ m ∈ other, H'[m]? = H[m]? := fun m hm => by
   obtain ⟨h1, h2, h3, h4⟩ := (hother m).1 hm
   rw [q2 m (by omega) (by omega) h2 h3 ?_, ho m hm]
   intro h5
   rcases hnm m h5 with h6 | h6
   ·exact h4 h6
   ·omega
  have hg : G (j + 1) (vs.map (·.1) ++ A.c :: (a'.names ++ other)) H' := ⟨a', rfl, q3, q4, ho', by omega, fun m hm => by
   rcases q5 m hm with h | h
   ·exact hnm m h
   ·exact .inr (by omega)⟩
  refine ⟨_, ⟨q1, fun m hm => ?_, fun m hm hf => ?_⟩, hn', ?_⟩
  ·simp only [List.mem_append, List.mem_cons] at hm ⊢
   rcases hm with rfl | hm | rfl | hm | hm
   ·exact .inl (.inl rfl)
   ·exact .inl (.inr (.inl hm))
   ·exact .inl (.inr (.inr (.inl rfl)))
   ·rcases q5 m hm with h | h
    ·exact .inl (.inr (.inr (.inr (.inl h))))
    ·exact .inr h
   ·exact .inl (.inr (.inr (.inr (.inr hm))))
  ·simp only [List.mem_append, List.mem_cons, not_or] at hf
   exact q2 m hm hf.1 hf.2.1 hf.2.2.1 hf.2.2.2.1
  ·cases hs : stop j with
   | none =>
    rw [hs] at q6
    refine .inl ⟨rfl, q6, hg, fun i hi => ?_⟩
    by_cases hij : i < j
    ·exact hst i hij
    ·have : i = j := by omega
     subst this; exact hs
   | some ap =>
    rw [hs] at q6
    exact .inr ⟨ap, rfl, q6, hg, j, rfl, hj, hs, hst⟩
 ·rintro fp H' hl hk ⟨⟨a, rfl, hv, ha, ho, hle, hnm⟩, hst⟩
  exact hend H' a hl (fun m a b c d => ho m ((hother m).2 ⟨a, b, c, d⟩)) hst hv ha
 ·rintro ap j fp H' hl hk ⟨⟨a, rfl, hv, ha, ho, hle, hnm⟩, i, rfl, hi, hs, hst⟩
  exact hstop ap i H' a hl (fun m a b c d => ho m ((hother m).2 ⟨a, b, c, d⟩)) hi hs hst hv ha
end
theorem resK_append {w : Nat} {el : TypeId} {B : Nat} {H : AHeap} {a x : AVal} {n k : Nat} {cs ys : List AVal} {bytes : Nat} {K : Mode → Prop} {dst : Option Nat} {os : List AOper} {live : List Nat} {kk : List AItem} {r : Regs} (h : Own w el B H a n cs) (hB : B ≤ H.length) (h1 : srcLen x = some k) (h2 : srcCells H x = some ys) (hy : ys.length = k * w) (hw : 0 < w)
  (hl : (n + k) * bytes ≤ 140737488355328) (hl2 : n + k ≤ 9223372036854775807) (hc : ys.all AVal.cellish = true)
  (hK : ∀ v H', Own w el B H' v (n + k) (cs ++ ys) → Touches a.names H v.names H' → (∀ m ∈ v.names, H.length ≤ m) → K (.ops os live kk (rput dst v r) H')) : ResK K (appR (appendA H el w bytes a x)) dst os live kk r := by
 obtain ⟨v, H', p, e, hp, ho, ht, hn⟩ := h.append2 bytes hB h1 h2 hy hw hl hl2 hc
 rw [e]
 exact ⟨hp, hK v H' ho ht hn⟩
end Go.Am
