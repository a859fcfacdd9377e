/-
  Lemmas on the way to the statements of this seat. By an AI agent. No person has read it.
-/
import Derived.Test.YtgjldipoagkncaaBODYC
import Derived.Test.YtgjldipoagkncaaBODYA
import Derived.Test.YtgjldipoagkncaaBODYB
set_option linter.unusedSimpArgs false
set_option linter.unusedVariables false

namespace Go.Proofs.Ytgjldipoagkncaa
open Go Go.Am
def Canon : List Nat → Prop
 | [] => False
 | [b] => b < 128
 | b :: c :: rest => 128 ≤ b ∧ b < 256 ∧ val (c :: rest) ≠ 0 ∧ Canon (c :: rest)
theorem putOne_val : ∀ (d : List Nat), Canon d → putOne (val d) = d
 | [], h => h.elim
 | [b], h => by
  simp only [Canon] at h
  have : val [b] = b := by simp only [val]; omega
  rw [this, putOne_lt h]
 | b :: c :: rest, h => by
  obtain ⟨h1, h2, h3, h4⟩ := h
  have hv : val (b :: c :: rest) = b % 128 + 128 * val (c :: rest) := rfl
  rw [hv, putOne_ge (by omega), show (b % 128 + 128 * val (c :: rest)) % 128 + 128 = b by omega, show (b % 128 + 128 * val (c :: rest)) / 128 = val (c :: rest) by omega, putOne_val _ h4]
theorem val_pos {d : List Nat} {j : Nat} (hj : j < d.length) (h : d.getD j 0 % 128 ≠ 0) : val d ≠ 0 := by
 have h1 := val_ge d j
 have h2 := val_drop d j hj
 omega
theorem canon_lead : ∀ (f : Nat) (bs : List Nat), (∀ b ∈ bs, b < 256) → lead f bs ≠ f → lead f bs < bs.length → (0 < lead f bs → bs.getD (lead f bs) 0 ≠ 0) → Canon (bs.take (lead f bs + 1))
 | 0, bs, _, h, _, _ => by simp [lead] at h
 | f + 1, [], _, _, h, _ => by simp [lead] at h
 | f + 1, b :: bs, hb, h1, h2, h3 => by
  by_cases hc : 128 ≤ b
  ·simp only [lead, if_pos hc] at h1 h2 h3 ⊢
   simp only [List.length_cons] at h2
   have hlt : lead f bs < bs.length := by omega
   have h3' := h3 (by omega)
   rw [Nat.add_comm 1, List.getD_cons_succ] at h3'
   have ih := canon_lead f bs (fun x hx => hb x (by simp [hx])) (by omega) hlt (fun _ => h3')
   rw [show 1 + lead f bs + 1 = (lead f bs + 1) + 1 by omega, List.take_succ_cons]
   have hlen : (bs.take (lead f bs + 1)).length = lead f bs + 1 := by simp; omega
   have hlast := lead_last f bs (by omega) hlt
   have hval : val (bs.take (lead f bs + 1)) ≠ 0 := by
    refine val_pos (j := lead f bs) (by omega) ?_
    have : (bs.take (lead f bs + 1)).getD (lead f bs) 0 = bs.getD (lead f bs) 0 := by
     simp [List.getD_eq_getElem?_getD, List.getElem?_take]
    rw [this]; omega
   cases htk : bs.take (lead f bs + 1) with
   | nil => rw [htk] at hlen; simp at hlen
   | cons c rest =>
    rw [htk] at ih hval
    exact ⟨hc, hb b (by simp), hval, ih⟩
  ·simp only [lead, if_neg hc]
   simp only [Nat.zero_add, List.take_succ_cons, List.take_zero, Canon]
   omega
theorem get_facts {bs : List Nat} (hb : ∀ b ∈ bs, b < 256) (h : (getSpec bs).2.2 = 0) : (getSpec bs).2.1 ≤ bs.length ∧ (getSpec bs).1 < 18446744073709551616 ∧ putOne (getSpec bs).1 = bs.take (getSpec bs).2.1 := by
 rw [← rgetSpec_eq] at h ⊢
 unfold rgetSpec at h ⊢
 by_cases h1 : lead 10 bs = 10
 ·rw [if_pos h1] at h; simp at h
 ·rw [if_neg h1] at h ⊢
  by_cases h2 : bs.length ≤ lead 10 bs
  ·rw [if_pos h2] at h; simp at h
  ·rw [if_neg h2] at h ⊢
   by_cases h3 : 18446744073709551616 ≤ val (bs.take (lead 10 bs + 1))
   ·rw [if_pos h3] at h; simp at h
   ·rw [if_neg h3] at h ⊢
    by_cases h4 : 0 < lead 10 bs ∧ bs.getD (lead 10 bs) 0 = 0
    ·rw [if_pos h4] at h; simp at h
    ·rw [if_neg h4]
     refine ⟨by simp; omega, by simp; omega, ?_⟩
     exact putOne_val _ (canon_lead 10 bs hb h1 (by omega) (fun hp hz => h4 ⟨hp, hz⟩))
theorem put_take {bs : List Nat} (hb : ∀ b ∈ bs, b < 256) (h : (getSpec bs).2.2 = 0) : bs = putOne (getSpec bs).1 ++ bs.drop (putOne (getSpec bs).1).length ∧ (putOne (getSpec bs).1).length = (getSpec bs).2.1 := by
 obtain ⟨h1, h2, h3⟩ := get_facts hb h
 have hl : (putOne (getSpec bs).1).length = (getSpec bs).2.1 := by rw [h3, List.length_take]; omega
 refine ⟨?_, hl⟩
 conv => lhs; rw [← List.take_append_drop (getSpec bs).2.1 bs, ← h3]
 rw [hl]
theorem byte_drop {ys : List Nat} (hb : ∀ b ∈ ys, b < 256) (a : Nat) : ∀ b ∈ ys.drop a, b < 256 := fun b h => hb b (List.mem_of_mem_drop h)
theorem num_inv {ys : List Nat} {s : RD} {most : Nat} (hb : ∀ b ∈ ys, b < 256) (h : (s.num ys most).2.err = 0) : ∃ a n, s = at0 a ∧ n < 18446744073709551616 ∧ n ≤ most ∧ s.num ys most = (n, at0 (a + (putOne n).length)) ∧ ys.drop a = putOne n ++ ys.drop (a + (putOne n).length) := by
 have hs := err_zero (num_stick h)
 obtain ⟨a, e, w⟩ := s
 obtain ⟨rfl, rfl⟩ : w = 0 ∧ e = 0 := hs
 have he := (err_zero h).2
 unfold RD.num at he
 have hsp : (numSpec most (ys.drop a)).2.2 = 0 := Classical.byContradiction fun hh => by
  rw [show lensR 0 ys a 0 (numSpec most) = _ from lensR_bad2 rfl hh] at he
  exact hh he
 have hg : (getSpec (ys.drop a)).2.2 = 0 := Classical.byContradiction fun hh => by
  unfold numSpec at hsp; rw [if_pos hh] at hsp; exact hh hsp
 have hm : ¬ most < (getSpec (ys.drop a)).1 := fun hh => by
  unfold numSpec at hsp; rw [if_neg (by omega), if_pos hh] at hsp; cases hsp
 obtain ⟨p1, p2⟩ := put_take (byte_drop hb a) hg
 have hf := get_facts (byte_drop hb a) hg
 refine ⟨a, (getSpec (ys.drop a)).1, rfl, hf.2.1, by omega, num_put p1 hf.2.1 (by omega), ?_⟩
 rw [← List.drop_drop]; exact p1
theorem sgn_inv {ys : List Nat} {s : RD} {lo hi : Int} (hb : ∀ b ∈ ys, b < 256) (h : (s.sgn ys lo hi).2.err = 0) : ∃ a z, s = at0 a ∧ lo ≤ z ∧ z ≤ hi ∧ s.sgn ys lo hi = (z, at0 (a + (putOne (zig z)).length)) ∧ ys.drop a = putOne (zig z) ++ ys.drop (a + (putOne (zig z)).length) := by
 have hs := err_zero (sgn_stick h)
 obtain ⟨a, e, w⟩ := s
 obtain ⟨rfl, rfl⟩ : w = 0 ∧ e = 0 := hs
 have he := (err_zero h).2
 unfold RD.sgn at he
 have hsp : (sgnSpec lo hi (ys.drop a)).2.2 = 0 := Classical.byContradiction fun hh => by
  rw [show lensR 0 ys a 0 (sgnSpec lo hi) = _ from lensR_bad2 rfl hh] at he
  exact hh he
 have hg : (getSpec (ys.drop a)).2.2 = 0 := Classical.byContradiction fun hh => by
  unfold sgnSpec at hsp; rw [if_pos hh] at hsp; exact hh hsp
 have hm : ¬ (zag (getSpec (ys.drop a)).1 < lo ∨ hi < zag (getSpec (ys.drop a)).1) := fun hh => by
  unfold sgnSpec at hsp; rw [if_neg (by omega), if_pos hh] at hsp; cases hsp
 obtain ⟨p1, p2⟩ := put_take (byte_drop hb a) hg
 have hf := get_facts (byte_drop hb a) hg
 have hz := zag_range hf.2.1
 have hzz : zig (zag (getSpec (ys.drop a)).1) = (getSpec (ys.drop a)).1 := zig_zag _
 refine ⟨a, zag (getSpec (ys.drop a)).1, rfl, by omega, by omega, sgn_put (rest := ys.drop (a + (putOne (getSpec (ys.drop a)).1).length)) ?_ hz (by omega) (by omega), ?_⟩
 ·rw [hzz, ← List.drop_drop]; exact p1
 ·rw [hzz, ← List.drop_drop]; exact p1
theorem fld_inv {ys : List Nat} {s : RD} {most : Int} (hb : ∀ b ∈ ys, b < 256) (h : (s.fld ys most).2.err = 0) (hmost : 0 ≤ most) : ∃ a xs, s = at0 a ∧ (xs.length : Int) ≤ most ∧ (∀ b ∈ xs, b < 256) ∧ s.fld ys most = (xs, at0 (a + (putOne xs.length ++ xs).length)) ∧ ys.drop a = putOne xs.length ++ xs ++ ys.drop (a + (putOne xs.length ++ xs).length) := by
 have hs := err_zero (fld_stick h)
 obtain ⟨a, e, w⟩ := s
 obtain ⟨rfl, rfl⟩ : w = 0 ∧ e = 0 := hs
 have he := (err_zero h).2
 unfold RD.fld at he
 have hsp : (fieldSpec most (ys.drop a)).2.2 = 0 := Classical.byContradiction fun hh => by
  rw [show lensR [] ys a 0 (fieldSpec most) = _ from lensR_bad2 rfl hh] at he
  exact hh he
 obtain ⟨g1, g2, g3⟩ := fieldSpec_inv hsp
 obtain ⟨p1, p2⟩ := put_take (byte_drop hb a) g1
 have hf := get_facts (byte_drop hb a) g1
 generalize hn : (getSpec (ys.drop a)).1 = n at *
 generalize hk : (getSpec (ys.drop a)).2.1 = k at *
 have hl : (((ys.drop a).drop k).take n).length = n := by rw [List.length_take, List.length_drop]; omega
 have hd : ys.drop a = putOne n ++ ((ys.drop a).drop k).take n ++ (ys.drop a).drop (k + n) := by
  have hdd : (ys.drop a).drop (k + n) = ((ys.drop a).drop k).drop n := (List.drop_drop ..).symm
  rw [hdd, List.append_assoc, List.take_append_drop, ← p2]
  exact p1
 have hlen2 : (putOne n ++ ((ys.drop a).drop k).take n).length = k + n := by rw [List.length_append, hl, p2]
 refine ⟨a, ((ys.drop a).drop k).take n, rfl, by rw [hl]; omega, fun b hb' => byte_drop hb a b (List.mem_of_mem_drop (List.mem_of_mem_take hb')), ?_, ?_⟩
 ·refine fld_put (rest := (ys.drop a).drop (k + n)) ?_ (by rw [hl]; exact hf.2.1) (by rw [hl]; omega)
  rw [hl]; exact hd
 ·rw [hl, hlen2, ← List.drop_drop]; exact hd
theorem count_inv {ys : List Nat} {s : RD} {most : Nat} (hb : ∀ b ∈ ys, b < 256) (h : (s.count ys most).2.err = 0) : ∃ a n, s = at0 a ∧ 1 ≤ n ∧ n ≤ most ∧ s.count ys most = (n, at0 (a + (putOne n).length)) ∧ ys.drop a = putOne n ++ ys.drop (a + (putOne n).length) := by
 obtain ⟨c1, c2⟩ := count_fst (ys := ys) (s := s) (most := most)
 obtain ⟨d1, d2, d3, d4⟩ := c2 h
 obtain ⟨a, n, rfl, h1, h2, h3, h4⟩ := num_inv hb d3
 rw [d4, h3] at c1 d1
 exact ⟨a, n, rfl, d1, c1, by rw [d4, h3], h4⟩
theorem pts_inv {ys : List Nat} (hb : ∀ b ∈ ys, b < 256) : ∀ (n : Nat) (last : Int × Int) (s : RD), near last.1 → near last.2 → (RD.pts ys n last s).2.err = 0 → ∃ a l, s = at0 a ∧ l.length = n ∧ l.any farP = false ∧ RD.pts ys n last s = (l, at0 (a + (pathB last l).length)) ∧ ys.drop a = pathB last l ++ ys.drop (a + (pathB last l).length)
 | 0, last, s, _, _, h => by
  have hs := err_zero (s := s) h
  obtain ⟨a, e, w⟩ := s
  obtain ⟨rfl, rfl⟩ : w = 0 ∧ e = 0 := hs
  exact ⟨a, [], rfl, rfl, rfl, by simp [RD.pts, pathB], by simp [pathB]⟩
 | n + 1, last, s, n1, n2, h => by
  rw [RD.pts] at h
  by_cases hp : (s.pt ys last).2.err = 0
  ·rw [if_pos hp] at h
   have hp2 := hp
   unfold RD.pt at hp2
   obtain ⟨a', z2, ea, y1, y2, y3, y4⟩ := sgn_inv hb hp2
   have hp1 := sgn_stick hp2
   obtain ⟨a, z1, rfl, x1, x2, x3, x4⟩ := sgn_inv hb hp1
   rw [x3] at ea
   have ea' : a + (putOne (zig z1)).length = a' := congrArg RD.a ea
   subst ea'
   unfold near at n1 n2
   have hpt : (at0 a).pt ys last = ((last.1 + z1, last.2 + z2), at0 (a + (putOne (zig z1)).length + (putOne (zig z2)).length)) := by
    unfold RD.pt
    rw [x3] at y3
    rw [x3, y3]
   rw [hpt] at h
   obtain ⟨a2, l, e2, l1, l2, l3, l4⟩ := pts_inv hb n (last.1 + z1, last.2 + z2) _ (by unfold near; simp only; omega) (by unfold near; simp only; omega) h
   have e2' : a + (putOne (zig z1)).length + (putOne (zig z2)).length = a2 := congrArg RD.a e2
   subst e2'
   have hpb : pathB last ((last.1 + z1, last.2 + z2) :: l) = putOne (zig z1) ++ (putOne (zig z2) ++ pathB (last.1 + z1, last.2 + z2) l) := by
    rw [pathB, putAll_two, show last.1 + z1 - last.1 = z1 by omega, show last.2 + z2 - last.2 = z2 by omega, List.append_assoc]
   refine ⟨a, (last.1 + z1, last.2 + z2) :: l, rfl, by rw [List.length_cons, l1], ?_, ?_, ?_⟩
   ·rw [List.any_cons, l2, Bool.or_false]
    exact decide_eq_false (by simp only; omega)
   ·rw [RD.pts, hpt, if_pos (at0_err _), l3, hpb]
    simp only [List.length_append, Nat.add_assoc]
   ·rw [hpb, x4, y4, l4]
    simp only [List.length_append, Nat.add_assoc, List.append_assoc]
  ·rw [if_neg hp] at h; exact absurd h hp
theorem cls_inv {ys : List Nat} (hb : ∀ b ∈ ys, b < 256) : ∀ (n : Nat) (last : Int) (s : RD), -1 ≤ last → (RD.cls ys n last s).2.err = 0 → ∃ a l, s = at0 a ∧ l.length = n ∧ cellsGo last l = 0 ∧ RD.cls ys n last s = (l, at0 (a + (cellsB last l).length)) ∧ ys.drop a = cellsB last l ++ ys.drop (a + (cellsB last l).length)
 | 0, last, s, _, h => by
  have hs := err_zero (s := s) h
  obtain ⟨a, e, w⟩ := s
  obtain ⟨rfl, rfl⟩ : w = 0 ∧ e = 0 := hs
  exact ⟨a, [], rfl, rfl, rfl, by simp [RD.cls, cellsB], by simp [cellsB]⟩
 | n + 1, last, s, hl, h => by
  rw [RD.cls] at h
  by_cases hp : ((s.num ys 65535).2.note (decide (65535 < last + (((s.num ys 65535).1 : Int) + 1))) 5).err = 0
  ·rw [if_pos hp] at h
   obtain ⟨p1, p2, p3⟩ := note_err0 (by omega) hp
   obtain ⟨a, k, rfl, x1, x2, x3, x4⟩ := num_inv hb p1
   rw [x3] at p2 p3 h
   have hle := of_decide_eq_false p2
   simp only at hle p3 h
   rw [p3] at h
   obtain ⟨a2, l, e2, l1, l2, l3, l4⟩ := cls_inv hb n _ _ (by omega) h
   have e2' : a + (putOne k).length = a2 := congrArg RD.a e2
   subst e2'
   have hcb : cellsB last ((last + ((k : Int) + 1)) :: l) = putOne k ++ cellsB (last + ((k : Int) + 1)) l := by
    rw [cellsB, putAll_one, show (last + ((k : Int) + 1) - last - 1).toNat = k by omega]
   refine ⟨a, (last + ((k : Int) + 1)) :: l, rfl, by rw [List.length_cons, l1], ?_, ?_, ?_⟩
   ·rw [cellsGo, if_neg (by omega), if_neg (by omega)]; exact l2
   ·rw [RD.cls, x3]
    simp only
    rw [p3, if_pos (at0_err _), l3, hcb]
    simp only [List.length_append, Nat.add_assoc]
   ·rw [hcb, x4, l4]
    simp only [List.length_append, Nat.add_assoc, List.append_assoc]
  ·rw [if_neg hp] at h; exact absurd h hp
def Fld.apart (f g : Fld) : Bool := if f.sort = 1 ∨ f.sort = 2 then (if g.sort = 1 ∨ g.sort = 2 then decide (f.place ≠ g.place) else true) else decide (f.sort ≠ g.sort)
theorem apart_all (k : Int) : (fieldsOf k).Pairwise (fun f g => g.apart f = true) := by
 by_cases h1 : k = 1
 ·subst h1; decide +kernel
 by_cases h2 : k = 2
 ·subst h2; decide +kernel
 by_cases h3 : k = 3
 ·subst h3; decide +kernel
 by_cases h4 : k = 4
 ·subst h4; decide +kernel
 by_cases h5 : k = 5
 ·subst h5; decide +kernel
 simp [fieldsOf, h1, h2, h3, h4, h5]
theorem put_num (m : Mg) {j : Int} (hj : j = 0 ∨ j = 1 ∨ j = 2 ∨ j = 3 ∨ j = 4 ∨ j = 5) (v : Int) : (m.put j v).num j = v := by
 rcases hj with rfl | rfl | rfl | rfl | rfl | rfl <;> rfl
theorem put_num_ne (m : Mg) {i j : Int} (hi : i = 0 ∨ i = 1 ∨ i = 2 ∨ i = 3 ∨ i = 4 ∨ i = 5) (hj : j = 0 ∨ j = 1 ∨ j = 2 ∨ j = 3 ∨ j = 4 ∨ j = 5) (h : i ≠ j) (v : Int) : (m.put j v).num i = m.num i := by
 rcases hi with rfl | rfl | rfl | rfl | rfl | rfl <;> rcases hj with rfl | rfl | rfl | rfl | rfl | rfl <;> first | rfl | (exact absurd rfl h)
theorem put_rest (m : Mg) (j v : Int) : (m.put j v).k = m.k ∧ (m.put j v).p = m.p ∧ (m.put j v).c = m.c ∧ (m.put j v).t = m.t ∧ (m.put j v).g = m.g := by
 unfold Mg.put
 repeat' split
 all_goals exact ⟨rfl, rfl, rfl, rfl, rfl⟩
theorem set_apart {m x : Mg} {f g : Fld} (hf : f.ok3) (hg : g.ok3) (h : g.apart f = true) : partB (setF m x g) f = partB m f ∧ rwrongE (setF m x g) f = rwrongE m f := by
 have hplace : ∀ f : Fld, f.ok3 → f.sort = 1 ∨ f.sort = 2 → f.place = 0 ∨ f.place = 1 ∨ f.place = 2 ∨ f.place = 3 ∨ f.place = 4 ∨ f.place = 5 := fun f hf hs => by
  rcases hf with ⟨_, z⟩ | ⟨_, z⟩
  ·omega
  ·exact z
 have hnum : ∀ y : Mg, (∀ (hs : f.sort = 1 ∨ f.sort = 2), y.num f.place = m.num f.place) → (f.sort = 3 → y.p = m.p) → (f.sort = 4 → y.c = m.c) → (f.sort = 5 → y.t = m.t) → (f.sort ≠ 1 → f.sort ≠ 2 → f.sort ≠ 3 → f.sort ≠ 4 → f.sort ≠ 5 → y.g = m.g) → partB y f = partB m f ∧ rwrongE y f = rwrongE m f := fun y a1 a3 a4 a5 a6 => by
  unfold partB rwrongE
  by_cases s1 : f.sort = 1
  ·simp only [if_pos s1, a1 (.inl s1), show ¬ f.sort = 3 by omega, show ¬ f.sort = 4 by omega, show ¬ f.sort = 5 by omega, show ¬ f.sort = 6 by omega, if_false, and_self]
  by_cases s2 : f.sort = 2
  ·simp only [if_neg s1, if_pos s2, a1 (.inr s2), show ¬ f.sort = 3 by omega, show ¬ f.sort = 4 by omega, show ¬ f.sort = 5 by omega, show ¬ f.sort = 6 by omega, if_false, and_self]
  by_cases s3 : f.sort = 3
  ·simp only [if_neg s1, if_neg s2, if_pos s3, a3 s3, and_self]
  by_cases s4 : f.sort = 4
  ·simp only [if_neg s1, if_neg s2, if_neg s3, if_pos s4, a4 s4, and_self]
  by_cases s5 : f.sort = 5
  ·simp only [if_neg s1, if_neg s2, if_neg s3, if_neg s4, if_pos s5, a5 s5, and_self]
  have s6 : f.sort = 6 := by rcases hf with ⟨_, z⟩ | ⟨z, _⟩ <;> omega
  simp only [if_neg s1, if_neg s2, if_neg s3, if_neg s4, if_neg s5, if_pos s6, a6 s1 s2 s3 s4 s5, and_self]
 unfold Fld.apart at h
 by_cases g12 : g.sort = 1 ∨ g.sort = 2
 ·have hset : setF m x g = m.put g.place (x.num g.place) := by
   unfold setF
   by_cases g1 : g.sort = 1
   ·rw [if_pos g1]
   ·rw [if_neg g1, if_pos (by omega)]
  rw [hset]
  obtain ⟨r0, r1, r2, r3, r4⟩ := put_rest m g.place (x.num g.place)
  refine hnum _ (fun hs => ?_) (fun _ => r1) (fun _ => r2) (fun _ => r3) (fun _ _ _ _ _ => r4)
  rw [if_pos g12, if_pos hs] at h
  have := of_decide_eq_true h
  exact put_num_ne m (hplace f hf hs) (hplace g hg g12) (fun e => this e.symm) _
 ·rw [if_neg g12] at h
  have hne := of_decide_eq_true h
  unfold setF
  rw [if_neg (by omega), if_neg (by omega)]
  have g6 : g.sort = 3 ∨ g.sort = 4 ∨ g.sort = 5 ∨ g.sort = 6 := by rcases hg with ⟨_, z⟩ | ⟨z, _⟩ <;> omega
  by_cases g3 : g.sort = 3
  ·rw [if_pos g3]; exact hnum _ (fun _ => rfl) (fun e => by omega) (fun _ => rfl) (fun _ => rfl) (fun _ _ _ _ _ => rfl)
  rw [if_neg g3]
  by_cases g4 : g.sort = 4
  ·rw [if_pos g4]; exact hnum _ (fun _ => rfl) (fun _ => rfl) (fun e => by omega) (fun _ => rfl) (fun _ _ _ _ _ => rfl)
  rw [if_neg g4]
  by_cases g5 : g.sort = 5
  ·rw [if_pos g5]; exact hnum _ (fun _ => rfl) (fun _ => rfl) (fun _ => rfl) (fun e => by omega) (fun _ _ _ _ _ => rfl)
  rw [if_neg g5]
  have f6 : f.sort = 1 ∨ f.sort = 2 ∨ f.sort = 3 ∨ f.sort = 4 ∨ f.sort = 5 ∨ f.sort = 6 := by rcases hf with ⟨_, z⟩ | ⟨z, _⟩ <;> omega
  exact hnum _ (fun _ => rfl) (fun _ => rfl) (fun _ => rfl) (fun _ => rfl) (fun _ _ _ _ _ => by omega)
theorem bytesOf_textOf {xs : List Nat} (h : ∀ b ∈ xs, b < 256) : bytesOf (textOf xs) = xs := by
 unfold bytesOf textOf
 simp only [List.map_map]
 conv => rhs; rw [← List.map_id xs]
 refine List.map_congr_left fun x hx => ?_
 have := h x hx
 simp [UInt8.toNat_ofNat']
 omega
theorem field_inv {ys : List Nat} (hb : ∀ b ∈ ys, b < 256) {s : RD} {m : Mg} {k : Int} {f : Fld} (hf : f ∈ fieldsOf k) (h : (s.field ys m f).2.err = 0) : ∃ a, s = at0 a ∧ (s.field ys m f).2 = at0 (a + (partB (s.field ys m f).1 f).length) ∧ ys.drop a = partB (s.field ys m f).1 f ++ ys.drop (a + (partB (s.field ys m f).1 f).length) ∧ rwrongE (s.field ys m f).1 f = 0 ∧ (s.field ys m f).1 = setF m (s.field ys m f).1 f := by
 have h3 := fieldsOf_ok3 f hf
 have hst := fieldsOf_std f hf
 have h5 := (fieldsOf_ok5 f hf).1
 obtain ⟨o1, o2, o3, o4⟩ := fieldsOf_ok6 f hf
 unfold RD.field at h ⊢
 by_cases s1 : f.sort = 1
 ·simp only [if_pos s1] at h ⊢
  have hpl : f.place = 0 ∨ f.place = 1 ∨ f.place = 2 ∨ f.place = 3 ∨ f.place = 4 ∨ f.place = 5 := by
   rcases h3 with ⟨_, z⟩ | ⟨_, z⟩
   ·omega
   ·exact z
  obtain ⟨p1, p2, p3⟩ := note_err0 (by omega) h
  obtain ⟨a, n, rfl, n1, n2, n3, n4⟩ := num_inv hb p1
  rw [p3, n3]
  rw [n3] at p2
  have hle := of_decide_eq_false p2
  simp only at hle
  have hp : partB (m.put f.place (n : Nat)) f = putOne n := by
   unfold partB; rw [if_pos s1, put_num m hpl, putAll_one]; simp
  simp only [hp]
  refine ⟨a, rfl, rfl, n4, ?_, ?_⟩
  ·unfold rwrongE
   rw [if_neg (by omega), if_neg (by omega), if_neg (by omega), if_neg (by omega), put_num m hpl, if_neg (by omega)]
  ·unfold setF; rw [if_pos s1, put_num m hpl]
 simp only [if_neg s1] at h ⊢
 by_cases s2 : f.sort = 2
 ·simp only [if_pos s2] at h ⊢
  have hpl : f.place = 0 ∨ f.place = 1 ∨ f.place = 2 ∨ f.place = 3 ∨ f.place = 4 ∨ f.place = 5 := by
   rcases h3 with ⟨_, z⟩ | ⟨_, z⟩
   ·omega
   ·exact z
  obtain ⟨a, z, rfl, n1, n2, n3, n4⟩ := sgn_inv hb h
  rw [n3]
  have hp : partB (m.put f.place z) f = putOne (zig z) := by
   unfold partB; rw [if_neg s1, if_pos s2, put_num m hpl, putAll_one]
  simp only [hp]
  refine ⟨a, rfl, rfl, n4, ?_, ?_⟩
  ·unfold rwrongE
   rw [if_neg (by omega), if_neg (by omega), if_neg (by omega), if_neg (by omega), put_num m hpl, if_neg (by omega)]
  ·unfold setF; rw [if_neg s1, if_pos s2, put_num m hpl]
 simp only [if_neg s2] at h ⊢
 have hwe := fun y : Mg => wrong_eq (m := y) hst
 obtain ⟨q3, q4, q5, q6⟩ := hst
 have hmany : ∀ n : Nat, f.least ≤ n → (n : Int) ≤ f.most → manyE n f = 0 := fun n a b => by
  unfold manyE; rw [if_neg (by omega), if_neg (by omega)]
 by_cases s3 : f.sort = 3
 ·simp only [if_pos s3] at h ⊢
  have h1 := path_err _ _ _ h
  obtain ⟨a, n, rfl, c1, c2, c3, c4⟩ := count_inv hb h1
  unfold RD.path at h ⊢
  rw [c3] at h ⊢
  obtain ⟨a2, l, e2, l1, l2, l3, l4⟩ := pts_inv hb n (0, 0) _ (by unfold near; omega) (by unfold near; omega) h
  have e2' : a + (putOne n).length = a2 := congrArg RD.a e2
  subst e2'
  rw [l3]
  have hp : partB { m with p := l } f = putOne n ++ pathB (0, 0) l := by
   unfold partB; rw [if_neg s1, if_neg s2, if_pos s3, putAll_one]; simp only [l1]
  simp only [hp]
  refine ⟨a, rfl, by simp only [List.length_append, Nat.add_assoc], ?_, ?_, ?_⟩
  ·rw [c4, l4]; simp only [List.length_append, Nat.add_assoc, List.append_assoc]
  ·rw [← hwe]
   unfold wrongE pathE
   obtain ⟨b1, b2⟩ := q3 s3
   rw [if_pos s3, hmany _ (by rw [l1]; omega) (by rw [l1]; omega), if_neg (by simp), l2]; rfl
  ·unfold setF; rw [if_neg s1, if_neg s2, if_pos s3]
 simp only [if_neg s3] at h ⊢
 by_cases s4 : f.sort = 4
 ·simp only [if_pos s4] at h ⊢
  have h1 := cls_err _ _ _ h
  obtain ⟨a, n, rfl, c1, c2, c3, c4⟩ := count_inv hb h1
  unfold RD.cells at h ⊢
  rw [c3] at h ⊢
  obtain ⟨a2, l, e2, l1, l2, l3, l4⟩ := cls_inv hb n (-1) _ (by omega) h
  have e2' : a + (putOne n).length = a2 := congrArg RD.a e2
  subst e2'
  rw [l3]
  have hp : partB { m with c := l } f = putOne n ++ cellsB (-1) l := by
   unfold partB; rw [if_neg s1, if_neg s2, if_neg s3, if_pos s4, putAll_one]; simp only [l1]
  simp only [hp]
  refine ⟨a, rfl, by simp only [List.length_append, Nat.add_assoc], ?_, ?_, ?_⟩
  ·rw [c4, l4]; simp only [List.length_append, Nat.add_assoc, List.append_assoc]
  ·rw [← hwe]
   unfold wrongE cellsE
   obtain ⟨b1, b2⟩ := q4 s4
   rw [if_neg s3, if_pos s4, hmany _ (by rw [l1]; omega) (by rw [l1]; omega), if_neg (by simp), l2]
  ·unfold setF; rw [if_neg s1, if_neg s2, if_neg s3, if_pos s4]
 simp only [if_neg s4] at h ⊢
 have htext : ∀ least, f.least = least → least = 0 → (s.text ys f.most).2.err = 0 → ∃ a xs, s = at0 a ∧ s.text ys f.most = (xs, at0 (a + (putOne xs.length ++ xs).length)) ∧ ys.drop a = putOne xs.length ++ xs ++ ys.drop (a + (putOne xs.length ++ xs).length) ∧ (∀ b ∈ xs, b < 256) ∧ textE (textOf xs) f = 0 := fun least hl h0 ht => by
  unfold RD.text at ht ⊢
  obtain ⟨p1, p2, p3⟩ := note_err0 (by omega) ht
  obtain ⟨a, xs, rfl, f1, f2, f3, f4⟩ := fld_inv hb p1 o1
  rw [p3, f3]
  rw [f3] at p2
  refine ⟨a, xs, rfl, rfl, f4, f2, ?_⟩
  have hbt := bytesOf_textOf f2
  have hsz : (textOf xs).size = xs.length := by rw [← bytesOf_len, hbt]
  unfold textE
  rw [hmany _ (by rw [hsz]; omega) (by rw [hsz]; omega), if_neg (by simp), hbt, p2]; rfl
 by_cases s5 : f.sort = 5
 ·simp only [if_pos s5] at h ⊢
  obtain ⟨a, xs, rfl, t1, t2, t3, t4⟩ := htext _ rfl (q5 s5).1 h
  rw [t1]
  have hbt := bytesOf_textOf t3
  have hp : partB { m with t := textOf xs } f = putOne xs.length ++ xs := by
   unfold partB; rw [if_neg s1, if_neg s2, if_neg s3, if_neg s4, if_pos s5, putAll_one]; simp only [hbt]
  simp only [hp]
  refine ⟨a, rfl, rfl, t2, ?_, ?_⟩
  ·rw [← hwe]
   unfold wrongE
   rw [if_neg s3, if_neg s4, if_pos s5]; exact t4
  ·unfold setF; rw [if_neg s1, if_neg s2, if_neg s3, if_neg s4, if_pos s5]
 ·have s6 : f.sort = 6 := by rcases h3 with ⟨_, z⟩ | ⟨z, _⟩ <;> omega
  simp only [if_neg s5] at h ⊢
  obtain ⟨a, xs, rfl, t1, t2, t3, t4⟩ := htext _ rfl (q6 s6).1 h
  rw [t1]
  have hbt := bytesOf_textOf t3
  have hp : partB { m with g := textOf xs } f = putOne xs.length ++ xs := by
   unfold partB; rw [if_neg s1, if_neg s2, if_neg s3, if_neg s4, if_neg s5, putAll_one]; simp only [hbt]
  simp only [hp]
  refine ⟨a, rfl, rfl, t2, ?_, ?_⟩
  ·rw [← hwe]
   unfold wrongE
   rw [if_neg s3, if_neg s4, if_neg s5, if_pos s6]; exact t4
  ·unfold setF; rw [if_neg s1, if_neg s2, if_neg s3, if_neg s4, if_neg s5]
theorem num_apart {m x : Mg} {f g : Fld} (hf : f.ok3) (hg : g.ok3) (h : g.apart f = true) (y : Mg) : setF y (setF m x g) f = setF y m f := by
 have hplace : ∀ f : Fld, f.ok3 → f.sort = 1 ∨ f.sort = 2 → f.place = 0 ∨ f.place = 1 ∨ f.place = 2 ∨ f.place = 3 ∨ f.place = 4 ∨ f.place = 5 := fun f hf hs => by
  rcases hf with ⟨_, z⟩ | ⟨_, z⟩
  ·omega
  ·exact z
 have hset : ∀ z : Mg, (∀ (hs : f.sort = 1 ∨ f.sort = 2), z.num f.place = m.num f.place) → (f.sort = 3 → z.p = m.p) → (f.sort = 4 → z.c = m.c) → (f.sort = 5 → z.t = m.t) → (f.sort ≠ 1 → f.sort ≠ 2 → f.sort ≠ 3 → f.sort ≠ 4 → f.sort ≠ 5 → z.g = m.g) → setF y z f = setF y m f := fun z a1 a3 a4 a5 a6 => by
  unfold setF
  by_cases s1 : f.sort = 1
  ·rw [if_pos s1, if_pos s1, a1 (.inl s1)]
  by_cases s2 : f.sort = 2
  ·rw [if_neg s1, if_neg s1, if_pos s2, if_pos s2, a1 (.inr s2)]
  by_cases s3 : f.sort = 3
  ·rw [if_neg s1, if_neg s1, if_neg s2, if_neg s2, if_pos s3, if_pos s3, a3 s3]
  by_cases s4 : f.sort = 4
  ·rw [if_neg s1, if_neg s1, if_neg s2, if_neg s2, if_neg s3, if_neg s3, if_pos s4, if_pos s4, a4 s4]
  by_cases s5 : f.sort = 5
  ·rw [if_neg s1, if_neg s1, if_neg s2, if_neg s2, if_neg s3, if_neg s3, if_neg s4, if_neg s4, if_pos s5, if_pos s5, a5 s5]
  ·rw [if_neg s1, if_neg s1, if_neg s2, if_neg s2, if_neg s3, if_neg s3, if_neg s4, if_neg s4, if_neg s5, if_neg s5, a6 s1 s2 s3 s4 s5]
 unfold Fld.apart at h
 by_cases g12 : g.sort = 1 ∨ g.sort = 2
 ·have hs0 : setF m x g = m.put g.place (x.num g.place) := by
   unfold setF
   by_cases g1 : g.sort = 1
   ·rw [if_pos g1]
   ·rw [if_neg g1, if_pos (by omega)]
  rw [hs0]
  obtain ⟨r0, r1, r2, r3, r4⟩ := put_rest m g.place (x.num g.place)
  refine hset _ (fun hs => ?_) (fun _ => r1) (fun _ => r2) (fun _ => r3) (fun _ _ _ _ _ => r4)
  rw [if_pos g12, if_pos hs] at h
  have := of_decide_eq_true h
  exact put_num_ne m (hplace f hf hs) (hplace g hg g12) (fun e => this e.symm) _
 ·rw [if_neg g12] at h
  have hne := of_decide_eq_true h
  have hs0 : setF m x g = (if g.sort = 3 then { m with p := x.p } else if g.sort = 4 then { m with c := x.c } else if g.sort = 5 then { m with t := x.t } else { m with g := x.g }) := by
   rw [setF, if_neg (by omega), if_neg (by omega)]
  rw [hs0]
  have g6 : g.sort = 3 ∨ g.sort = 4 ∨ g.sort = 5 ∨ g.sort = 6 := by rcases hg with ⟨_, z⟩ | ⟨z, _⟩ <;> omega
  by_cases g3 : g.sort = 3
  ·rw [if_pos g3]; exact hset _ (fun _ => rfl) (fun e => by omega) (fun _ => rfl) (fun _ => rfl) (fun _ _ _ _ _ => rfl)
  rw [if_neg g3]
  by_cases g4 : g.sort = 4
  ·rw [if_pos g4]; exact hset _ (fun _ => rfl) (fun _ => rfl) (fun e => by omega) (fun _ => rfl) (fun _ _ _ _ _ => rfl)
  rw [if_neg g4]
  by_cases g5 : g.sort = 5
  ·rw [if_pos g5]; exact hset _ (fun _ => rfl) (fun _ => rfl) (fun _ => rfl) (fun e => by omega) (fun _ _ _ _ _ => rfl)
  rw [if_neg g5]
  have f6 : f.sort = 1 ∨ f.sort = 2 ∨ f.sort = 3 ∨ f.sort = 4 ∨ f.sort = 5 ∨ f.sort = 6 := by rcases hf with ⟨_, z⟩ | ⟨z, _⟩ <;> omega
  exact hset _ (fun _ => rfl) (fun _ => rfl) (fun _ => rfl) (fun _ => rfl) (fun _ _ _ _ _ => by omega)
theorem setAll_apart {m x m0 : Mg} {g : Fld} (hg : g.ok3) : ∀ (L : List Fld) (y : Mg), (∀ f ∈ L, f.ok3 ∧ g.apart f = true) → setAll y (setF m x g) L = setAll y m L
 | [], _, _ => rfl
 | f :: L, y, h => by
  obtain ⟨h1, h2⟩ := h f (List.mem_cons_self ..)
  have ih := setAll_apart (m := m) (x := x) (m0 := m0) hg L (setF y m f) fun z hz => h z (List.mem_cons_of_mem _ hz)
  unfold setAll at *
  rw [List.foldl_cons, List.foldl_cons, num_apart h1 hg h2]
  exact ih
theorem bodyB_apart {m x : Mg} {g : Fld} (hg : g.ok3) : ∀ (L : List Fld), (∀ f ∈ L, f.ok3 ∧ g.apart f = true) → bodyB (setF m x g) L = bodyB m L
 | [], _ => rfl
 | f :: L, h => by
  obtain ⟨h1, h2⟩ := h f (List.mem_cons_self ..)
  have ih := bodyB_apart (m := m) (x := x) hg L fun z hz => h z (List.mem_cons_of_mem _ hz)
  unfold bodyB at *
  rw [List.flatMap_cons, List.flatMap_cons, (set_apart h1 hg h2).1, ih]
theorem vf_apart {k v : Int} {j : Nat} (hj : j < (versionFields k v).length) : ∀ f ∈ (versionFields k v).take j, f.ok3 ∧ ((versionFields k v).getD j fld0).apart f = true := fun f hf => by
 have hp : (versionFields k v).Pairwise (fun f g => g.apart f = true) := (apart_all k).filter _
 obtain ⟨i, hi, rfl⟩ := List.mem_iff_getElem.1 hf
 rw [List.length_take] at hi
 have h1 := List.pairwise_iff_getElem.1 hp i j (by omega) hj (by omega)
 rw [List.getElem_take]
 refine ⟨fieldsOf_ok3 _ (List.mem_filter.1 (List.getElem_mem _)).1, ?_⟩
 rw [List.getD_eq_getElem?_getD, List.getElem?_eq_getElem hj]
 exact h1
theorem stS_inv {ys : List Nat} (hb : ∀ b ∈ ys, b < 256) {k v : Int} {m0 : Mg} (h : ∀ j, j < (versionFields k v).length → (stS ys (versionFields k v) m0 (j + 1)).2.err = 0) : ∀ j, j ≤ (versionFields k v).length →
  (stS ys (versionFields k v) m0 j).2 = at0 (bodyB (stS ys (versionFields k v) m0 j).1 ((versionFields k v).take j)).length ∧
  ys = bodyB (stS ys (versionFields k v) m0 j).1 ((versionFields k v).take j) ++ ys.drop (bodyB (stS ys (versionFields k v) m0 j).1 ((versionFields k v).take j)).length ∧
  (∀ f ∈ (versionFields k v).take j, rwrongE (stS ys (versionFields k v) m0 j).1 f = 0) ∧ (stS ys (versionFields k v) m0 j).1 = setAll m0 (stS ys (versionFields k v) m0 j).1 ((versionFields k v).take j)
 | 0, _ => ⟨rfl, by simp [bodyB], by simp, rfl⟩
 | j + 1, hj => by
  obtain ⟨i1, i2, i3, i4⟩ := stS_inv hb h j (by omega)
  have he := h j (by omega)
  have hap := vf_apart (k := k) (v := v) (show j < _ by omega)
  have hmem := getD_mem (show j < (versionFields k v).length by omega)
  have hfk : (versionFields k v).getD j fld0 ∈ fieldsOf k := (List.mem_filter.1 hmem).1
  have htk : (versionFields k v).take (j + 1) = (versionFields k v).take j ++ [(versionFields k v).getD j fld0] := by
   rw [List.take_add_one]; simp [show j < (versionFields k v).length by omega]
  rw [stS] at he ⊢
  generalize stS ys (versionFields k v) m0 j = S at *
  generalize (versionFields k v).getD j fld0 = f at *
  obtain ⟨a, a1, a2, a3, a4, a5⟩ := field_inv hb hfk he
  have hok := fieldsOf_ok3 f hfk
  have ha : (bodyB S.1 ((versionFields k v).take j)).length = a := by rw [i1] at a1; exact congrArg RD.a a1
  generalize hM : (S.2.field ys S.1 f).1 = M at *
  have e1 : bodyB M ((versionFields k v).take j) = bodyB S.1 ((versionFields k v).take j) := by rw [a5]; exact bodyB_apart hok _ hap
  have e2 : bodyB M ((versionFields k v).take (j + 1)) = bodyB S.1 ((versionFields k v).take j) ++ partB M f := by
   rw [htk]
   unfold bodyB at e1 ⊢
   rw [List.flatMap_append, e1]; simp
  rw [e2, List.length_append, ha]
  refine ⟨a2, ?_, ?_, ?_⟩
  ·rw [ha] at i2
   conv => lhs; rw [i2, a3]
   rw [List.append_assoc]
  ·intro g hg
   rw [htk] at hg
   rcases List.mem_append.1 hg with hg | hg
   ·have := hap g hg
    rw [a5, (set_apart this.1 hok this.2).2]; exact i3 g hg
   ·rw [List.mem_singleton.1 hg]; exact a4
  ·rw [htk]
   have : setAll m0 M ((versionFields k v).take j) = S.1 := by
    conv => rhs; rw [i4]
    rw [a5]
    exact setAll_apart (m0 := m0) hok _ _ hap
   unfold setAll at this ⊢
   rw [List.foldl_append, this]
   exact a5
theorem dec_inv {k v : Int} {ys : List Nat} (hb : ∀ b ∈ ys, b < 256) (h : (decM k v ys).2 = 0) : (v = 1 ∨ v = 2) ∧ fieldsOf k ≠ [] ∧ ∃ M : Mg, (decM k v ys).1 = projectM M v ∧ ys = bodyB M (versionFields k v) ∧ (∀ f ∈ versionFields k v, rwrongE M f = 0) ∧ M = setAll { mg0 with k := k } M (versionFields k v) := by
 unfold decM at h ⊢
 by_cases hv : v ≠ 1 ∧ v ≠ 2
 ·rw [if_pos hv] at h; cases h
 rw [if_neg hv] at h ⊢
 by_cases hf : fieldsOf k = []
 ·rw [if_pos hf] at h; cases h
 rw [if_neg hf] at h ⊢
 refine ⟨by omega, hf, ?_⟩
 generalize hm0 : ({ mg0 with k := k } : Mg) = m0 at *
 by_cases he : (lastS ys (versionFields k v) m0).2.err ≠ 0
 ·rw [if_pos he] at h; exact absurd h he
 rw [if_neg he] at h ⊢
 have he : (lastS ys (versionFields k v) m0).2.err = 0 := by omega
 obtain ⟨h1, h2⟩ := last_zero he
 obtain ⟨i1, i2, i3, i4⟩ := stS_inv hb h1 _ (Nat.le_refl _)
 rw [List.take_length, ← h2] at i1 i2 i3 i4
 by_cases ha : (lastS ys (versionFields k v) m0).2.a < ys.length
 ·rw [if_pos ha] at h; cases h
 rw [if_neg ha]
 refine ⟨_, rfl, ?_, i3, i4⟩
 rw [i1] at ha
 have ha' : ¬ (bodyB (lastS ys (versionFields k v) m0).1 (versionFields k v)).length < ys.length := ha
 rw [List.drop_eq_nil_of_le (by omega), List.append_nil] at i2
 exact i2
set_option maxRecDepth 10000 in
set_option maxHeartbeats 8000000 in
/-- What is decoded is right, and encoded to just these bytes. -/
theorem dec_right {k v : Int} {ys : List Nat} (hb : ∀ b ∈ ys, b < 256) (h : (decM k v ys).2 = 0) : (decM k v ys).1.k = k ∧ (v = 1 ∨ v = 2) ∧ checkM (decM k v ys).1 = 0 ∧ encB (decM k v ys).1 v = ys ∧ projectM (decM k v ys).1 v = (decM k v ys).1 := by
 obtain ⟨hv, hf, M, h1, h2, h3, h4⟩ := dec_inv hb h
 rw [h1]
 have hk : k = 1 ∨ k = 2 ∨ k = 3 ∨ k = 4 ∨ k = 5 := Classical.byContradiction fun hh => hf (by
  unfold fieldsOf
  rw [if_neg (by omega), if_neg (by omega), if_neg (by omega), if_neg (by omega), if_neg (by omega)])
 have key : (projectM M v).k = k ∧ checkM (projectM M v) = 0 ∧ bodyB (projectM M v) (versionFields k v) = bodyB M (versionFields k v) := by
  clear h h1 h2 hf
  rcases hv with rfl | rfl
  ·rw [checkM_zero, projectM_k]
   have he := projectM_one M
   generalize projectM M 1 = y at *
   obtain ⟨k', n0, n1, n2, n3, n4, n5, p, c, t, g⟩ := M
   rcases hk with rfl | rfl | rfl | rfl | rfl <;>
   ·simp [versionFields, fieldsOf, setAll, setF, Mg.put, Mg.num, mg0, fRobot] at h4
    obtain ⟨rfl, h4⟩ := h4
    simp at he
    subst he
    simp [versionFields, fieldsOf, fRobot, rwrongE, Mg.num, rtextE] at h3
    simp [versionFields, fieldsOf, fRobot, withoutM, Mg.put, mg0, rwrongE, Mg.num, rtextE, empty_any, empty_size, h3, h4, bodyB, partB]
  ·rw [projectM_ne (by omega), checkM_zero]
   rw [vf_two] at h3 h4
   obtain ⟨k', n0, n1, n2, n3, n4, n5, p, c, t, g⟩ := M
   rcases hk with rfl | rfl | rfl | rfl | rfl <;>
   ·simp [fieldsOf, setAll, setF, Mg.put, Mg.num, mg0, fRobot] at h4
    obtain ⟨rfl, h4⟩ := h4
    refine ⟨rfl, ⟨by simp [fieldsOf], h3, ?_⟩, rfl⟩
    simp [fieldsOf, fRobot, withoutM, Mg.put, mg0, h4]
 obtain ⟨a1, a2, a3⟩ := key
 refine ⟨a1, hv, a2, ?_, proj_proj M v⟩
 rw [encB_eq a2 hv, a1, a3, ← h2]
end Go.Proofs.Ytgjldipoagkncaa

namespace Go.Proofs.Ytgjldipoagkncaa
open Go Go.Am
end Go.Proofs.Ytgjldipoagkncaa

namespace Go.Proofs.Ytgjldipoagkncaa
open Go Go.Am
end Go.Proofs.Ytgjldipoagkncaa

namespace Go.Proofs.Ytgjldipoagkncaa
open Go Go.Am
end Go.Proofs.Ytgjldipoagkncaa

namespace Go.Proofs.Ytgjldipoagkncaa
open Go Go.Am
end Go.Proofs.Ytgjldipoagkncaa

namespace Go.Proofs.Ytgjldipoagkncaa
open Go Go.Am
end Go.Proofs.Ytgjldipoagkncaa

namespace Go.Proofs.Ytgjldipoagkncaa
open Go Go.Am
end Go.Proofs.Ytgjldipoagkncaa

namespace Go.Proofs.Ytgjldipoagkncaa
open Go Go.Am
end Go.Proofs.Ytgjldipoagkncaa

namespace Go.Proofs.Ytgjldipoagkncaa
open Go Go.Am
theorem known19_ok (H : AHeap) (Q : AVal → AHeap → Prop) (h : Q (.bool true) H) : FunOK Try.prog F.cuneiformlaw19_known [] H Q := fun_reck codes_ok 100000 (.bool true) (by kernel_rfl) rfl rfl H Q h
theorem is1_ok (H : AHeap) (Q : AVal → AHeap → Prop) (h : Q (.bool true) H) : FunOK Try.prog F.schema_is [.int .i64 1] H Q := fun_reck codes_ok 10000 (.bool true) (by kernel_rfl) rfl rfl H Q h
theorem is2_ok (H : AHeap) (Q : AVal → AHeap → Prop) (h : Q (.bool true) H) : FunOK Try.prog F.schema_is [.int .i64 2] H Q := fun_reck codes_ok 10000 (.bool true) (by kernel_rfl) rfl rfl H Q h
theorem is_ok (H : AHeap) {v : Int} (hv : v = 1 ∨ v = 2) (Q : AVal → AHeap → Prop) (h : Q (.bool true) H) : FunOK Try.prog F.schema_is [.int .i64 v] H Q := by
 rcases hv with rfl | rfl
 ·exact is1_ok H Q h
 ·exact is2_ok H Q h
end Go.Proofs.Ytgjldipoagkncaa

namespace Go.Proofs.Ytgjldipoagkncaa
open Go Go.Am
end Go.Proofs.Ytgjldipoagkncaa

namespace Go.Proofs.Ytgjldipoagkncaa
open Go Go.Am
end Go.Proofs.Ytgjldipoagkncaa

namespace Go.Proofs.Ytgjldipoagkncaa
open Go Go.Am
def vIt (j : Nat) : List AVal := [.int .i64 ((j + 1 : Nat) : Int)]
theorem vers1_iter {H : AHeap} {n : Nat} : Iter Try.prog F.schema_Versions_1 [.yld n] n vIt 2 [] H := by
 intro I hI fp hi hown
 refine fun_V 100 schema_Versions_1_code rfl ?_
 simp (disch := first | omega | (simp only [lnx]; omega)) only [stdh, stdx, ↓reduceIte, seval, schema_Versions_1, schema_Versions_1.body]
 refine CallV.mono (hI.step 0 fp H (by omega) hi) fun av H1 hh => ?_
 obtain ⟨fp1, ht, hh⟩ := hh
 refine runL_V 60 ?_
 rcases hh with ⟨rfl, hi'⟩ | ⟨rfl, hi'⟩
 ·simp (disch := first | omega | (simp only [lnx]; omega)) only [stdh, stdx, ↓reduceIte, seval]
  refine CallV.mono (hI.step 1 fp1 H1 (by omega) hi') fun av H2 hh => ?_
  obtain ⟨fp2, ht2, hh⟩ := hh
  refine runL_V 60 ?_
  rcases hh with ⟨rfl, hi2⟩ | ⟨rfl, hi2⟩
  ·simp (disch := first | omega | (simp only [lnx]; omega)) only [stdh, stdx, ↓reduceIte, seval]
   refine run_fin rfl rfl trivial ?_
   exact ⟨true, 2, fp2, (ht.trans ht2).le, (ht.trans ht2).kept, fun _ => rfl, hi2⟩
  ·simp (disch := first | omega | (simp only [lnx]; omega)) only [stdh, stdx, ↓reduceIte, seval]
   refine run_fin rfl rfl trivial ?_
   exact ⟨false, 2, fp2, (ht.trans ht2).le, (ht.trans ht2).kept, (fun h => by cases h), hi2⟩
 ·simp (disch := first | omega | (simp only [lnx]; omega)) only [stdh, stdx, ↓reduceIte, seval]
  refine run_fin rfl rfl trivial ?_
  exact ⟨false, 1, fp1, ht.le, ht.kept, (fun h => by cases h), hi'⟩
theorem vers_ok (H : AHeap) (Q : AVal → AHeap → Prop) (h : Q (.fn F.schema_Versions_1 [] []) H) : FunOK Try.prog F.schema_Versions [] H Q := by
 refine fun_V 40 schema_Versions_code rfl ?_
 simp (disch := first | omega | (simp only [lnx]; omega)) only [stdh, stdx, ↓reduceIte, seval, schema_Versions, schema_Versions.body]
 exact h
set_option maxHeartbeats 4000000 in
theorem is_no (H : AHeap) {v : Int} (hv : v ≠ 1 ∧ v ≠ 2) (Q : AVal → AHeap → Prop) (h : Q (.bool false) H) : FunOK Try.prog F.schema_is [.int .i64 v] H Q := by
 refine fun_iced schema_is_code fun _ => ?_
 refine fun_V 60 schema_is_code rfl ?_
 simp (disch := first | omega | (simp only [lnx]; omega)) only [stdh, stdx, ↓reduceIte, seval, schema_is, schema_is.body]
 refine callK_fn (vers_ok _ _ ?_)
 refine runL_V 60 ?_
 simp (disch := first | omega | (simp only [lnx]; omega)) only [stdh, stdx, ↓reduceIte, seval]
 have e0 : (H ++ [ABlk.cells [AVal.int .i64 v] T.int, ABlk.cells [AVal.bool false] T.bool])[H.length]? = some (ABlk.cells [AVal.int .i64 v] T.int) := at_0
 have e1 : (H ++ [ABlk.cells [AVal.int .i64 v] T.int, ABlk.cells [AVal.bool false] T.bool])[H.length + 1]? = some (ABlk.cells [AVal.bool false] T.bool) := at_k
 have hk0 : Keeps H (H ++ [ABlk.cells [AVal.int .i64 v] T.int, ABlk.cells [AVal.bool false] T.bool]) := keeps_append _ _
 have hl0 : (H ++ [ABlk.cells [AVal.int .i64 v] T.int, ABlk.cells [AVal.bool false] T.bool]).length = H.length + 2 := by simp
 generalize H ++ [ABlk.cells [AVal.int .i64 v] T.int, ABlk.cells [AVal.bool false] T.bool] = H2 at *
 refine range_vars (g := F.schema_Versions_1) (first := []) (captured := []) rfl (by intro n hn; cases hn) (item := vIt) (len := 2) (fun j => rfl) [] (fun _ => none) vars_nil ?_ (fun _ _ _ => vers1_iter) ?_ (fun _ _ _ _ _ _ hh => by cases hh)
 ·intro a' b' j H1 hj _ hl hk hrec _
  have q0 := (hk H.length (by omega) (by simp)).trans e0
  have hd : decide (((j + 1 : Nat) : Int) = v) = false := decide_eq_false (by omega)
  refine run_V0 60 ?_
  simp (disch := first | omega | (simp only [lnx]; omega)) only [stdh, stdx, ↓reduceIte, seval, schema_is.a0, schema_is.b0, hrec, q0, vIt, hd, List.zip_cons_cons, List.zip_nil_left, List.reverse_cons, List.reverse_nil, List.getElem?_set_self, List.getElem?_set_ne]
  refine round_fin (n := H2.length) (L := lrec _ _ _ a' b' .busy none) rfl (by simp (disch := first | omega | (simp only [lnx]; omega)) only [List.getElem?_set_ne, List.getElem?_set_self, List.length_set, ne_eq, not_false_eq_true]; rfl) ?_
  refine varsQ_mk rfl (by (first | omega | (simp only [lnx]; omega))) (fun m m1 m2 m3 => ?_) vars_nil (by simp (disch := first | omega | (simp only [lnx]; omega)) only [List.getElem?_set_ne, List.getElem?_set_self, List.length_set, ne_eq, not_false_eq_true]; rfl)
  simp (disch := first | omega | (simp only [lnx]; omega)) only [List.getElem?_set_ne, List.getElem?_set_self, List.length_set, ne_eq, not_false_eq_true]
 ·intro H' hl hk _ _
  have q1 := (hk (H.length + 1) (by omega) (by simp)).trans e1
  refine run_V0 60 ?_
  simp (disch := first | omega | (simp only [lnx]; omega)) only [stdh, stdx, ↓reduceIte, seval, q1, List.getElem?_set_self]
  have hkk : Keeps H H' := ⟨by omega, fun m hm => (hk m (by omega) (by simp)).trans (hk0.at_ m hm)⟩
  exact ice_keeps (hkk.set (n := H.length + 1) (by omega) _) trivial h
def sameF (m p : Mg) (f : Fld) : Bool := (decide (f.place < 0) && (!decide (f.sort = 6) || decide (m.g = p.g))) || (decide (0 ≤ f.place) && decide (m.num f.place = p.num f.place))
def lostL (m : Mg) (v : Int) : List Fld := if checkM m ≠ 0 then [] else (fieldsOf m.k).filter fun f => !sameF m (projectM m v) f
def goneF (m : Mg) (f : Fld) : Bool := decide (f.since = 2) && ((decide (f.sort = 6) && !decide (m.g = ⟨#[]⟩)) || (decide (0 ≤ f.place) && !decide (m.num f.place = f.absent)))
def lostR (m : Mg) (v : Int) : List Fld := if checkM m ≠ 0 ∨ v ≠ 1 then [] else (fieldsOf m.k).filter (goneF m)
def encN (f : Fld) : List AVal := [.str f.name]
theorem encN_len (f : Fld) : (encN f).length = 1 := rfl
theorem lost_eq (m : Mg) (v : Int) : lostL m v = lostR m v := by
 unfold lostL lostR
 by_cases hc : checkM m = 0
 ·rw [if_neg (by omega)]
  by_cases hv : v = 1
  ·subst hv
   rw [if_neg (by omega)]
   refine List.filter_congr fun f hf => ?_
   rw [projectM_one]
   obtain ⟨k, n0, n1, n2, n3, n4, n5, p, c, t, g⟩ := m
   simp only at hf ⊢
   have hk := ((checkM_zero _).1 hc).1
   simp only at hk
   clear hc
   have hk : k = 1 ∨ k = 2 ∨ k = 3 ∨ k = 4 ∨ k = 5 := Classical.byContradiction fun hh => hk (by
    unfold fieldsOf
    rw [if_neg (by omega), if_neg (by omega), if_neg (by omega), if_neg (by omega), if_neg (by omega)])
   rcases hk with rfl | rfl | rfl | rfl | rfl
   all_goals
    simp [fieldsOf] at hf
    rcases hf with rfl | rfl | rfl | rfl | rfl | rfl
    all_goals simp [sameF, goneF, Mg.num]
  ·rw [if_pos (.inr hv), projectM_ne hv, List.filter_eq_nil_iff]
   intro f hf
   have h3 := fieldsOf_ok3 f hf
   rcases h3 with ⟨z, _⟩ | ⟨_, z⟩
   ·simp [sameF, z]
   ·have : (0 : Int) ≤ f.place := by omega
    simp [sameF, this]
 ·rw [if_pos hc, if_pos (.inl hc)]
abbrev rlC : Ctx := ⟨F.cuneiformref19_Lost, 74, [.tmp 4], none⟩
theorem take_filter {l : List Fld} {P : Fld → Bool} {i : Nat} (hi : i < l.length) : (l.take (i + 1)).filter P = (l.take i).filter P ++ (if P (l.getD i fld0) = true then [l.getD i fld0] else []) := by
 rw [List.take_add_one, List.filter_append]
 congr 1
 simp only [List.getElem?_eq_getElem hi, Option.toList_some, List.getD_eq_getElem?_getD, Option.getD_some]
 split <;> simp_all
set_option maxRecDepth 10000 in
set_option maxHeartbeats 8000000 in
theorem rlost_loop {m : Mg} {l : List Fld} (hlen : l.length ≤ 6) (hok : ∀ f ∈ l, f.ok3) {H1 : AHeap} {c : Nat} (e0 : H1[c]? = some (.cells (encM m) T.cuneiformref17_M)) (K : List AItem) (Q : AVal → AHeap → Prop)
  (hQ : ∀ r H a, Keeps H1 H → Own 1 T.string H1.length H a (l.filter (goneF m)).length ((l.filter (goneF m)).flatMap encN) → rget r 5 = a → Run Try.prog rlC K r H Q) :
  ∀ (z i : Nat) (H : AHeap) (a : AVal), l.length - i = z → i ≤ l.length → Keeps H1 H → Own 1 T.string H1.length H a ((l.take i).filter (goneF m)).length (((l.take i).filter (goneF m)).flatMap encN) →
  Rounds Try.prog rlC cuneiformref19_Lost.b1 [.inBlock 0] K [(2, .ptr c 0), (5, a), (6, recs encF false l), (7, .int .i64 (i : Nat))] H Q
 | z, i, H, a, h1, h2, hk, ho => by
  refine loop_V 200 cuneiformref19_Lost.b1.eq_1 ?_
  have e1 : H[c]? = some (ABlk.cells [.int .i64 m.k, .int .i64 m.n0, .int .i64 m.n1, .int .i64 m.n2, .int .i64 m.n3, .int .i64 m.n4, .int .i64 m.n5, recs encP false m.p, ints false m.c, .str m.t, .str m.g] T.cuneiformref17_M) := hk.get e0
  by_cases hi : i < l.length
  ·have hst := take_filter (P := goneF m) hi
   have l1 : ∀ H, loadA H none (.sptr (recs encF false l) (i * 7 + 1)) = some (True, .int .i64 (l.getD i fld0).sort) := fun H => load_rec1 (enc := encF) (t := false) encF_len hi (by omega)
   have l2 : ∀ H, loadA H none (.sptr (recs encF false l) (i * 7 + 2)) = some (True, .int .i64 (l.getD i fld0).place) := fun H => load_rec1 (enc := encF) (t := false) encF_len hi (by omega)
   have l5 : ∀ H, loadA H none (.sptr (recs encF false l) (i * 7 + 5)) = some (True, .int .i64 (l.getD i fld0).since) := fun H => load_rec1 (enc := encF) (t := false) encF_len hi (by omega)
   have l6 : ∀ H, loadA H none (.sptr (recs encF false l) (i * 7 + 6)) = some (True, .int .i64 (l.getD i fld0).absent) := fun H => load_rec1 (enc := encF) (t := false) encF_len hi (by omega)
   have l0 : ∀ H, loadA H none (.sptr (recs encF false l) (i * 7 + 0)) = some (True, .str (l.getD i fld0).name) := fun H => load_rec1 (enc := encF) (t := false) (o := 0) encF_len hi (by omega)
   have ok := hok _ (getD_mem hi)
   have hle : ((l.take i).filter (goneF m)).length ≤ 6 := Nat.le_trans (List.length_filter_le _ _) (by simp; omega)
   generalize l.getD i fld0 = x at *
   have hcast : (i : Int) + 1 = ((i + 1 : Nat) : Int) := by omega
   have skip : goneF m x = false → ∀ H', Keeps H H' → Rounds Try.prog rlC cuneiformref19_Lost.b1 [.inBlock 0] K [(2, .ptr c 0), (5, a), (6, recs encF false l), (7, .int .i64 ((i + 1 : Nat) : Int))] H' Q := fun hg H' hk' =>
    rlost_loop hlen hok e0 K Q hQ _ (i + 1) H' a rfl (by omega) (hk.trans hk') (by rw [hst, hg]; simpa using ho.keep hk')
   have push : goneF m x = true → ∀ q H', H' = H ++ [.vec [.str x.name] T.string 1] → q = .slc H.length 0 1 1 → ∃ w p H3, appendA H' T.string 1 16 a q = some (p, w, H3) ∧ p ∧ Rounds Try.prog rlC cuneiformref19_Lost.b1 [.inBlock 0] K [(2, .ptr c 0), (5, w), (6, recs encF false l), (7, .int .i64 ((i + 1 : Nat) : Int))] H3 Q := fun hg q H' hH' hq' => by
    subst hH' hq'
    have ho' := ho.keep (keeps_append H [.vec [.str x.name] T.string 1])
    obtain ⟨w, H3, p, a1, hp, ho3, hk3⟩ := Own.append ho' (x := .slc H.length 0 1 1) (k := 1) (ys := [.str x.name]) 16 (H0 := H1) (hk.trans (keeps_append _ _)) rfl (by simp [srcCells, view, content]) rfl (by omega) (by omega) (by omega) rfl
    refine ⟨w, p, H3, a1, hp, rlost_loop hlen hok e0 K Q hQ _ (i + 1) H3 w rfl (by omega) hk3 ?_⟩
    rw [hst, hg, if_pos rfl, List.length_append, List.flatMap_append]
    exact ho3
   by_cases hs : x.since = 2
   case neg =>
    have hg : goneF m x = false := by simp [goneF, hs]
    simp (disch := first | omega | (simp only [lnx]; omega)) only [stdh, stdx, ↓reduceIte, seval, e1, l5, hs]
    rw [hcast]
    exact skip hg _ (Keeps.refl _)
   have dS : decide (x.since = 2) = true := decide_eq_true hs
   by_cases s6 : x.sort = 6
   ·have pl : x.place = -1 := by
     rcases ok with ⟨z, _⟩ | ⟨z, _⟩
     ·exact z
     ·omega
    by_cases hg0 : m.g = ⟨#[]⟩
    ·have hg : goneF m x = false := by simp [goneF, hg0, pl]
     simp (disch := first | omega | (simp only [lnx]; omega)) only [stdh, stdx, ↓reduceIte, seval, e1, l1, l2, l5, l6, l0, hs, s6, hg0, pl, cuneiformref19_Lost.d0]
     rw [hcast]
     exact skip hg _ (Keeps.refl _)
    ·have hg : goneF m x = true := by simp [goneF, hs, s6, hg0]
     obtain ⟨w, p, H3, a1, hp, hR⟩ := push hg _ _ rfl rfl
     simp (disch := first | omega | (simp only [lnx]; omega)) only [stdh, stdx, ↓reduceIte, seval, e1, l1, l2, l5, l6, l0, hs, s6, hg0, pl, a1, hp, cuneiformref19_Lost.d0]
     rw [hcast]
     exact hR
   rcases ok with ⟨pl, _⟩ | ⟨_, pl⟩
   ·have hg : goneF m x = false := by simp [goneF, s6, pl]
    simp (disch := first | omega | (simp only [lnx]; omega)) only [stdh, stdx, ↓reduceIte, seval, e1, l1, l2, l5, l6, l0, hs, s6, pl, cuneiformref19_Lost.d0]
    rw [hcast]
    exact skip hg _ (Keeps.refl _)
   ·by_cases hn : m.num x.place = x.absent
    ·have hg : goneF m x = false := by simp [goneF, s6, hn]
     rcases pl with pl | pl | pl | pl | pl | pl
     all_goals
      rw [pl] at hn
      simp only [Mg.num, Int.reduceEq, if_true, if_false] at hn
      have dn := decide_eq_true hn
      simp (disch := first | omega | (simp only [lnx]; omega)) only [stdh, stdx, ↓reduceIte, seval, e1, l1, l2, l5, l6, l0, hs, s6, pl, dn, cuneiformref19_Lost.d0]
      rw [hcast]
      exact skip hg _ (Keeps.refl _)
    ·have hg : goneF m x = true := by
      have : (0 : Int) ≤ x.place := by omega
      simp [goneF, hs, hn, this]
     obtain ⟨w, p, H3, a1, hp, hR⟩ := push hg _ _ rfl rfl
     rcases pl with pl | pl | pl | pl | pl | pl
     all_goals
      rw [pl] at hn
      simp only [Mg.num, Int.reduceEq, if_true, if_false] at hn
      have dn := decide_eq_false hn
      simp (disch := first | omega | (simp only [lnx]; omega)) only [stdh, stdx, ↓reduceIte, seval, e1, l1, l2, l5, l6, l0, hs, s6, pl, dn, a1, hp, cuneiformref19_Lost.d0]
      rw [hcast]
      exact hR
  ·simp (disch := first | omega | (simp only [lnx]; omega)) only [stdh, stdx, ↓reduceIte, seval]
   rw [List.take_of_length_le (by omega)] at ho
   exact hQ _ H a hk ho rfl
 termination_by z => z
theorem closeds_encN {L : Nat} : ∀ l : List Fld, closeds L (l.flatMap encN)
 | [] => trivial
 | _ :: l => ⟨trivial, closeds_encN l⟩
set_option maxRecDepth 10000 in
set_option maxHeartbeats 4000000 in
theorem rlost_ok (H : AHeap) (m : Mg) (v : Int) (hm : m.fine2) (Q : AVal → AHeap → Prop) (h : Q (recs encN false (lostR m v)) H) : FunOK Try.prog F.cuneiformref19_Lost [.agg (encM m), .int .i64 v] H Q := by
 refine fun_iced cuneiformref19_Lost_code fun _ => ?_
 refine fun_V 60 cuneiformref19_Lost_code rfl ?_
 have bad : lostR m v = [] → ∀ L, IceQ H Q .nils (H ++ L) := fun he L => by
  rw [he] at h
  exact ice_sees trivial (Sees.nils false) h
 simp (disch := first | omega | (simp only [lnx]; omega)) only [stdh, stdx, ↓reduceIte, seval, cuneiformref19_Lost, cuneiformref19_Lost.body, encM]
 refine callK_fn (rcheck_ok _ m hm _ ?_)
 refine runL_V 60 ?_
 by_cases hc : checkM m = 0
 ·by_cases hv : v = 1
  ·have hd : decide (v = 1) = true := decide_eq_true hv
   simp (disch := first | omega | (simp only [lnx]; omega)) only [stdh, stdx, ↓reduceIte, seval, hc, hd]
   refine callK_fn (rall16_ok _ _ _ ?_)
   refine runL_V 60 ?_
   simp (disch := first | omega | (simp only [lnx]; omega)) only [stdh, stdx, ↓reduceIte, seval]
   have e0 : (H ++ [ABlk.cells [AVal.int IntKind.i64 m.k, AVal.int IntKind.i64 m.n0, AVal.int IntKind.i64 m.n1, AVal.int IntKind.i64 m.n2, AVal.int IntKind.i64 m.n3, AVal.int IntKind.i64 m.n4, AVal.int IntKind.i64 m.n5, recs encP false m.p, ints false m.c, AVal.str m.t, AVal.str m.g] T.cuneiformref17_M])[H.length]? = some (.cells (encM m) T.cuneiformref17_M) := at_0
   refine rlost_loop (m := m) (fieldsOf_len m.k) fieldsOf_ok3 e0 _ _ ?_ _ 0 _ .nils rfl (by omega) (Keeps.refl _) Own.nil
   intro r H3 a hk3 ho hr
   refine run_V0 60 ?_
   simp (disch := first | omega | (simp only [lnx]; omega)) only [stdh, stdx, ↓reduceIte, seval, hr]
   rw [lostR, if_neg (by omega)] at h
   obtain ⟨q1, q2⟩ := ho
   refine ice_own ((keeps_append _ _).trans hk3) (w := 1) (el := T.string) (n := ((fieldsOf m.k).filter (goneF m)).length) (cs := ((fieldsOf m.k).filter (goneF m)).flatMap encN) ⟨q1, ?_⟩ (closeds_encN _) h
   rcases q2 with q2 | ⟨n, b1, b2, b3⟩
   ·exact .inl q2
   ·exact .inr ⟨n, by simp at b1; omega, b2, b3⟩
  ·have hd : decide (v = 1) = false := decide_eq_false hv
   simp (disch := first | omega | (simp only [lnx]; omega)) only [stdh, stdx, ↓reduceIte, seval, hc, hd]
   exact bad (by rw [lostR, if_pos (.inr hv)]) _
 ·simp (disch := first | omega | (simp only [lnx]; omega)) only [stdh, stdx, ↓reduceIte, seval, hc]
  exact bad (by rw [lostR, if_pos (.inl hc)]) _
abbrev lo1C : Ctx := ⟨F.schema_Lost_1, 65, [], none⟩
def nameArgs (L : List Fld) (j : Nat) : List AVal := [.str (L.getD j fld0).name]
set_option maxRecDepth 10000 in
set_option maxHeartbeats 8000000 in
theorem lost1_loop {n c : Nat} {m p : Mg} {l : List Fld} (hlen : l.length ≤ 6) (hok : ∀ f ∈ l, f.ok3) {L : List Fld} {I : Bool → Nat → List Nat → AHeap → Prop} (hI : Fed Try.prog n (nameArgs L) L.length I)
  (K : List AItem) (Q : AVal → AHeap → Prop) {H0 : AHeap} {fp0 : List Nat} (hc0 : H0.length ≤ c)
  (hQ : ∀ b j fp H r, H0.length ≤ H.length → (∀ m, m < H0.length → m ∉ fp0 → H[m]? = H0[m]?) → (b = true → j = L.length) → I b j fp H → Run Try.prog lo1C K r H Q) :
  ∀ (z i j : Nat) (H : AHeap) (fp : List Nat), l.length - i = z → i ≤ l.length → j ≤ L.length → L.drop j = (l.drop i).filter (fun f => !sameF m p f) → Touches fp0 H0 fp H → I true j fp H → c ∉ fp → H[c]? = some (.cells (encM p) T.msg_Msg) →
  Rounds Try.prog lo1C schema_Lost_1.b1 [.inBlock 0] (.inScope :: K) [(0, .yld n), (1, cellN (encM m)), (4, .ptr c 0), (16, recs encF false l), (17, .int .i64 l.length), (18, .int .i64 i)] H Q
 | z, i, j, H, fp, h1, h2, h3, h4, ht, hi, hcf, hc => by
  refine loop_V 100 schema_Lost_1.b1.eq_1 ?_
  have hcl : c < H.length := (List.getElem?_eq_some_iff.1 hc).1
  by_cases hil : i < l.length
  ·have hd : l.drop i = l.getD i fld0 :: l.drop (i + 1) := by
    rw [List.drop_eq_getElem_cons hil]; simp [hil]
   rw [hd, List.filter_cons] at h4
   have hld : ∀ H, loadA H (some 7) (.sptr (recs encF false l) (i * 7)) = some (True, .agg (encF (l.getD i fld0))) := fun H => load_recs (enc := encF) (t := false) encF_len hil
   have ok := hok _ (getD_mem hil)
   generalize hx : l.getD i fld0 = x at *
   have hcx : ∀ L, (H ++ L)[c]? = some (ABlk.cells [.int .i64 p.k, .int .i64 p.n0, .int .i64 p.n1, .int .i64 p.n2, .int .i64 p.n3, .int .i64 p.n4, .int .i64 p.n5, recs encP false p.p, ints false p.c, .str p.t, .str p.g] T.msg_Msg) := fun L => (at_low hcl).trans hc
   have hk1 : ∀ b, Touches fp0 H0 fp (H ++ [b]) := fun b => ht.trans ⟨by simp, fun m hm => .inl hm, fun m hm _ => List.getElem?_append_left hm⟩
   have hi1 : ∀ b, I true j fp (H ++ [b]) := fun b => (hI.foot true j).stable _ _ _ hi (by simp) fun m hm => List.getElem?_append_left ((hI.foot true j).lt _ _ hi m hm)
   have hcast : (i : Int) + 1 = ((i + 1 : Nat) : Int) := by omega
   have skip : sameF m p x = true → ∀ b, Rounds Try.prog lo1C schema_Lost_1.b1 [.inBlock 0] (.inScope :: K) [(0, .yld n), (1, cellN (encM m)), (4, .ptr c 0), (16, recs encF false l), (17, .int .i64 l.length), (18, .int .i64 ((i + 1 : Nat) : Int))] (H ++ [b]) Q := fun hs b => by
    rw [hs] at h4
    exact lost1_loop hlen hok hI K Q hc0 hQ _ (i + 1) j _ fp rfl (by omega) h3 h4 (hk1 b) (hi1 b) hcf (hcx _)
   have give : sameF m p x = false → ∀ (b : ABlk) (Z : AVal → AHeap → Prop), (∀ H', Rounds Try.prog lo1C schema_Lost_1.b1 [.inBlock 0] (.inScope :: K) [(0, .yld n), (1, cellN (encM m)), (4, .ptr c 0), (16, recs encF false l), (17, .int .i64 l.length), (18, .int .i64 ((i + 1 : Nat) : Int))] H' Q → Z (.bool true) H') → (∀ H', (∀ r, Run Try.prog lo1C K r H' Q) → Z (.bool false) H') → CallV Try.prog (.yld n) [.str x.name] (H ++ [b]) Z := fun hs b Z z1 z2 => by
    rw [hs] at h4
    have hj : j < L.length := by
     refine Classical.byContradiction fun hn => ?_
     rw [List.drop_eq_nil_of_le (by omega : L.length ≤ j)] at h4
     simp at h4
    have hdj := List.drop_eq_getElem_cons hj
    rw [hdj] at h4
    obtain ⟨h5, h6⟩ := List.cons.inj h4
    have hargs : nameArgs L j = [.str x.name] := by
     simp [nameArgs, List.getD_eq_getElem?_getD, hj, h5]
    have hstep := hI.step j fp _ hj (hi1 b)
    rw [hargs] at hstep
    refine CallV.mono hstep fun av H' hh => ?_
    obtain ⟨fp', ht', hh⟩ := hh
    have ht2 : Touches fp0 H0 fp' H' := (hk1 b).trans ht'
    have hcf' : c ∉ fp' := fun hh => by
     rcases ht'.feet _ hh with q | q
     ·exact hcf q
     ·simp only [List.length_append, List.length_cons] at q; omega
    have hc' : H'[c]? = some (.cells (encM p) T.msg_Msg) := (ht'.kept c (by simp; omega) hcf).trans (hcx _)
    rcases hh with ⟨rfl, hi'⟩ | ⟨rfl, hi'⟩
    ·exact z1 H' (lost1_loop hlen hok hI K Q hc0 hQ _ (i + 1) (j + 1) H' fp' rfl (by omega) (by omega) h6 ht2 hi' hcf' hc')
    ·exact z2 H' fun r => hQ false _ fp' H' _ ht2.le ht2.kept (fun hh => by cases hh) hi'
   rcases ok with ⟨pl, hs⟩ | ⟨hs, pl⟩
   ·by_cases s6 : x.sort = 6
    ·by_cases hg : m.g = p.g
     ·have hsame : sameF m p x = true := by simp [sameF, pl, hg]
      have dg := decide_eq_true hg
      simp (disch := first | omega | (simp only [lnx]; omega)) only [stdh, stdx, ↓reduceIte, seval, hld, encF, pl, s6, dg, hcx, cellN, encM, load_imm, schema_Lost_1.d0, List.getElem?_set_ne, List.getElem?_set_self]
      rw [hcast]
      exact skip hsame _
     ·have hsame : sameF m p x = false := by simp [sameF, pl, hg, s6]
      have dg := decide_eq_false hg
      simp (disch := first | omega | (simp only [lnx]; omega)) only [stdh, stdx, ↓reduceIte, seval, hld, encF, pl, s6, dg, hcx, cellN, encM, load_imm, schema_Lost_1.d0, List.getElem?_set_ne, List.getElem?_set_self]
      refine give hsame _ _ (fun H' hR => ?_) (fun H' hR => ?_)
      ·refine runL_V 60 ?_
       simp (disch := first | omega | (simp only [lnx]; omega)) only [stdh, stdx, ↓reduceIte, seval]
       rw [hcast]
       exact hR
      ·refine runL_V 60 ?_
       simp (disch := first | omega | (simp only [lnx]; omega)) only [stdh, stdx, ↓reduceIte, seval]
       refine run_inScope ?_
       exact hR _
    ·have hsame : sameF m p x = true := by simp [sameF, pl, s6]
     simp (disch := first | omega | (simp only [lnx]; omega)) only [stdh, stdx, ↓reduceIte, seval, hld, encF, pl, s6, hcx, cellN, encM, load_imm, schema_Lost_1.d0, List.getElem?_set_ne, List.getElem?_set_self]
     rw [hcast]
     exact skip hsame _
   ·by_cases hn : m.num x.place = p.num x.place
    ·have hsame : sameF m p x = true := by
      have : (0 : Int) ≤ x.place := by omega
      simp [sameF, hn, this]
     rcases pl with pl | pl | pl | pl | pl | pl
     all_goals
      rw [pl] at hn
      simp only [Mg.num, Int.reduceEq, if_true, if_false] at hn
      have dn := decide_eq_true hn
      simp (disch := first | omega | (simp only [lnx]; omega)) only [stdh, stdx, ↓reduceIte, seval, hld, encF, pl, dn, hcx, cellN, encM, load_imm, schema_Lost_1.d0, List.getElem?_set_ne, List.getElem?_set_self]
      rw [hcast]
      exact skip hsame _
    ·have hsame : sameF m p x = false := by
      have h1 : ¬ x.place < 0 := by omega
      simp [sameF, hn, h1]
     rcases pl with pl | pl | pl | pl | pl | pl
     all_goals
      rw [pl] at hn
      simp only [Mg.num, Int.reduceEq, if_true, if_false] at hn
      have dn := decide_eq_false hn
      simp (disch := first | omega | (simp only [lnx]; omega)) only [stdh, stdx, ↓reduceIte, seval, hld, encF, pl, dn, hcx, cellN, encM, load_imm, schema_Lost_1.d0, List.getElem?_set_ne, List.getElem?_set_self]
      refine give hsame _ _ (fun H' hR => ?_) (fun H' hR => ?_)
      ·refine runL_V 60 ?_
       simp (disch := first | omega | (simp only [lnx]; omega)) only [stdh, stdx, ↓reduceIte, seval]
       rw [hcast]
       exact hR
      ·refine runL_V 60 ?_
       simp (disch := first | omega | (simp only [lnx]; omega)) only [stdh, stdx, ↓reduceIte, seval]
       refine run_inScope ?_
       exact hR _
  ·rw [List.drop_eq_nil_of_le (by omega : l.length ≤ i)] at h4
   have hjl : j = L.length := by
    have := congrArg List.length h4
    simp only [List.length_drop, List.filter_nil, List.length_nil] at this; omega
   simp (disch := first | omega | (simp only [lnx]; omega)) only [stdh, stdx, ↓reduceIte, seval]
   refine run_inScope ?_
   exact hQ true j fp H _ ht.le ht.kept (fun _ => hjl) hi
 termination_by z => z
theorem lost1_iter {H : AHeap} {n : Nat} {m : Mg} {v : Int} (hm : m.fine) (hsm : m.small) : Iter Try.prog F.schema_Lost_1 [.yld n, cellN (encM m), cell (.int .i64 v)] n (nameArgs (lostL m v)) (lostL m v).length [] H := by
 intro I hI fp hi hown
 refine fun_V 100 schema_Lost_1_code rfl ?_
 simp (disch := first | omega | (simp only [lnx]; omega)) only [stdh, stdx, ↓reduceIte, seval, schema_Lost_1, schema_Lost_1.body, cellN, encM, load_imm, load_immN]
 refine callK_fn (check_ok _ m hm _ ?_)
 refine runL_V 60 ?_
 by_cases hc : checkM m = 0
 case neg =>
  have e0 : lostL m v = [] := by rw [lostL, if_pos hc]
  rw [e0]
  simp (disch := first | omega | (simp only [lnx]; omega)) only [stdh, stdx, ↓reduceIte, seval, hc]
  exact ⟨true, 0, fp, fun x h1 h2 => trivial, fun _ => rfl, hi⟩
 have e0 : lostL m v = (fieldsOf m.k).filter fun f => !sameF m (projectM m v) f := by rw [lostL, if_neg (by omega)]
 rw [e0] at hI ⊢
 simp (disch := first | omega | (simp only [lnx]; omega)) only [stdh, stdx, ↓reduceIte, seval, hc, load_imm, load_immN]
 refine callK_fn (project_ok _ m v hsm _ ?_)
 generalize projectM m v = p at *
 refine runL_V 60 ?_
 simp (disch := first | omega | (simp only [lnx]; omega)) only [stdh, stdx, ↓reduceIte, seval, encM, load_imm, load_immN]
 refine callK_fn (of_ok _ _ _ ?_)
 refine runL_V 60 ?_
 simp (disch := first | omega | (simp only [lnx]; omega)) only [stdh, stdx, ↓reduceIte, seval]
 refine lost1_loop (m := m) (p := p) (c := H.length) (H0 := H) (fp0 := fp) (fieldsOf_le m.k) fieldsOf_ok3 hI _ _ (Nat.le_refl _) ?_ _ 0 0 _ fp rfl (by omega) (by omega) rfl ⟨by simp, fun m hm => .inl hm, fun m hm _ => List.getElem?_append_left hm⟩ ((hI.foot true 0).stable _ _ _ hi (by simp) fun m hm => List.getElem?_append_left ((hI.foot true 0).lt _ _ hi m hm)) (fun hh => by have := (hI.foot true 0).lt _ _ hi _ hh; omega) at_0
 intro b j fp' H' r h1 h2 h3 h4
 exact run_fin rfl rfl trivial ⟨b, j, fp', h1, h2, h3, h4⟩
theorem lost_ok (H : AHeap) (m : Mg) (v : Int) (Q : AVal → AHeap → Prop) (h : Q (.fn F.schema_Lost_1 [] [cellN (encM m), cell (.int .i64 v)]) H) : FunOK Try.prog F.schema_Lost [.agg (encM m), .int .i64 v] H Q := by
 refine fun_iced schema_Lost_code fun _ => ?_
 refine fun_V 40 schema_Lost_code rfl ?_
 simp (disch := first | omega | (simp only [lnx]; omega)) only [stdh, stdx, ↓reduceIte, seval, schema_Lost, schema_Lost.body, encM]
 refine ⟨keeps_append _ _, [(H.length, encM m), (H.length + 1, [.int .i64 v])], .fn F.schema_Lost_1 [] [cellN (encM m), cell (.int .i64 v)], ?_, ?_, h⟩
 ·intro p hp
  simp only [List.mem_cons, List.not_mem_nil, or_false] at hp
  rcases hp with rfl | rfl
  ·refine ⟨encM m, by rw [at_0]; rfl, (mvs_id (L := H.length) (fun _ h => toF_low h) _ (closeds_encM m)).symm, colds_of (L := H.length) (fun _ h => toF_low h) _ (closeds_encM m)⟩
  ·refine ⟨[.int .i64 v], by rw [at_k]; rfl, rfl, ⟨trivial, trivial⟩⟩
 ·have e1 : toF H.length [] [(H.length, encM m), (H.length + 1, [.int .i64 v])] H.length = .ice (encM m) := by
   unfold toF; rw [if_neg (by omega)]; simp [findN, findI]
  have e2 : toF H.length [] [(H.length, encM m), (H.length + 1, [.int .i64 v])] (H.length + 1) = .ice [.int .i64 v] := by
   unfold toF; rw [if_neg (by omega)]; simp [findN, findI]
  simp only [mv, mvs, e1, e2, mvPtr]
  exact Sees.refl _
def fitsM (m : Mg) (v : Int) : Bool := decide (checkM m = 0) && decide (projectM m v = m)
def bestM (m : Mg) : Int × Int := if checkM m ≠ 0 then (0, checkM m) else if projectM m 1 = m then (1, 0) else (2, 0)
set_option maxRecDepth 10000 in
set_option maxHeartbeats 4000000 in
theorem rfits_ok (H : AHeap) (m : Mg) (v : Int) (hm : m.fine2) (hs : m.small) (Q : AVal → AHeap → Prop) (h : Q (.bool (fitsM m v)) H) : FunOK Try.prog F.cuneiformref19_Fits [.agg (encM m), .int .i64 v] H Q := by
 refine fun_iced cuneiformref19_Fits_code fun _ => ?_
 refine fun_V 60 cuneiformref19_Fits_code rfl ?_
 simp (disch := first | omega | (simp only [lnx]; omega)) only [stdh, stdx, ↓reduceIte, seval, cuneiformref19_Fits, cuneiformref19_Fits.body, cuneiformref19_Fits.d0, encM]
 refine callD_fn (rcheck_ok _ m hm _ ?_)
 refine ⟨by simp (disch := first | omega | (simp only [lnx]; omega)) only [stdh, stdx, ↓reduceIte, seval, encM], ?_⟩
 refine runD_V 60 ?_
 unfold fitsM at h
 by_cases hc : checkM m = 0
 ·rw [decide_eq_true hc, Bool.true_and] at h
  simp (disch := first | omega | (simp only [lnx]; omega)) only [stdh, stdx, ↓reduceIte, seval, hc, encM]
  refine callD_fn (rproject_ok _ m v _ ?_)
  refine ⟨by simp (disch := first | omega | (simp only [lnx]; omega)) only [stdh, stdx, ↓reduceIte, seval, encM], ?_⟩
  refine runD_V 60 ?_
  simp (disch := first | omega | (simp only [lnx]; omega)) only [stdh, stdx, ↓reduceIte, seval, encM]
  refine callD_fn (rsame_ok _ (projectM m v) m (projectM_small hs v).fit2 _ ?_)
  refine ⟨by simp (disch := first | omega | (simp only [lnx]; omega)) only [stdh, stdx, ↓reduceIte, seval, encM], ?_⟩
  refine runD_V 60 ?_
  simp (disch := first | omega | (simp only [lnx]; omega)) only [stdh, stdx, ↓reduceIte, seval]
  exact ice_none trivial h
 ·rw [decide_eq_false hc, Bool.false_and] at h
  simp (disch := first | omega | (simp only [lnx]; omega)) only [stdh, stdx, ↓reduceIte, seval, hc, encM]
  exact ice_none trivial h
set_option maxRecDepth 10000 in
set_option maxHeartbeats 4000000 in
theorem fits_ok (H : AHeap) {q : Nat} {v : Int} (hq : H[q]? = some (.cells [.int .i64 v] T.schema_Schema)) (m : Mg) (hm : m.fine) (hs : m.small) (Q : AVal → AHeap → Prop) (h : Q (.bool (fitsM m v)) H) : FunOK Try.prog F.schema_Schema_Fits [.ptr q 0, .agg (encM m)] H Q := by
 refine fun_iced schema_Schema_Fits_code fun _ => ?_
 refine fun_V 60 schema_Schema_Fits_code rfl ?_
 have hq' : ∀ L, (H ++ L)[q]? = some (.cells [.int .i64 v] T.schema_Schema) := fun L => (at_low (List.getElem?_eq_some_iff.1 hq).1).trans hq
 simp (disch := first | omega | (simp only [lnx]; omega)) only [stdh, stdx, ↓reduceIte, seval, schema_Schema_Fits, schema_Schema_Fits.body, schema_Schema_Fits.d0, encM, eqA]
 refine callD_fn (check_ok _ m hm _ ?_)
 refine ⟨by simp (disch := first | omega | (simp only [lnx]; omega)) only [stdh, stdx, ↓reduceIte, seval, encM], ?_⟩
 refine runD_V 60 ?_
 unfold fitsM at h
 by_cases hc : checkM m = 0
 ·rw [decide_eq_true hc, Bool.true_and] at h
  simp (disch := first | omega | (simp only [lnx]; omega)) only [stdh, stdx, ↓reduceIte, seval, hc, encM, hq']
  refine callD_fn (project_ok _ m v hs _ ?_)
  refine ⟨by simp (disch := first | omega | (simp only [lnx]; omega)) only [stdh, stdx, ↓reduceIte, seval, encM], ?_⟩
  refine runD_V 60 ?_
  simp (disch := first | omega | (simp only [lnx]; omega)) only [stdh, stdx, ↓reduceIte, seval, encM]
  refine callD_fn (same_ok _ (projectM m v) m (projectM_small hs v).fits _ ?_)
  refine ⟨by simp (disch := first | omega | (simp only [lnx]; omega)) only [stdh, stdx, ↓reduceIte, seval, encM], ?_⟩
  refine runD_V 60 ?_
  simp (disch := first | omega | (simp only [lnx]; omega)) only [stdh, stdx, ↓reduceIte, seval]
  exact ice_none trivial h
 ·rw [decide_eq_false hc, Bool.false_and] at h
  simp (disch := first | omega | (simp only [lnx]; omega)) only [stdh, stdx, ↓reduceIte, seval, hc, encM]
  exact ice_none trivial h
set_option maxRecDepth 10000 in
set_option maxHeartbeats 4000000 in
theorem rbest_ok (H : AHeap) (m : Mg) (hm : m.fine2) (hs : m.small) (Q : AVal → AHeap → Prop) (h : Q (.tup [.int .i64 (bestM m).1, .int .i64 (bestM m).2]) H) : FunOK Try.prog F.cuneiformref19_Best [.agg (encM m)] H Q := by
 refine fun_iced cuneiformref19_Best_code fun _ => ?_
 refine fun_V 60 cuneiformref19_Best_code rfl ?_
 simp (disch := first | omega | (simp only [lnx]; omega)) only [stdh, stdx, ↓reduceIte, seval, cuneiformref19_Best, cuneiformref19_Best.body, encM]
 refine callK_fn (rcheck_ok _ m hm _ ?_)
 refine runL_V 60 ?_
 unfold bestM at h
 by_cases hc : checkM m = 0
 ·rw [if_neg (by omega)] at h
  simp (disch := first | omega | (simp only [lnx]; omega)) only [stdh, stdx, ↓reduceIte, seval, hc]
  refine callK_fn (rfits_ok _ m 1 hm hs _ ?_)
  refine runL_V 60 ?_
  rw [fitsM, decide_eq_true hc, Bool.true_and]
  by_cases hp : projectM m 1 = m
  ·rw [if_pos hp] at h
   rw [decide_eq_true hp]
   simp (disch := first | omega | (simp only [lnx]; omega)) only [stdh, stdx, ↓reduceIte, seval]
   exact ice_none ⟨trivial, trivial, trivial⟩ h
  ·rw [if_neg hp] at h
   rw [decide_eq_false hp]
   simp (disch := first | omega | (simp only [lnx]; omega)) only [stdh, stdx, ↓reduceIte, seval]
   exact ice_none ⟨trivial, trivial, trivial⟩ h
 ·rw [if_pos hc] at h
  simp (disch := first | omega | (simp only [lnx]; omega)) only [stdh, stdx, ↓reduceIte, seval, hc]
  refine callK_fn (rcheck_ok _ m hm _ ?_)
  refine runL_V 60 ?_
  simp (disch := first | omega | (simp only [lnx]; omega)) only [stdh, stdx, ↓reduceIte, seval]
  exact ice_none ⟨trivial, trivial, trivial⟩ h
set_option maxRecDepth 10000 in
set_option maxHeartbeats 4000000 in
theorem best_ok (H : AHeap) (m : Mg) (hm : m.fine) (hs : m.small) (Q : AVal → AHeap → Prop) (h : Q (.tup [.int .i64 (bestM m).1, .int .i64 (bestM m).2]) H) : FunOK Try.prog F.schema_Best [.agg (encM m)] H Q := by
 refine fun_iced schema_Best_code fun _ => ?_
 refine fun_V 60 schema_Best_code rfl ?_
 simp (disch := first | omega | (simp only [lnx]; omega)) only [stdh, stdx, ↓reduceIte, seval, schema_Best, schema_Best.body, encM]
 refine callK_fn (check_ok _ m hm _ ?_)
 refine runL_V 60 ?_
 unfold bestM at h
 by_cases hc : checkM m = 0
 case neg =>
  rw [if_pos hc] at h
  simp (disch := first | omega | (simp only [lnx]; omega)) only [stdh, stdx, ↓reduceIte, seval, hc]
  exact ice_none ⟨trivial, trivial, trivial⟩ h
 rw [if_neg (by omega)] at h
 simp (disch := first | omega | (simp only [lnx]; omega)) only [stdh, stdx, ↓reduceIte, seval, hc]
 refine callK_fn (vers_ok _ _ ?_)
 refine runL_V 60 ?_
 simp (disch := first | omega | (simp only [lnx]; omega)) only [stdh, stdx, ↓reduceIte, seval]
 obtain ⟨H2, hH2⟩ : ∃ H2, H2 = (H ++ [ABlk.cells (encM m) T.msg_Msg, ABlk.cells [.int .i64 0] T.int]) := ⟨_, rfl⟩
 have e0 : H2[H.length]? = some (.cells (encM m) T.msg_Msg) := by rw [hH2]; exact at_0
 have e1 : H2[H.length + 1]? = some (.cells [.int .i64 0] T.int) := by rw [hH2]; exact at_k
 have hl2 : H2.length = H.length + 2 := by rw [hH2]; simp
 have hk0 : Keeps H H2 := by rw [hH2]; exact keeps_append _ _
 change Run _ _ _ _ (H ++ [ABlk.cells (encM m) T.msg_Msg, ABlk.cells [.int .i64 0] T.int]) _
 rw [← hH2]
 clear hH2
 refine range_vars (g := F.schema_Versions_1) (first := []) (captured := []) rfl (by intro n hn; cases hn) (item := vIt) (len := 2) (fun j => rfl) [(H.length + 1, T.int, fun j => .int .i64 (j : Nat))] (fun j => if projectM m ((j + 1 : Nat) : Int) = m then some (.exit 0) else none) (vars_cons e1 vars_nil) ?_ (fun _ _ _ => vers1_iter) ?_ ?_
 ·intro a' b' j H1 hj _ hl hk hrec hv
  have q0 : H1[H.length]? = some (ABlk.cells [.int .i64 m.k, .int .i64 m.n0, .int .i64 m.n1, .int .i64 m.n2, .int .i64 m.n3, .int .i64 m.n4, .int .i64 m.n5, recs encP false m.p, ints false m.c, .str m.t, .str m.g] T.msg_Msg) := (hk H.length (by omega) (by simp)).trans e0
  have q1 := hv.get (c := H.length + 1) (T := T.int) (f := fun j => .int .i64 (j : Nat)) (by simp)
  refine run_V0 60 ?_
  simp (disch := first | omega | (simp only [lnx]; omega)) only [stdh, stdx, ↓reduceIte, seval, schema_Best.a1, schema_Best.b1, schema_Best.d0, hrec, q0, q1, vIt, List.zip_cons_cons, List.zip_nil_left, List.reverse_cons, List.reverse_nil, List.getElem?_set_self, List.getElem?_set_ne]
  refine callD_fn (project_ok _ m _ hs _ ?_)
  refine ⟨by simp (disch := first | omega | (simp only [lnx]; omega)) only [stdh, stdx, ↓reduceIte, seval, q0, encM, List.getElem?_set_ne], ?_⟩
  refine runD_V 60 ?_
  simp (disch := first | omega | (simp only [lnx]; omega)) only [stdh, stdx, ↓reduceIte, seval, q0, List.getElem?_set_ne]
  refine callD_fn (same_ok _ (projectM m _) m (projectM_small hs _).fits _ ?_)
  refine ⟨by simp (disch := first | omega | (simp only [lnx]; omega)) only [stdh, stdx, ↓reduceIte, seval, q0, encM, List.getElem?_set_ne], ?_⟩
  refine runD_V 60 ?_
  by_cases hp : projectM m ((j + 1 : Nat) : Int) = m
  ·rw [decide_eq_true hp, if_pos hp]
   simp (disch := first | omega | (simp only [lnx]; omega)) only [stdh, stdx, ↓reduceIte, seval]
   refine exit_fin (n := H2.length) (L := lrec _ _ _ a' b' .busy none) rfl (by simp (disch := first | omega | (simp only [lnx]; omega)) only [List.getElem?_set_ne, List.getElem?_set_self, List.length_set, ne_eq, not_false_eq_true]; rfl) ?_
   refine varsQ_mk rfl (by (first | omega | (simp only [lnx]; omega))) (fun m m1 m2 m3 => ?_) (vars_cons ?_ vars_nil) (by simp (disch := first | omega | (simp only [lnx]; omega)) only [List.getElem?_set_ne, List.getElem?_set_self, List.length_set, ne_eq, not_false_eq_true]; rfl)
   ·simp only [List.map_cons, List.map_nil, List.mem_cons, List.not_mem_nil, or_false] at m3
    simp (disch := first | omega | (simp only [lnx]; omega)) only [List.getElem?_set_ne, List.getElem?_set_self, List.length_set, ne_eq, not_false_eq_true]
   ·simp (disch := first | omega | (simp only [lnx]; omega)) only [List.getElem?_set_ne, List.getElem?_set_self, List.length_set, ne_eq, not_false_eq_true]
  ·rw [decide_eq_false hp, if_neg hp]
   simp (disch := first | omega | (simp only [lnx]; omega)) only [stdh, stdx, ↓reduceIte, seval]
   refine round_fin (n := H2.length) (L := lrec _ _ _ a' b' .busy none) rfl (by simp (disch := first | omega | (simp only [lnx]; omega)) only [List.getElem?_set_ne, List.getElem?_set_self, List.length_set, ne_eq, not_false_eq_true]; rfl) ?_
   refine varsQ_mk rfl (by (first | omega | (simp only [lnx]; omega))) (fun m m1 m2 m3 => ?_) (vars_cons ?_ vars_nil) (by simp (disch := first | omega | (simp only [lnx]; omega)) only [List.getElem?_set_ne, List.getElem?_set_self, List.length_set, ne_eq, not_false_eq_true]; rfl)
   ·simp only [List.map_cons, List.map_nil, List.mem_cons, List.not_mem_nil, or_false] at m3
    simp (disch := first | omega | (simp only [lnx]; omega)) only [List.getElem?_set_ne, List.getElem?_set_self, List.length_set, ne_eq, not_false_eq_true]
   ·simp (disch := first | omega | (simp only [lnx]; omega)) only [List.getElem?_set_ne, List.getElem?_set_self, List.length_set, ne_eq, not_false_eq_true]
 ·intro H' hl hk hst _
  have := hst 1 (by omega)
  simp only [show ((1 + 1 : Nat) : Int) = 2 from rfl] at this
  rw [if_pos (projectM_ne (by omega))] at this
  cases this
 ·intro ap j H' hl hk hj hap hst hv
  have q1 := hv.get (c := H.length + 1) (T := T.int) (f := fun j => .int .i64 (j : Nat)) (by simp)
  by_cases hp : projectM m ((j + 1 : Nat) : Int) = m
  ·rw [if_pos hp] at hap
   cases hap
   have hkk : Keeps H H' := ⟨by omega, fun x hx => (hk x (by omega) (by simp; omega)).trans (hk0.at_ x hx)⟩
   have hres : (if projectM m 1 = m then ((1 : Int), (0 : Int)) else (2, 0)) = (((j + 1 : Nat) : Int), 0) := by
    have hj' : j = 0 ∨ j = 1 := by omega
    rcases hj' with rfl | rfl
    ·rw [if_pos (show projectM m 1 = m from hp)]; rfl
    ·have := hst 0 (by omega)
     split at this
     ·cases this
     ·rename_i hh; rw [if_neg (show ¬ projectM m 1 = m from hh)]; rfl
   rw [hres] at h
   refine run_V0 60 ?_
   simp (disch := first | omega | (simp only [lnx]; omega)) only [stdh, stdx, ↓reduceIte, seval, jumpItems, q1]
   exact ice_keeps hkk ⟨trivial, trivial, trivial⟩ h
  ·rw [if_neg hp] at hap; cases hap
end Go.Proofs.Ytgjldipoagkncaa
