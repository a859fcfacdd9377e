/-
  Lemmas on the way to the statements of this seat. By an AI agent. No person has read it.
-/
import Derived.Test.YtgjldipoagkncaaBODYC
import Derived.Test.YtgjldipoagkncaaBODYA
import Derived.Test.YtgjldipoagkncaaBODYB
set_option linter.unusedSimpArgs false
set_option linter.unusedVariables false

namespace Go.Proofs.Ytgjldipoagkncaa
open Go Go.Am
def Canon : List Nat → Prop
 | [] => False
 | [b] => b < 128
 | b :: c :: rest => 128 ≤ b ∧ b < 256 ∧ val (c :: rest) ≠ 0 ∧ Canon (c :: rest)
theorem putOne_val : ∀ (d : List Nat), Canon d → putOne (val d) = d
 | [], h => h.elim
 | [b], h => by
  simp only [Canon] at h
  have : val [b] = b := by simp only [val]; omega
  rw [this, putOne_lt h]
 | b :: c :: rest, h => by
  obtain ⟨h1, h2, h3, h4⟩ := h
  have hv : val (b :: c :: rest) = b % 128 + 128 * val (c :: rest) := rfl
  rw [hv, putOne_ge (by omega), show (b % 128 + 128 * val (c :: rest)) % 128 + 128 = b by omega, show (b % 128 + 128 * val (c :: rest)) / 128 = val (c :: rest) by omega, putOne_val _ h4]
theorem val_pos {d : List Nat} {j : Nat} (hj : j < d.length) (h : d.getD j 0 % 128 ≠ 0) : val d ≠ 0 := by
 have h1 := val_ge d j
 have h2 := val_drop d j hj
 omega
theorem canon_lead : ∀ (f : Nat) (bs : List Nat), (∀ b ∈ bs, b < 256) → lead f bs ≠ f → lead f bs < bs.length → (0 < lead f bs → bs.getD (lead f bs) 0 ≠ 0) → Canon (bs.take (lead f bs + 1))
 | 0, bs, _, h, _, _ => by simp [lead] at h
 | f + 1, [], _, _, h, _ => by simp [lead] at h
 | f + 1, b :: bs, hb, h1, h2, h3 => by
  by_cases hc : 128 ≤ b
  ·simp only [lead, if_pos hc] at h1 h2 h3 ⊢
   simp only [List.length_cons] at h2
   have hlt : lead f bs < bs.length := by omega
   have h3' := h3 (by omega)
   rw [Nat.add_comm 1, List.getD_cons_succ] at h3'
   have ih := canon_lead f bs (fun x hx => hb x (by simp [hx])) (by omega) hlt (fun _ => h3')
   rw [show 1 + lead f bs + 1 = (lead f bs + 1) + 1 by omega, List.take_succ_cons]
   have hlen : (bs.take (lead f bs + 1)).length = lead f bs + 1 := by simp; omega
   have hlast := lead_last f bs (by omega) hlt
   have hval : val (bs.take (lead f bs + 1)) ≠ 0 := by
    refine val_pos (j := lead f bs) (by omega) ?_
    have : (bs.take (lead f bs + 1)).getD (lead f bs) 0 = bs.getD (lead f bs) 0 := by
     simp [List.getD_eq_getElem?_getD, List.getElem?_take]
    rw [this]; omega
   cases htk : bs.take (lead f bs + 1) with
   | nil => rw [htk] at hlen; simp at hlen
   | cons c rest =>
    rw [htk] at ih hval
    exact ⟨hc, hb b (by simp), hval, ih⟩
  ·simp only [lead, if_neg hc]
   simp only [Nat.zero_add, List.take_succ_cons, List.take_zero, Canon]
   omega
theorem get_facts {bs : List Nat} (hb : ∀ b ∈ bs, b < 256) (h : (getSpec bs).2.2 = 0) : (getSpec bs).2.1 ≤ bs.length ∧ (getSpec bs).1 < 18446744073709551616 ∧ putOne (getSpec bs).1 = bs.take (getSpec bs).2.1 := by
 rw [← rgetSpec_eq] at h ⊢
 unfold rgetSpec at h ⊢
 by_cases h1 : lead 10 bs = 10
 ·rw [if_pos h1] at h; simp at h
 ·rw [if_neg h1] at h ⊢
  by_cases h2 : bs.length ≤ lead 10 bs
  ·rw [if_pos h2] at h; simp at h
  ·rw [if_neg h2] at h ⊢
   by_cases h3 : 18446744073709551616 ≤ val (bs.take (lead 10 bs + 1))
   ·rw [if_pos h3] at h; simp at h
   ·rw [if_neg h3] at h ⊢
    by_cases h4 : 0 < lead 10 bs ∧ bs.getD (lead 10 bs) 0 = 0
    ·rw [if_pos h4] at h; simp at h
    ·rw [if_neg h4]
     refine ⟨by simp; omega, by simp; omega, ?_⟩
     exact putOne_val _ (canon_lead 10 bs hb h1 (by omega) (fun hp hz => h4 ⟨hp, hz⟩))
theorem put_take {bs : List Nat} (hb : ∀ b ∈ bs, b < 256) (h : (getSpec bs).2.2 = 0) : bs = putOne (getSpec bs).1 ++ bs.drop (putOne (getSpec bs).1).length ∧ (putOne (getSpec bs).1).length = (getSpec bs).2.1 := by
 obtain ⟨h1, h2, h3⟩ := get_facts hb h
 have hl : (putOne (getSpec bs).1).length = (getSpec bs).2.1 := by rw [h3, List.length_take]; omega
 refine ⟨?_, hl⟩
 conv => lhs; rw [← List.take_append_drop (getSpec bs).2.1 bs, ← h3]
 rw [hl]
theorem byte_drop {ys : List Nat} (hb : ∀ b ∈ ys, b < 256) (a : Nat) : ∀ b ∈ ys.drop a, b < 256 := fun b h => hb b (List.mem_of_mem_drop h)
theorem num_inv {ys : List Nat} {s : RD} {most : Nat} (hb : ∀ b ∈ ys, b < 256) (h : (s.num ys most).2.err = 0) : ∃ a n, s = at0 a ∧ n < 18446744073709551616 ∧ n ≤ most ∧ s.num ys most = (n, at0 (a + (putOne n).length)) ∧ ys.drop a = putOne n ++ ys.drop (a + (putOne n).length) := by
 have hs := err_zero (num_stick h)
 obtain ⟨a, e, w⟩ := s
 obtain ⟨rfl, rfl⟩ : w = 0 ∧ e = 0 := hs
 have he := (err_zero h).2
 unfold RD.num at he
 have hsp : (numSpec most (ys.drop a)).2.2 = 0 := Classical.byContradiction fun hh => by
  rw [show lensR 0 ys a 0 (numSpec most) = _ from lensR_bad2 rfl hh] at he
  exact hh he
 have hg : (getSpec (ys.drop a)).2.2 = 0 := Classical.byContradiction fun hh => by
  unfold numSpec at hsp; rw [if_pos hh] at hsp; exact hh hsp
 have hm : ¬ most < (getSpec (ys.drop a)).1 := fun hh => by
  unfold numSpec at hsp; rw [if_neg (by omega), if_pos hh] at hsp; cases hsp
 obtain ⟨p1, p2⟩ := put_take (byte_drop hb a) hg
 have hf := get_facts (byte_drop hb a) hg
 refine ⟨a, (getSpec (ys.drop a)).1, rfl, hf.2.1, by omega, num_put p1 hf.2.1 (by omega), ?_⟩
 rw [← List.drop_drop]; exact p1
theorem sgn_inv {ys : List Nat} {s : RD} {lo hi : Int} (hb : ∀ b ∈ ys, b < 256) (h : (s.sgn ys lo hi).2.err = 0) : ∃ a z, s = at0 a ∧ lo ≤ z ∧ z ≤ hi ∧ s.sgn ys lo hi = (z, at0 (a + (putOne (zig z)).length)) ∧ ys.drop a = putOne (zig z) ++ ys.drop (a + (putOne (zig z)).length) := by
 have hs := err_zero (sgn_stick h)
 obtain ⟨a, e, w⟩ := s
 obtain ⟨rfl, rfl⟩ : w = 0 ∧ e = 0 := hs
 have he := (err_zero h).2
 unfold RD.sgn at he
 have hsp : (sgnSpec lo hi (ys.drop a)).2.2 = 0 := Classical.byContradiction fun hh => by
  rw [show lensR 0 ys a 0 (sgnSpec lo hi) = _ from lensR_bad2 rfl hh] at he
  exact hh he
 have hg : (getSpec (ys.drop a)).2.2 = 0 := Classical.byContradiction fun hh => by
  unfold sgnSpec at hsp; rw [if_pos hh] at hsp; exact hh hsp
 have hm : ¬ (zag (getSpec (ys.drop a)).1 < lo ∨ hi < zag (getSpec (ys.drop a)).1) := fun hh => by
  unfold sgnSpec at hsp; rw [if_neg (by omega), if_pos hh] at hsp; cases hsp
 obtain ⟨p1, p2⟩ := put_take (byte_drop hb a) hg
 have hf := get_facts (byte_drop hb a) hg
 have hz := zag_range hf.2.1
 have hzz : zig (zag (getSpec (ys.drop a)).1) = (getSpec (ys.drop a)).1 := zig_zag _
 refine ⟨a, zag (getSpec (ys.drop a)).1, rfl, by omega, by omega, sgn_put (rest := ys.drop (a + (putOne (getSpec (ys.drop a)).1).length)) ?_ hz (by omega) (by omega), ?_⟩
 ·rw [hzz, ← List.drop_drop]; exact p1
 ·rw [hzz, ← List.drop_drop]; exact p1
theorem fld_inv {ys : List Nat} {s : RD} {most : Int} (hb : ∀ b ∈ ys, b < 256) (h : (s.fld ys most).2.err = 0) (hmost : 0 ≤ most) : ∃ a xs, s = at0 a ∧ (xs.length : Int) ≤ most ∧ (∀ b ∈ xs, b < 256) ∧ s.fld ys most = (xs, at0 (a + (putOne xs.length ++ xs).length)) ∧ ys.drop a = putOne xs.length ++ xs ++ ys.drop (a + (putOne xs.length ++ xs).length) := by
 have hs := err_zero (fld_stick h)
 obtain ⟨a, e, w⟩ := s
 obtain ⟨rfl, rfl⟩ : w = 0 ∧ e = 0 := hs
 have he := (err_zero h).2
 unfold RD.fld at he
 have hsp : (fieldSpec most (ys.drop a)).2.2 = 0 := Classical.byContradiction fun hh => by
  rw [show lensR [] ys a 0 (fieldSpec most) = _ from lensR_bad2 rfl hh] at he
  exact hh he
 obtain ⟨g1, g2, g3⟩ := fieldSpec_inv hsp
 obtain ⟨p1, p2⟩ := put_take (byte_drop hb a) g1
 have hf := get_facts (byte_drop hb a) g1
 generalize hn : (getSpec (ys.drop a)).1 = n at *
 generalize hk : (getSpec (ys.drop a)).2.1 = k at *
 have hl : (((ys.drop a).drop k).take n).length = n := by rw [List.length_take, List.length_drop]; omega
 have hd : ys.drop a = putOne n ++ ((ys.drop a).drop k).take n ++ (ys.drop a).drop (k + n) := by
  have hdd : (ys.drop a).drop (k + n) = ((ys.drop a).drop k).drop n := (List.drop_drop ..).symm
  rw [hdd, List.append_assoc, List.take_append_drop, ← p2]
  exact p1
 have hlen2 : (putOne n ++ ((ys.drop a).drop k).take n).length = k + n := by rw [List.length_append, hl, p2]
 refine ⟨a, ((ys.drop a).drop k).take n, rfl, by rw [hl]; omega, fun b hb' => byte_drop hb a b (List.mem_of_mem_drop (List.mem_of_mem_take hb')), ?_, ?_⟩
 ·refine fld_put (rest := (ys.drop a).drop (k + n)) ?_ (by rw [hl]; exact hf.2.1) (by rw [hl]; omega)
  rw [hl]; exact hd
 ·rw [hl, hlen2, ← List.drop_drop]; exact hd
theorem count_inv {ys : List Nat} {s : RD} {most : Nat} (hb : ∀ b ∈ ys, b < 256) (h : (s.count ys most).2.err = 0) : ∃ a n, s = at0 a ∧ 1 ≤ n ∧ n ≤ most ∧ s.count ys most = (n, at0 (a + (putOne n).length)) ∧ ys.drop a = putOne n ++ ys.drop (a + (putOne n).length) := by
 obtain ⟨c1, c2⟩ := count_fst (ys := ys) (s := s) (most := most)
 obtain ⟨d1, d2, d3, d4⟩ := c2 h
 obtain ⟨a, n, rfl, h1, h2, h3, h4⟩ := num_inv hb d3
 rw [d4, h3] at c1 d1
 exact ⟨a, n, rfl, d1, c1, by rw [d4, h3], h4⟩
theorem pts_inv {ys : List Nat} (hb : ∀ b ∈ ys, b < 256) : ∀ (n : Nat) (last : Int × Int) (s : RD), near last.1 → near last.2 → (RD.pts ys n last s).2.err = 0 → ∃ a l, s = at0 a ∧ l.length = n ∧ l.any farP = false ∧ RD.pts ys n last s = (l, at0 (a + (pathB last l).length)) ∧ ys.drop a = pathB last l ++ ys.drop (a + (pathB last l).length)
 | 0, last, s, _, _, h => by
  have hs := err_zero (s := s) h
  obtain ⟨a, e, w⟩ := s
  obtain ⟨rfl, rfl⟩ : w = 0 ∧ e = 0 := hs
  exact ⟨a, [], rfl, rfl, rfl, by simp [RD.pts, pathB], by simp [pathB]⟩
 | n + 1, last, s, n1, n2, h => by
  rw [RD.pts] at h
  by_cases hp : (s.pt ys last).2.err = 0
  ·rw [if_pos hp] at h
   have hp2 := hp
   unfold RD.pt at hp2
   obtain ⟨a', z2, ea, y1, y2, y3, y4⟩ := sgn_inv hb hp2
   have hp1 := sgn_stick hp2
   obtain ⟨a, z1, rfl, x1, x2, x3, x4⟩ := sgn_inv hb hp1
   rw [x3] at ea
   have ea' : a + (putOne (zig z1)).length = a' := congrArg RD.a ea
   subst ea'
   unfold near at n1 n2
   have hpt : (at0 a).pt ys last = ((last.1 + z1, last.2 + z2), at0 (a + (putOne (zig z1)).length + (putOne (zig z2)).length)) := by
    unfold RD.pt
    rw [x3] at y3
    rw [x3, y3]
   rw [hpt] at h
   obtain ⟨a2, l, e2, l1, l2, l3, l4⟩ := pts_inv hb n (last.1 + z1, last.2 + z2) _ (by unfold near; simp only; omega) (by unfold near; simp only; omega) h
   have e2' : a + (putOne (zig z1)).length + (putOne (zig z2)).length = a2 := congrArg RD.a e2
   subst e2'
   have hpb : pathB last ((last.1 + z1, last.2 + z2) :: l) = putOne (zig z1) ++ (putOne (zig z2) ++ pathB (last.1 + z1, last.2 + z2) l) := by
    rw [pathB, putAll_two, show last.1 + z1 - last.1 = z1 by omega, show last.2 + z2 - last.2 = z2 by omega, List.append_assoc]
   refine ⟨a, (last.1 + z1, last.2 + z2) :: l, rfl, by rw [List.length_cons, l1], ?_, ?_, ?_⟩
   ·rw [List.any_cons, l2, Bool.or_false]
    exact decide_eq_false (by simp only; omega)
   ·rw [RD.pts, hpt, if_pos (at0_err _), l3, hpb]
    simp only [List.length_append, Nat.add_assoc]
   ·rw [hpb, x4, y4, l4]
    simp only [List.length_append, Nat.add_assoc, List.append_assoc]
  ·rw [if_neg hp] at h; exact absurd h hp
theorem cls_inv {ys : List Nat} (hb : ∀ b ∈ ys, b < 256) : ∀ (n : Nat) (last : Int) (s : RD), -1 ≤ last → (RD.cls ys n last s).2.err = 0 → ∃ a l, s = at0 a ∧ l.length = n ∧ cellsGo last l = 0 ∧ RD.cls ys n last s = (l, at0 (a + (cellsB last l).length)) ∧ ys.drop a = cellsB last l ++ ys.drop (a + (cellsB last l).length)
 | 0, last, s, _, h => by
  have hs := err_zero (s := s) h
  obtain ⟨a, e, w⟩ := s
  obtain ⟨rfl, rfl⟩ : w = 0 ∧ e = 0 := hs
  exact ⟨a, [], rfl, rfl, rfl, by simp [RD.cls, cellsB], by simp [cellsB]⟩
 | n + 1, last, s, hl, h => by
  rw [RD.cls] at h
  by_cases hp : ((s.num ys 65535).2.note (decide (65535 < last + (((s.num ys 65535).1 : Int) + 1))) 5).err = 0
  ·rw [if_pos hp] at h
   obtain ⟨p1, p2, p3⟩ := note_err0 (by omega) hp
   obtain ⟨a, k, rfl, x1, x2, x3, x4⟩ := num_inv hb p1
   rw [x3] at p2 p3 h
   have hle := of_decide_eq_false p2
   simp only at hle p3 h
   rw [p3] at h
   obtain ⟨a2, l, e2, l1, l2, l3, l4⟩ := cls_inv hb n _ _ (by omega) h
   have e2' : a + (putOne k).length = a2 := congrArg RD.a e2
   subst e2'
   have hcb : cellsB last ((last + ((k : Int) + 1)) :: l) = putOne k ++ cellsB (last + ((k : Int) + 1)) l := by
    rw [cellsB, putAll_one, show (last + ((k : Int) + 1) - last - 1).toNat = k by omega]
   refine ⟨a, (last + ((k : Int) + 1)) :: l, rfl, by rw [List.length_cons, l1], ?_, ?_, ?_⟩
   ·rw [cellsGo, if_neg (by omega), if_neg (by omega)]; exact l2
   ·rw [RD.cls, x3]
    simp only
    rw [p3, if_pos (at0_err _), l3, hcb]
    simp only [List.length_append, Nat.add_assoc]
   ·rw [hcb, x4, l4]
    simp only [List.length_append, Nat.add_assoc, List.append_assoc]
  ·rw [if_neg hp] at h; exact absurd h hp
def Fld.apart (f g : Fld) : Bool := if f.sort = 1 ∨ f.sort = 2 then (if g.sort = 1 ∨ g.sort = 2 then decide (f.place ≠ g.place) else true) else decide (f.sort ≠ g.sort)
theorem apart_all (k : Int) : (fieldsOf k).Pairwise (fun f g => g.apart f = true) := by
 by_cases h1 : k = 1
 ·subst h1; decide +kernel
 by_cases h2 : k = 2
 ·subst h2; decide +kernel
 by_cases h3 : k = 3
 ·subst h3; decide +kernel
 by_cases h4 : k = 4
 ·subst h4; decide +kernel
 by_cases h5 : k = 5
 ·subst h5; decide +kernel
 simp [fieldsOf, h1, h2, h3, h4, h5]
theorem put_num (m : Mg) {j : Int} (hj : j = 0 ∨ j = 1 ∨ j = 2 ∨ j = 3 ∨ j = 4 ∨ j = 5) (v : Int) : (m.put j v).num j = v := by
 rcases hj with rfl | rfl | rfl | rfl | rfl | rfl <;> rfl
theorem put_num_ne (m : Mg) {i j : Int} (hi : i = 0 ∨ i = 1 ∨ i = 2 ∨ i = 3 ∨ i = 4 ∨ i = 5) (hj : j = 0 ∨ j = 1 ∨ j = 2 ∨ j = 3 ∨ j = 4 ∨ j = 5) (h : i ≠ j) (v : Int) : (m.put j v).num i = m.num i := by
 rcases hi with rfl | rfl | rfl | rfl | rfl | rfl <;> rcases hj with rfl | rfl | rfl | rfl | rfl | rfl <;> first | rfl | (exact absurd rfl h)
theorem put_rest (m : Mg) (j v : Int) : (m.put j v).k = m.k ∧ (m.put j v).p = m.p ∧ (m.put j v).c = m.c ∧ (m.put j v).t = m.t ∧ (m.put j v).g = m.g := by
 unfold Mg.put
 repeat' split
 all_goals exact ⟨rfl, rfl, rfl, rfl, rfl⟩
theorem set_apart {m x : Mg} {f g : Fld} (hf : f.ok3) (hg : g.ok3) (h : g.apart f = true) : partB (setF m x g) f = partB m f ∧ rwrongE (setF m x g) f = rwrongE m f := by
 have hplace : ∀ f : Fld, f.ok3 → f.sort = 1 ∨ f.sort = 2 → f.place = 0 ∨ f.place = 1 ∨ f.place = 2 ∨ f.place = 3 ∨ f.place = 4 ∨ f.place = 5 := fun f hf hs => by
  rcases hf with ⟨_, z⟩ | ⟨_, z⟩
  ·omega
  ·exact z
 have hnum : ∀ y : Mg, (∀ (hs : f.sort = 1 ∨ f.sort = 2), y.num f.place = m.num f.place) → (f.sort = 3 → y.p = m.p) → (f.sort = 4 → y.c = m.c) → (f.sort = 5 → y.t = m.t) → (f.sort ≠ 1 → f.sort ≠ 2 → f.sort ≠ 3 → f.sort ≠ 4 → f.sort ≠ 5 → y.g = m.g) → partB y f = partB m f ∧ rwrongE y f = rwrongE m f := fun y a1 a3 a4 a5 a6 => by
  unfold partB rwrongE
  by_cases s1 : f.sort = 1
  ·simp only [if_pos s1, a1 (.inl s1), show ¬ f.sort = 3 by omega, show ¬ f.sort = 4 by omega, show ¬ f.sort = 5 by omega, show ¬ f.sort = 6 by omega, if_false, and_self]
  by_cases s2 : f.sort = 2
  ·simp only [if_neg s1, if_pos s2, a1 (.inr s2), show ¬ f.sort = 3 by omega, show ¬ f.sort = 4 by omega, show ¬ f.sort = 5 by omega, show ¬ f.sort = 6 by omega, if_false, and_self]
  by_cases s3 : f.sort = 3
  ·simp only [if_neg s1, if_neg s2, if_pos s3, a3 s3, and_self]
  by_cases s4 : f.sort = 4
  ·simp only [if_neg s1, if_neg s2, if_neg s3, if_pos s4, a4 s4, and_self]
  by_cases s5 : f.sort = 5
  ·simp only [if_neg s1, if_neg s2, if_neg s3, if_neg s4, if_pos s5, a5 s5, and_self]
  have s6 : f.sort = 6 := by rcases hf with ⟨_, z⟩ | ⟨z, _⟩ <;> omega
  simp only [if_neg s1, if_neg s2, if_neg s3, if_neg s4, if_neg s5, if_pos s6, a6 s1 s2 s3 s4 s5, and_self]
 unfold Fld.apart at h
 by_cases g12 : g.sort = 1 ∨ g.sort = 2
 ·have hset : setF m x g = m.put g.place (x.num g.place) := by
   unfold setF
   by_cases g1 : g.sort = 1
   ·rw [if_pos g1]
   ·rw [if_neg g1, if_pos (by omega)]
  rw [hset]
  obtain ⟨r0, r1, r2, r3, r4⟩ := put_rest m g.place (x.num g.place)
  refine hnum _ (fun hs => ?_) (fun _ => r1) (fun _ => r2) (fun _ => r3) (fun _ _ _ _ _ => r4)
  rw [if_pos g12, if_pos hs] at h
  have := of_decide_eq_true h
  exact put_num_ne m (hplace f hf hs) (hplace g hg g12) (fun e => this e.symm) _
 ·rw [if_neg g12] at h
  have hne := of_decide_eq_true h
  unfold setF
  rw [if_neg (by omega), if_neg (by omega)]
  have g6 : g.sort = 3 ∨ g.sort = 4 ∨ g.sort = 5 ∨ g.sort = 6 := by rcases hg with ⟨_, z⟩ | ⟨z, _⟩ <;> omega
  by_cases g3 : g.sort = 3
  ·rw [if_pos g3]; exact hnum _ (fun _ => rfl) (fun e => by omega) (fun _ => rfl) (fun _ => rfl) (fun _ _ _ _ _ => rfl)
  rw [if_neg g3]
  by_cases g4 : g.sort = 4
  ·rw [if_pos g4]; exact hnum _ (fun _ => rfl) (fun _ => rfl) (fun e => by omega) (fun _ => rfl) (fun _ _ _ _ _ => rfl)
  rw [if_neg g4]
  by_cases g5 : g.sort = 5
  ·rw [if_pos g5]; exact hnum _ (fun _ => rfl) (fun _ => rfl) (fun _ => rfl) (fun e => by omega) (fun _ _ _ _ _ => rfl)
  rw [if_neg g5]
  have f6 : f.sort = 1 ∨ f.sort = 2 ∨ f.sort = 3 ∨ f.sort = 4 ∨ f.sort = 5 ∨ f.sort = 6 := by rcases hf with ⟨_, z⟩ | ⟨z, _⟩ <;> omega
  exact hnum _ (fun _ => rfl) (fun _ => rfl) (fun _ => rfl) (fun _ => rfl) (fun _ _ _ _ _ => by omega)
theorem bytesOf_textOf {xs : List Nat} (h : ∀ b ∈ xs, b < 256) : bytesOf (textOf xs) = xs := by
 unfold bytesOf textOf
 simp only [List.map_map]
 conv => rhs; rw [← List.map_id xs]
 refine List.map_congr_left fun x hx => ?_
 have := h x hx
 simp [UInt8.toNat_ofNat']
 omega
theorem field_inv {ys : List Nat} (hb : ∀ b ∈ ys, b < 256) {s : RD} {m : Mg} {k : Int} {f : Fld} (hf : f ∈ fieldsOf k) (h : (s.field ys m f).2.err = 0) : ∃ a, s = at0 a ∧ (s.field ys m f).2 = at0 (a + (partB (s.field ys m f).1 f).length) ∧ ys.drop a = partB (s.field ys m f).1 f ++ ys.drop (a + (partB (s.field ys m f).1 f).length) ∧ rwrongE (s.field ys m f).1 f = 0 ∧ (s.field ys m f).1 = setF m (s.field ys m f).1 f := by
 have h3 := fieldsOf_ok3 f hf
 have hst := fieldsOf_std f hf
 have h5 := (fieldsOf_ok5 f hf).1
 obtain ⟨o1, o2, o3, o4⟩ := fieldsOf_ok6 f hf
 unfold RD.field at h ⊢
 by_cases s1 : f.sort = 1
 ·simp only [if_pos s1] at h ⊢
  have hpl : f.place = 0 ∨ f.place = 1 ∨ f.place = 2 ∨ f.place = 3 ∨ f.place = 4 ∨ f.place = 5 := by
   rcases h3 with ⟨_, z⟩ | ⟨_, z⟩
   ·omega
   ·exact z
  obtain ⟨p1, p2, p3⟩ := note_err0 (by omega) h
  obtain ⟨a, n, rfl, n1, n2, n3, n4⟩ := num_inv hb p1
  rw [p3, n3]
  rw [n3] at p2
  have hle := of_decide_eq_false p2
  simp only at hle
  have hp : partB (m.put f.place (n : Nat)) f = putOne n := by
   unfold partB; rw [if_pos s1, put_num m hpl, putAll_one]; simp
  simp only [hp]
  refine ⟨a, rfl, rfl, n4, ?_, ?_⟩
  ·unfold rwrongE
   rw [if_neg (by omega), if_neg (by omega), if_neg (by omega), if_neg (by omega), put_num m hpl, if_neg (by omega)]
  ·unfold setF; rw [if_pos s1, put_num m hpl]
 simp only [if_neg s1] at h ⊢
 by_cases s2 : f.sort = 2
 ·simp only [if_pos s2] at h ⊢
  have hpl : f.place = 0 ∨ f.place = 1 ∨ f.place = 2 ∨ f.place = 3 ∨ f.place = 4 ∨ f.place = 5 := by
   rcases h3 with ⟨_, z⟩ | ⟨_, z⟩
   ·omega
   ·exact z
  obtain ⟨a, z, rfl, n1, n2, n3, n4⟩ := sgn_inv hb h
  rw [n3]
  have hp : partB (m.put f.place z) f = putOne (zig z) := by
   unfold partB; rw [if_neg s1, if_pos s2, put_num m hpl, putAll_one]
  simp only [hp]
  refine ⟨a, rfl, rfl, n4, ?_, ?_⟩
  ·unfold rwrongE
   rw [if_neg (by omega), if_neg (by omega), if_neg (by omega), if_neg (by omega), put_num m hpl, if_neg (by omega)]
  ·unfold setF; rw [if_neg s1, if_pos s2, put_num m hpl]
 simp only [if_neg s2] at h ⊢
 have hwe := fun y : Mg => wrong_eq (m := y) hst
 obtain ⟨q3, q4, q5, q6⟩ := hst
 have hmany : ∀ n : Nat, f.least ≤ n → (n : Int) ≤ f.most → manyE n f = 0 := fun n a b => by
  unfold manyE; rw [if_neg (by omega), if_neg (by omega)]
 by_cases s3 : f.sort = 3
 ·simp only [if_pos s3] at h ⊢
  have h1 := path_err _ _ _ h
  obtain ⟨a, n, rfl, c1, c2, c3, c4⟩ := count_inv hb h1
  unfold RD.path at h ⊢
  rw [c3] at h ⊢
  obtain ⟨a2, l, e2, l1, l2, l3, l4⟩ := pts_inv hb n (0, 0) _ (by unfold near; omega) (by unfold near; omega) h
  have e2' : a + (putOne n).length = a2 := congrArg RD.a e2
  subst e2'
  rw [l3]
  have hp : partB { m with p := l } f = putOne n ++ pathB (0, 0) l := by
   unfold partB; rw [if_neg s1, if_neg s2, if_pos s3, putAll_one]; simp only [l1]
  simp only [hp]
  refine ⟨a, rfl, by simp only [List.length_append, Nat.add_assoc], ?_, ?_, ?_⟩
  ·rw [c4, l4]; simp only [List.length_append, Nat.add_assoc, List.append_assoc]
  ·rw [← hwe]
   unfold wrongE pathE
   obtain ⟨b1, b2⟩ := q3 s3
   rw [if_pos s3, hmany _ (by rw [l1]; omega) (by rw [l1]; omega), if_neg (by simp), l2]; rfl
  ·unfold setF; rw [if_neg s1, if_neg s2, if_pos s3]
 simp only [if_neg s3] at h ⊢
 by_cases s4 : f.sort = 4
 ·simp only [if_pos s4] at h ⊢
  have h1 := cls_err _ _ _ h
  obtain ⟨a, n, rfl, c1, c2, c3, c4⟩ := count_inv hb h1
  unfold RD.cells at h ⊢
  rw [c3] at h ⊢
  obtain ⟨a2, l, e2, l1, l2, l3, l4⟩ := cls_inv hb n (-1) _ (by omega) h
  have e2' : a + (putOne n).length = a2 := congrArg RD.a e2
  subst e2'
  rw [l3]
  have hp : partB { m with c := l } f = putOne n ++ cellsB (-1) l := by
   unfold partB; rw [if_neg s1, if_neg s2, if_neg s3, if_pos s4, putAll_one]; simp only [l1]
  simp only [hp]
  refine ⟨a, rfl, by simp only [List.length_append, Nat.add_assoc], ?_, ?_, ?_⟩
  ·rw [c4, l4]; simp only [List.length_append, Nat.add_assoc, List.append_assoc]
  ·rw [← hwe]
   unfold wrongE cellsE
   obtain ⟨b1, b2⟩ := q4 s4
   rw [if_neg s3, if_pos s4, hmany _ (by rw [l1]; omega) (by rw [l1]; omega), if_neg (by simp), l2]
  ·unfold setF; rw [if_neg s1, if_neg s2, if_neg s3, if_pos s4]
 simp only [if_neg s4] at h ⊢
 have htext : ∀ least, f.least = least → least = 0 → (s.text ys f.most).2.err = 0 → ∃ a xs, s = at0 a ∧ s.text ys f.most = (xs, at0 (a + (putOne xs.length ++ xs).length)) ∧ ys.drop a = putOne xs.length ++ xs ++ ys.drop (a + (putOne xs.length ++ xs).length) ∧ (∀ b ∈ xs, b < 256) ∧ textE (textOf xs) f = 0 := fun least hl h0 ht => by
  unfold RD.text at ht ⊢
  obtain ⟨p1, p2, p3⟩ := note_err0 (by omega) ht
  obtain ⟨a, xs, rfl, f1, f2, f3, f4⟩ := fld_inv hb p1 o1
  rw [p3, f3]
  rw [f3] at p2
  refine ⟨a, xs, rfl, rfl, f4, f2, ?_⟩
  have hbt := bytesOf_textOf f2
  have hsz : (textOf xs).size = xs.length := by rw [← bytesOf_len, hbt]
  unfold textE
  rw [hmany _ (by rw [hsz]; omega) (by rw [hsz]; omega), if_neg (by simp), hbt, p2]; rfl
 by_cases s5 : f.sort = 5
 ·simp only [if_pos s5] at h ⊢
  obtain ⟨a, xs, rfl, t1, t2, t3, t4⟩ := htext _ rfl (q5 s5).1 h
  rw [t1]
  have hbt := bytesOf_textOf t3
  have hp : partB { m with t := textOf xs } f = putOne xs.length ++ xs := by
   unfold partB; rw [if_neg s1, if_neg s2, if_neg s3, if_neg s4, if_pos s5, putAll_one]; simp only [hbt]
  simp only [hp]
  refine ⟨a, rfl, rfl, t2, ?_, ?_⟩
  ·rw [← hwe]
   unfold wrongE
   rw [if_neg s3, if_neg s4, if_pos s5]; exact t4
  ·unfold setF; rw [if_neg s1, if_neg s2, if_neg s3, if_neg s4, if_pos s5]
 ·have s6 : f.sort = 6 := by rcases h3 with ⟨_, z⟩ | ⟨z, _⟩ <;> omega
  simp only [if_neg s5] at h ⊢
  obtain ⟨a, xs, rfl, t1, t2, t3, t4⟩ := htext _ rfl (q6 s6).1 h
  rw [t1]
  have hbt := bytesOf_textOf t3
  have hp : partB { m with g := textOf xs } f = putOne xs.length ++ xs := by
   unfold partB; rw [if_neg s1, if_neg s2, if_neg s3, if_neg s4, if_neg s5, putAll_one]; simp only [hbt]
  simp only [hp]
  refine ⟨a, rfl, rfl, t2, ?_, ?_⟩
  ·rw [← hwe]
   unfold wrongE
   rw [if_neg s3, if_neg s4, if_neg s5, if_pos s6]; exact t4
  ·unfold setF; rw [if_neg s1, if_neg s2, if_neg s3, if_neg s4, if_neg s5]
theorem num_apart {m x : Mg} {f g : Fld} (hf : f.ok3) (hg : g.ok3) (h : g.apart f = true) (y : Mg) : setF y (setF m x g) f = setF y m f := by
 have hplace : ∀ f : Fld, f.ok3 → f.sort = 1 ∨ f.sort = 2 → f.place = 0 ∨ f.place = 1 ∨ f.place = 2 ∨ f.place = 3 ∨ f.place = 4 ∨ f.place = 5 := fun f hf hs => by
  rcases hf with ⟨_, z⟩ | ⟨_, z⟩
  ·omega
  ·exact z
 have hset : ∀ z : Mg, (∀ (hs : f.sort = 1 ∨ f.sort = 2), z.num f.place = m.num f.place) → (f.sort = 3 → z.p = m.p) → (f.sort = 4 → z.c = m.c) → (f.sort = 5 → z.t = m.t) → (f.sort ≠ 1 → f.sort ≠ 2 → f.sort ≠ 3 → f.sort ≠ 4 → f.sort ≠ 5 → z.g = m.g) → setF y z f = setF y m f := fun z a1 a3 a4 a5 a6 => by
  unfold setF
  by_cases s1 : f.sort = 1
  ·rw [if_pos s1, if_pos s1, a1 (.inl s1)]
  by_cases s2 : f.sort = 2
  ·rw [if_neg s1, if_neg s1, if_pos s2, if_pos s2, a1 (.inr s2)]
  by_cases s3 : f.sort = 3
  ·rw [if_neg s1, if_neg s1, if_neg s2, if_neg s2, if_pos s3, if_pos s3, a3 s3]
  by_cases s4 : f.sort = 4
  ·rw [if_neg s1, if_neg s1, if_neg s2, if_neg s2, if_neg s3, if_neg s3, if_pos s4, if_pos s4, a4 s4]
  by_cases s5 : f.sort = 5
  ·rw [if_neg s1, if_neg s1, if_neg s2, if_neg s2, if_neg s3, if_neg s3, if_neg s4, if_neg s4, if_pos s5, if_pos s5, a5 s5]
  ·rw [if_neg s1, if_neg s1, if_neg s2, if_neg s2, if_neg s3, if_neg s3, if_neg s4, if_neg s4, if_neg s5, if_neg s5, a6 s1 s2 s3 s4 s5]
 unfold Fld.apart at h
 by_cases g12 : g.sort = 1 ∨ g.sort = 2
 ·have hs0 : setF m x g = m.put g.place (x.num g.place) := by
   unfold setF
   by_cases g1 : g.sort = 1
   ·rw [if_pos g1]
   ·rw [if_neg g1, if_pos (by omega)]
  rw [hs0]
  obtain ⟨r0, r1, r2, r3, r4⟩ := put_rest m g.place (x.num g.place)
  refine hset _ (fun hs => ?_) (fun _ => r1) (fun _ => r2) (fun _ => r3) (fun _ _ _ _ _ => r4)
  rw [if_pos g12, if_pos hs] at h
  have := of_decide_eq_true h
  exact put_num_ne m (hplace f hf hs) (hplace g hg g12) (fun e => this e.symm) _
 ·rw [if_neg g12] at h
  have hne := of_decide_eq_true h
  have hs0 : setF m x g = (if g.sort = 3 then { m with p := x.p } else if g.sort = 4 then { m with c := x.c } else if g.sort = 5 then { m with t := x.t } else { m with g := x.g }) := by
   rw [setF, if_neg (by omega), if_neg (by omega)]
  rw [hs0]
  have g6 : g.sort = 3 ∨ g.sort = 4 ∨ g.sort = 5 ∨ g.sort = 6 := by rcases hg with ⟨_, z⟩ | ⟨z, _⟩ <;> omega
  by_cases g3 : g.sort = 3
  ·rw [if_pos g3]; exact hset _ (fun _ => rfl) (fun e => by omega) (fun _ => rfl) (fun _ => rfl) (fun _ _ _ _ _ => rfl)
  rw [if_neg g3]
  by_cases g4 : g.sort = 4
  ·rw [if_pos g4]; exact hset _ (fun _ => rfl) (fun _ => rfl) (fun e => by omega) (fun _ => rfl) (fun _ _ _ _ _ => rfl)
  rw [if_neg g4]
  by_cases g5 : g.sort = 5
  ·rw [if_pos g5]; exact hset _ (fun _ => rfl) (fun _ => rfl) (fun _ => rfl) (fun e => by omega) (fun _ _ _ _ _ => rfl)
  rw [if_neg g5]
  have f6 : f.sort = 1 ∨ f.sort = 2 ∨ f.sort = 3 ∨ f.sort = 4 ∨ f.sort = 5 ∨ f.sort = 6 := by rcases hf with ⟨_, z⟩ | ⟨z, _⟩ <;> omega
  exact hset _ (fun _ => rfl) (fun _ => rfl) (fun _ => rfl) (fun _ => rfl) (fun _ _ _ _ _ => by omega)
theorem setAll_apart {m x m0 : Mg} {g : Fld} (hg : g.ok3) : ∀ (L : List Fld) (y : Mg), (∀ f ∈ L, f.ok3 ∧ g.apart f = true) → setAll y (setF m x g) L = setAll y m L
 | [], _, _ => rfl
 | f :: L, y, h => by
  obtain ⟨h1, h2⟩ := h f (List.mem_cons_self ..)
  have ih := setAll_apart (m := m) (x := x) (m0 := m0) hg L (setF y m f) fun z hz => h z (List.mem_cons_of_mem _ hz)
  unfold setAll at *
  rw [List.foldl_cons, List.foldl_cons, num_apart h1 hg h2]
  exact ih
theorem bodyB_apart {m x : Mg} {g : Fld} (hg : g.ok3) : ∀ (L : List Fld), (∀ f ∈ L, f.ok3 ∧ g.apart f = true) → bodyB (setF m x g) L = bodyB m L
 | [], _ => rfl
 | f :: L, h => by
  obtain ⟨h1, h2⟩ := h f (List.mem_cons_self ..)
  have ih := bodyB_apart (m := m) (x := x) hg L fun z hz => h z (List.mem_cons_of_mem _ hz)
  unfold bodyB at *
  rw [List.flatMap_cons, List.flatMap_cons, (set_apart h1 hg h2).1, ih]
theorem vf_apart {k v : Int} {j : Nat} (hj : j < (versionFields k v).length) : ∀ f ∈ (versionFields k v).take j, f.ok3 ∧ ((versionFields k v).getD j fld0).apart f = true := fun f hf => by
 have hp : (versionFields k v).Pairwise (fun f g => g.apart f = true) := (apart_all k).filter _
 obtain ⟨i, hi, rfl⟩ := List.mem_iff_getElem.1 hf
 rw [List.length_take] at hi
 have h1 := List.pairwise_iff_getElem.1 hp i j (by omega) hj (by omega)
 rw [List.getElem_take]
 refine ⟨fieldsOf_ok3 _ (List.mem_filter.1 (List.getElem_mem _)).1, ?_⟩
 rw [List.getD_eq_getElem?_getD, List.getElem?_eq_getElem hj]
 exact h1
theorem stS_inv {ys : List Nat} (hb : ∀ b ∈ ys, b < 256) {k v : Int} {m0 : Mg} (h : ∀ j, j < (versionFields k v).length → (stS ys (versionFields k v) m0 (j + 1)).2.err = 0) : ∀ j, j ≤ (versionFields k v).length →
  (stS ys (versionFields k v) m0 j).2 = at0 (bodyB (stS ys (versionFields k v) m0 j).1 ((versionFields k v).take j)).length ∧
  ys = bodyB (stS ys (versionFields k v) m0 j).1 ((versionFields k v).take j) ++ ys.drop (bodyB (stS ys (versionFields k v) m0 j).1 ((versionFields k v).take j)).length ∧
  (∀ f ∈ (versionFields k v).take j, rwrongE (stS ys (versionFields k v) m0 j).1 f = 0) ∧ (stS ys (versionFields k v) m0 j).1 = setAll m0 (stS ys (versionFields k v) m0 j).1 ((versionFields k v).take j)
 | 0, _ => ⟨rfl, by simp [bodyB], by simp, rfl⟩
 | j + 1, hj => by
  obtain ⟨i1, i2, i3, i4⟩ := stS_inv hb h j (by omega)
  have he := h j (by omega)
  have hap := vf_apart (k := k) (v := v) (show j < _ by omega)
  have hmem := getD_mem (show j < (versionFields k v).length by omega)
  have hfk : (versionFields k v).getD j fld0 ∈ fieldsOf k := (List.mem_filter.1 hmem).1
  have htk : (versionFields k v).take (j + 1) = (versionFields k v).take j ++ [(versionFields k v).getD j fld0] := by
   rw [List.take_add_one]; simp [show j < (versionFields k v).length by omega]
  rw [stS] at he ⊢
  generalize stS ys (versionFields k v) m0 j = S at *
  generalize (versionFields k v).getD j fld0 = f at *
  obtain ⟨a, a1, a2, a3, a4, a5⟩ := field_inv hb hfk he
  have hok := fieldsOf_ok3 f hfk
  have ha : (bodyB S.1 ((versionFields k v).take j)).length = a := by rw [i1] at a1; exact congrArg RD.a a1
  generalize hM : (S.2.field ys S.1 f).1 = M at *
  have e1 : bodyB M ((versionFields k v).take j) = bodyB S.1 ((versionFields k v).take j) := by rw [a5]; exact bodyB_apart hok _ hap
  have e2 : bodyB M ((versionFields k v).take (j + 1)) = bodyB S.1 ((versionFields k v).take j) ++ partB M f := by
   rw [htk]
   unfold bodyB at e1 ⊢
   rw [List.flatMap_append, e1]; simp
  rw [e2, List.length_append, ha]
  refine ⟨a2, ?_, ?_, ?_⟩
  ·rw [ha] at i2
   conv => lhs; rw [i2, a3]
   rw [List.append_assoc]
  ·intro g hg
   rw [htk] at hg
   rcases List.mem_append.1 hg with hg | hg
   ·have := hap g hg
    rw [a5, (set_apart this.1 hok this.2).2]; exact i3 g hg
   ·rw [List.mem_singleton.1 hg]; exact a4
  ·rw [htk]
   have : setAll m0 M ((versionFields k v).take j) = S.1 := by
    conv => rhs; rw [i4]
    rw [a5]
    exact setAll_apart (m0 := m0) hok _ _ hap
   unfold setAll at this ⊢
   rw [List.foldl_append, this]
   exact a5
theorem dec_inv {k v : Int} {ys : List Nat} (hb : ∀ b ∈ ys, b < 256) (h : (decM k v ys).2 = 0) : (v = 1 ∨ v = 2) ∧ fieldsOf k ≠ [] ∧ ∃ M : Mg, (decM k v ys).1 = projectM M v ∧ ys = bodyB M (versionFields k v) ∧ (∀ f ∈ versionFields k v, rwrongE M f = 0) ∧ M = setAll { mg0 with k := k } M (versionFields k v) := by
 unfold decM at h ⊢
 by_cases hv : v ≠ 1 ∧ v ≠ 2
 ·rw [if_pos hv] at h; cases h
 rw [if_neg hv] at h ⊢
 by_cases hf : fieldsOf k = []
 ·rw [if_pos hf] at h; cases h
 rw [if_neg hf] at h ⊢
 refine ⟨by omega, hf, ?_⟩
 generalize hm0 : ({ mg0 with k := k } : Mg) = m0 at *
 by_cases he : (lastS ys (versionFields k v) m0).2.err ≠ 0
 ·rw [if_pos he] at h; exact absurd h he
 rw [if_neg he] at h ⊢
 have he : (lastS ys (versionFields k v) m0).2.err = 0 := by omega
 obtain ⟨h1, h2⟩ := last_zero he
 obtain ⟨i1, i2, i3, i4⟩ := stS_inv hb h1 _ (Nat.le_refl _)
 rw [List.take_length, ← h2] at i1 i2 i3 i4
 by_cases ha : (lastS ys (versionFields k v) m0).2.a < ys.length
 ·rw [if_pos ha] at h; cases h
 rw [if_neg ha]
 refine ⟨_, rfl, ?_, i3, i4⟩
 rw [i1] at ha
 have ha' : ¬ (bodyB (lastS ys (versionFields k v) m0).1 (versionFields k v)).length < ys.length := ha
 rw [List.drop_eq_nil_of_le (by omega), List.append_nil] at i2
 exact i2
set_option maxRecDepth 10000 in
set_option maxHeartbeats 8000000 in
/-- What is decoded is right, and encoded to just these bytes. -/
theorem dec_right {k v : Int} {ys : List Nat} (hb : ∀ b ∈ ys, b < 256) (h : (decM k v ys).2 = 0) : (decM k v ys).1.k = k ∧ (v = 1 ∨ v = 2) ∧ checkM (decM k v ys).1 = 0 ∧ encB (decM k v ys).1 v = ys ∧ projectM (decM k v ys).1 v = (decM k v ys).1 := by
 obtain ⟨hv, hf, M, h1, h2, h3, h4⟩ := dec_inv hb h
 rw [h1]
 have hk : k = 1 ∨ k = 2 ∨ k = 3 ∨ k = 4 ∨ k = 5 := Classical.byContradiction fun hh => hf (by
  unfold fieldsOf
  rw [if_neg (by omega), if_neg (by omega), if_neg (by omega), if_neg (by omega), if_neg (by omega)])
 have key : (projectM M v).k = k ∧ checkM (projectM M v) = 0 ∧ bodyB (projectM M v) (versionFields k v) = bodyB M (versionFields k v) := by
  clear h h1 h2 hf
  rcases hv with rfl | rfl
  ·rw [checkM_zero, projectM_k]
   have he := projectM_one M
   generalize projectM M 1 = y at *
   obtain ⟨k', n0, n1, n2, n3, n4, n5, p, c, t, g⟩ := M
   rcases hk with rfl | rfl | rfl | rfl | rfl <;>
   ·simp [versionFields, fieldsOf, setAll, setF, Mg.put, Mg.num, mg0, fRobot] at h4
    obtain ⟨rfl, h4⟩ := h4
    simp at he
    subst he
    simp [versionFields, fieldsOf, fRobot, rwrongE, Mg.num, rtextE] at h3
    simp [versionFields, fieldsOf, fRobot, withoutM, Mg.put, mg0, rwrongE, Mg.num, rtextE, empty_any, empty_size, h3, h4, bodyB, partB]
  ·rw [projectM_ne (by omega), checkM_zero]
   rw [vf_two] at h3 h4
   obtain ⟨k', n0, n1, n2, n3, n4, n5, p, c, t, g⟩ := M
   rcases hk with rfl | rfl | rfl | rfl | rfl <;>
   ·simp [fieldsOf, setAll, setF, Mg.put, Mg.num, mg0, fRobot] at h4
    obtain ⟨rfl, h4⟩ := h4
    refine ⟨rfl, ⟨by simp [fieldsOf], h3, ?_⟩, rfl⟩
    simp [fieldsOf, fRobot, withoutM, Mg.put, mg0, h4]
 obtain ⟨a1, a2, a3⟩ := key
 refine ⟨a1, hv, a2, ?_, proj_proj M v⟩
 rw [encB_eq a2 hv, a1, a3, ← h2]
theorem far_ok (H : AHeap) (n : Int) (Q : AVal → AHeap → Prop) (h : Q (.bool (decide (n < -1000000 ∨ 1000000 < n))) H) : FunOK Try.prog F.cuneiformref18_far [.int .i64 n] H Q := by
 refine fun_V 60 cuneiformref18_far_code rfl ?_
 by_cases h1 : n < -1000000
 ·rw [decide_eq_true (.inl h1)] at h
  have hd : decide (n < -1000000) = true := decide_eq_true h1
  simp (disch := first | omega | (simp only [lnx]; omega)) only [stdh, stdx, ↓reduceIte, seval, cuneiformref18_far, cuneiformref18_far.body, hd, Int.reduceNeg]
  exact h
 ·have hd : decide (n < -1000000) = false := decide_eq_false h1
  by_cases h2 : 1000000 < n
  ·rw [decide_eq_true (.inr h2)] at h
   have hd2 : decide (1000000 < n) = true := decide_eq_true h2
   simp (disch := first | omega | (simp only [lnx]; omega)) only [stdh, stdx, ↓reduceIte, seval, cuneiformref18_far, cuneiformref18_far.body, hd, hd2, Int.reduceNeg]
   exact h
  ·rw [decide_eq_false (by omega)] at h
   have hd2 : decide (1000000 < n) = false := decide_eq_false h2
   simp (disch := first | omega | (simp only [lnx]; omega)) only [stdh, stdx, ↓reduceIte, seval, cuneiformref18_far, cuneiformref18_far.body, hd, hd2, Int.reduceNeg]
   exact h
abbrev rcC : Ctx := ⟨F.cuneiformref18_cells, 61, [.cell 8 (some 11), .tmp 9, .tmp 10], none⟩
def encMc (m : Mg) (pv cv : AVal) : List AVal := [.int .i64 m.k, .int .i64 m.n0, .int .i64 m.n1, .int .i64 m.n2, .int .i64 m.n3, .int .i64 m.n4, .int .i64 m.n5, pv, cv, .str m.t, .str m.g]
theorem intsA {H : AHeap} {n : Nat} {cv : AVal} {xs : List Int} (hn : H[n]? = some (.vec [] T.int 1)) (hv : IntsV H cv xs) (hx : xs.length ≤ 1000000) : appendA H T.int 1 8 (.slc n 0 0 1) cv = some (True, .slc H.length 0 xs.length 1, H.set n .dead ++ [.vec (xs.map (AVal.int .i64)) T.int 1]) := by
 have ho : Own 1 T.int 0 H (.slc n 0 0 1) 0 [] := ⟨rfl, .inr ⟨n, Nat.zero_le _, rfl, hn⟩⟩
 have hs1 : srcLen cv = some xs.length := by rw [← hv.len]; cases cv <;> first | rfl | (exact absurd hv.len (by simp [slen]))
 have hs2 : srcCells H cv = some (xs.map (AVal.int .i64)) := by
  have h2 := hv.view
  cases cv <;> first | exact h2 | (exact absurd hv.len (by simp [slen]))
 obtain ⟨p, a1, hp⟩ := Own.append3 ho (x := cv) (k := xs.length) (ys := xs.map (AVal.int .i64)) 8 hs1 hs2 (by simp) (by omega) (by omega) (by omega) (by simp [AVal.cellish])
 rw [a1, eq_true hp, Nat.zero_add]; rfl
theorem intsB {H : AHeap} {n k : Nat} {xs : List Int} {c : Int} (hn : H[n]? = some (.vec (xs.map (AVal.int .i64)) T.int 1)) (hk : H[k]? = some (.vec [.int .i64 c] T.int 1)) (hx : xs.length ≤ 1000000) : appendA H T.int 1 8 (.slc n 0 xs.length 1) (.slc k 0 1 1) = some (True, .slc H.length 0 (xs.length + 1) 1, H.set n .dead ++ [.vec ((xs ++ [c]).map (AVal.int .i64)) T.int 1]) := by
 have ho : Own 1 T.int 0 H (.slc n 0 xs.length 1) xs.length (xs.map (AVal.int .i64)) := ⟨by simp, .inr ⟨n, Nat.zero_le _, rfl, hn⟩⟩
 obtain ⟨p, a1, hp⟩ := Own.append3 ho (x := .slc k 0 1 1) (k := 1) (ys := [.int .i64 c]) 8 rfl (by simp [srcCells, view, hk, content]) rfl (by omega) (by omega) (by omega) rfl
 rw [a1, eq_true hp, show xs.map (AVal.int .i64) ++ [AVal.int .i64 c] = (xs ++ [c]).map (AVal.int .i64) by simp]; rfl
theorem ice_tagg {H H' : AHeap} {Q : AVal → AHeap → Prop} (l : List (AVal × AVal)) (a b : Int) (hk : Keeps H H') (hf : ∀ p ∈ l, Fin H H' p.1 p.2) (hq : Q (.tup [.agg (l.map (·.2)), .int .i64 a, .int .i64 b]) H) : IceQ H Q (.tup [.agg (l.map (·.1)), .int .i64 a, .int .i64 b]) H' := by
 obtain ⟨_, is, av, h1, h2, h3⟩ := ice_agg (Q := fun av _ => av = .agg (l.map (·.2))) l hk hf rfl
 subst h3
 refine ⟨hk, is, .tup [.agg (l.map (·.2)), .int .i64 a, .int .i64 b], h1, ?_, hq⟩
 rw [mv, mvs, mvs, mvs, mvs, show mv _ (.int .i64 a) = .int .i64 a from rfl, show mv _ (.int .i64 b) = .int .i64 b from rfl]
 exact Sees.tup (.cons h2 (.cons (.refl _) (.cons (.refl _) .nil)))
def ShowI (B : Nat) (H : AHeap) (cv : AVal) (xs : List Int) : Prop := cv = ints false xs ∨ Own 1 T.int B H cv xs.length (xs.map (AVal.int .i64))
theorem ShowI.v {B : Nat} {H : AHeap} {cv : AVal} {xs : List Int} (h : ShowI B H cv xs) : IntsV H cv xs := by
 rcases h with rfl | h
 ·exact ⟨by simp [ints, slen], by simp [ints, view]⟩
 ·exact ⟨h.slen, h.view⟩
theorem ShowI.cell {B : Nat} {H : AHeap} {cv : AVal} {xs : List Int} (h : ShowI B H cv xs) : cv.cells = [cv] ∧ cv.cellish = true := by
 rcases h with rfl | h
 ·exact ⟨rfl, rfl⟩
 ·exact h.cell
theorem ShowI.moved {B : Nat} {H H' : AHeap} {cv : AVal} {xs : List Int} (h : ShowI B H cv xs) (hk : ∀ m ∈ cv.names, H'[m]? = H[m]?) : ShowI B H' cv xs := by
 rcases h with rfl | h
 ·exact .inl rfl
 ·exact .inr (h.moved hk)
theorem ShowI.ne {B : Nat} {H : AHeap} {cv : AVal} {xs : List Int} (h : ShowI B H cv xs) {c : Nat} {l : List AVal} {T : TypeId} (hc : H[c]? = some (.cells l T)) : c ∉ cv.names := by
 rcases h with rfl | h
 ·intro hh; cases hh
 ·exact fun hh => h.ne hc hh
theorem ShowI.fin {H H' : AHeap} {cv : AVal} {xs : List Int} (h : ShowI H.length H' cv xs) : Fin H H' cv (ints false xs) := by
 rcases h with rfl | h
 ·exact Fin.same (closed_ints _ _)
 ·exact Fin.own h (closed_ints false xs)
theorem ShowI.set {B : Nat} {H : AHeap} {cv : AVal} {xs : List Int} (h : ShowI B H cv xs) {c : Nat} {l : List AVal} {T : TypeId} (hc : H[c]? = some (.cells l T)) (b : ABlk) : ShowI B (H.set c b) cv xs :=
 h.moved fun x hx => by
  rw [List.getElem?_set_ne]
  intro hh; subst hh; exact h.ne hc hx
theorem ice_msgc {H H' : AHeap} {Q : AVal → AHeap → Prop} {m : Mg} {cv pv : AVal} {xs : List Int} (hpv : pv = recs encP false m.p) (a b : Int) (hk : Keeps H H') (hsh : ShowI H.length H' cv xs) (hq : Q (.tup [.agg (encM { m with c := xs }), .int .i64 a, .int .i64 b]) H) : IceQ H Q (.tup [.agg [.int .i64 m.k, .int .i64 m.n0, .int .i64 m.n1, .int .i64 m.n2, .int .i64 m.n3, .int .i64 m.n4, .int .i64 m.n5, pv, cv, .str m.t, .str m.g], .int .i64 a, .int .i64 b]) H' := by
 subst hpv
 refine ice_tagg [(.int .i64 m.k, .int .i64 m.k), (.int .i64 m.n0, .int .i64 m.n0), (.int .i64 m.n1, .int .i64 m.n1), (.int .i64 m.n2, .int .i64 m.n2), (.int .i64 m.n3, .int .i64 m.n3), (.int .i64 m.n4, .int .i64 m.n4), (.int .i64 m.n5, .int .i64 m.n5), (recs encP false m.p, recs encP false m.p), (cv, ints false xs), (.str m.t, .str m.t), (.str m.g, .str m.g)] _ _ hk ?_ hq
 intro q hq
 simp only [List.mem_cons, List.not_mem_nil, or_false] at hq
 rcases hq with rfl | rfl | rfl | rfl | rfl | rfl | rfl | rfl | rfl | rfl | rfl
 all_goals first | exact Fin.same trivial | exact Fin.same (closed_pts _ _) | exact hsh.fin
abbrev bare17 : ABlk := .cells [.int .i64 0, .int .i64 0, .int .i64 0, .int .i64 0, .int .i64 0, .int .i64 0, .int .i64 0, .nils, .nils, .str ⟨#[]⟩, .str ⟨#[]⟩] T.cuneiformref17_M
set_option maxRecDepth 10000 in
set_option maxHeartbeats 8000000 in
theorem rc18_loop {ys : List Nat} (hb : ∀ b ∈ ys, b < 256) (hlen : ys.length ≤ 1000000) {m : Mg} {pv : AVal} (hpv : pv = recs encP false m.p) (hpc : pv.cells = [pv] ∧ pv.cellish = true) {n : Nat} (hn : n ≤ 1000) {H0 : AHeap} {tt : Bool} {Lf : List Int} {sf : RD} (hLf : Lf.length ≤ 10000) (K : List AItem) (Q : AVal → AHeap → Prop)
  (hok : sf.err = 0 → ∀ r H cv, Keeps H0 H → H[H0.length]? = some (.cells (encMc m pv cv) T.cuneiformref17_M) → H[H0.length + 1]? = some bare17 → ShowI H0.length H cv Lf → rget r 3 = .int .i64 (sf.a : Nat) → rget r 4 = .ptr H0.length 0 → rget r 8 = .ptr (H0.length + 1) 0 → Run Try.prog rcC K r H (IceQ H0 Q))
  (herr : sf.err ≠ 0 → ∀ (m' : Mg) (a' : Nat), Q (.tup [.agg (encM m'), .int .i64 (a' : Nat), .int .i64 (sf.err : Nat)]) H0) :
  ∀ (z i a : Nat) (last : Int) (H : AHeap) (cv : AVal) (xs : List Int), n - i = z → i ≤ n → a ≤ ys.length → -1 ≤ last → last ≤ 65535 → xs.length ≤ 10000 → Keeps H0 H → H[H0.length]? = some (.cells (encMc m pv cv) T.cuneiformref17_M) → H[H0.length + 1]? = some bare17 → ShowI H0.length H cv xs →
  (xs ++ (RD.cls ys (n - i) last (at0 a)).1, (RD.cls ys (n - i) last (at0 a)).2) = (Lf, sf) →
  Rounds Try.prog rcC cuneiformref18_cells.b0 [.inBlock 0] K [(1, .int .i64 (n : Nat)), (2, nums .u8 tt ys), (3, .int .i64 (a : Nat)), (4, .ptr H0.length 0), (8, .ptr (H0.length + 1) 0), (11, .int .i64 last), (12, .int .i64 (i : Nat))] H (IceQ H0 Q)
 | z, i, a, last, H, cv, xs, h1, h2, ha, hl1, hl2, hxl, hk, e0, e1, hsh, hres => by
  have hlt : H0.length + 1 < H.length := (List.getElem?_eq_some_iff.1 e1).1
  have e0' : H[H0.length]? = some (ABlk.cells [.int .i64 m.k, .int .i64 m.n0, .int .i64 m.n1, .int .i64 m.n2, .int .i64 m.n3, .int .i64 m.n4, .int .i64 m.n5, pv, cv, .str m.t, .str m.g] T.cuneiformref17_M) := e0
  have e1' : H[H0.length + 1]? = some (ABlk.cells [.int .i64 0, .int .i64 0, .int .i64 0, .int .i64 0, .int .i64 0, .int .i64 0, .int .i64 0, .nils, .nils, .str ⟨#[]⟩, .str ⟨#[]⟩] T.cuneiformref17_M) := e1
  have hc := hsh.cell
  refine loop_V 100 cuneiformref18_cells.b0.eq_1 ?_
  by_cases hi : i < n
  ·obtain ⟨w, hw⟩ : ∃ w, n - i = w + 1 := ⟨n - i - 1, by omega⟩
   rw [hw, RD.cls] at hres
   simp (disch := first | omega | (simp only [lnx]; omega)) only [stdh, stdx, ↓reduceIte, seval]
   refine callK_fn (rget_ok _ (nums_nats .u8 tt ys _) hb (by omega) ha _ ?_)
   refine runL_V 100 ?_
   have hnum : (at0 a).num ys 65535 = if (getSpec (ys.drop a)).2.2 ≠ 0 then (0, ⟨a, (getSpec (ys.drop a)).2.2, 0⟩) else if 65535 < (getSpec (ys.drop a)).1 then (0, ⟨a, 5, 0⟩) else ((getSpec (ys.drop a)).1, at0 (a + (getSpec (ys.drop a)).2.1)) := by
    unfold RD.num lensR numSpec
    simp only [ne_eq, not_true_eq_false, if_false]
    by_cases g : (getSpec (ys.drop a)).2.2 = 0
    ·by_cases g2 : 65535 < (getSpec (ys.drop a)).1
     ·simp [g, g2]
     ·simp [g, g2]
    ·simp [g]
   have hgf := fun h => getSpec_facts (bs := ys.drop a) h
   rw [List.length_drop] at hgf
   generalize (getSpec (ys.drop a)).1 = zz at *
   generalize (getSpec (ys.drop a)).2.1 = kk at *
   generalize (getSpec (ys.drop a)).2.2 = ee at *
   by_cases hee : ee = 0
   ·subst hee
    rw [if_neg (by simp)] at hnum
    obtain ⟨g1, g2, g3⟩ := hgf rfl
    by_cases hz : 65535 < zz
    ·rw [if_pos hz] at hnum
     have hd2 : decide ((65535 : Int) < (zz : Int)) = true := decide_eq_true (by omega)
     rw [hnum] at hres
     have hne : RD.err ⟨a, 5, 0⟩ ≠ 0 := by rw [show RD.err ⟨a, 5, 0⟩ = 5 from rfl]; omega
     rw [note_err _ _ _ hne, if_neg hne] at hres
     obtain ⟨_, rfl⟩ := Prod.mk.inj hres
     have hq : Q (.tup [.agg (encM { m with c := xs }), .int .i64 (a : Nat), .int .i64 5]) H0 := herr hne { m with c := xs } a
     simp (disch := first | omega | (simp only [lnx]; omega)) only [stdh, stdx, ↓reduceIte, seval, hd2, e0', e1', hc.1, hc.2, hpc.1, hpc.2, List.getElem?_set_self]
     exact ice_msgc hpv _ _ (hk.set (n := H0.length + 1) (by omega) _) (hsh.set e1 _) hq
    ·rw [if_neg hz] at hnum
     have hd2 : decide ((65535 : Int) < (zz : Int)) = false := decide_eq_false (by omega)
     have hwz : IntKind.i64.wrap (zz : Int) = (zz : Int) := wrap_i64 (by omega)
     rw [hnum] at hres
     by_cases hq5 : 65535 < last + ((zz : Int) + 1)
     ·have hd3 : decide ((65535 : Int) < last + 1 + (zz : Int)) = true := decide_eq_true (by omega)
      have hnn : (at0 (a + kk)).note (decide (65535 < last + ((zz : Int) + 1))) 5 = ⟨a + kk, 0, 5⟩ := by rw [decide_eq_true hq5]; rfl
      have hne : RD.err ⟨a + kk, 0, 5⟩ ≠ 0 := by rw [show RD.err ⟨a + kk, 0, 5⟩ = 5 from rfl]; omega
      simp only at hres
      rw [hnn, if_neg hne] at hres
      obtain ⟨_, rfl⟩ := Prod.mk.inj hres
      have hq : Q (.tup [.agg (encM { m with c := xs }), .int .i64 (a : Nat), .int .i64 5]) H0 := herr hne { m with c := xs } a
      simp (disch := first | omega | (simp only [lnx]; omega)) only [stdh, stdx, ↓reduceIte, seval, hd2, hd3, hwz, e0', e1', hc.1, hc.2, hpc.1, hpc.2, List.getElem?_set_self]
      exact ice_msgc hpv _ _ (hk.set (n := H0.length + 1) (by omega) _) (hsh.set e1 _) hq
     ·have hd3 : decide ((65535 : Int) < last + 1 + (zz : Int)) = false := decide_eq_false (by omega)
      have hnn : (at0 (a + kk)).note (decide (65535 < last + ((zz : Int) + 1))) 5 = at0 (a + kk) := note_none _ _ (decide_eq_false hq5)
      simp only at hres
      rw [hnn, if_pos (at0_err _)] at hres
      simp (disch := first | omega | (simp only [lnx]; omega)) only [stdh, stdx, ↓reduceIte, seval, hd2, hd3, hwz, e0', e1', hc.1, hc.2, hpc.1, hpc.2, List.getElem?_set_self, at_low, at_0]
      rw [intsA at_0 (hsh.v.keep (keeps_append _ _)) (by omega)]
      simp (disch := first | omega | (simp only [lnx]; omega)) only [stdh, stdx, ↓reduceIte, seval, e0', e1', hc.1, hc.2, hpc.1, hpc.2, List.getElem?_set_self, at_low, at_0, at_k]
      rw [intsB (n := H.length + 1) (k := H.length + 2) at_k at_k (by omega)]
      simp (disch := first | omega | (simp only [lnx]; omega)) only [stdh, stdx, ↓reduceIte, seval, e0', e1', hc.1, hc.2, hpc.1, hpc.2, List.getElem?_set_self, at_low, at_0, at_k]
      rw [show (i : Int) + 1 = ((i + 1 : Nat) : Int) by omega]
      refine rc18_loop hb hlen hpv hpc hn hLf K Q hok herr _ (i + 1) (a + kk) (last + 1 + (zz : Int)) _ (.slc (H.length + 3) 0 (xs.length + 1) 1) (xs ++ [last + 1 + (zz : Int)]) rfl (by omega) (by omega) (by omega) (by omega) (by have := congrArg List.length (Prod.mk.inj hres).1; simp only [List.length_append, List.length_cons, List.length_nil] at this ⊢; omega) ((hk.trans (keeps_append _ _)).set (Nat.le_refl _) _) ?_ ?_ (.inr ⟨by simp, .inr ⟨H.length + 3, by omega, by simp, ?_⟩⟩) ?_
      ·rw [List.getElem?_set_self (by simp; omega)]; rfl
      ·rw [List.getElem?_set_ne (by omega), at_low hlt]; exact e1
      ·rw [List.getElem?_set_ne (by omega)]; exact at_k
      ·rw [show n - (i + 1) = w by omega, ← hres, show last + ((zz : Int) + 1) = last + 1 + (zz : Int) by omega]
       simp
   ·rw [if_pos hee] at hnum
    have hd : decide ((ee : Int) = 0) = false := decide_eq_false (by omega)
    rw [hnum] at hres
    have hne : RD.err ⟨a, ee, 0⟩ ≠ 0 := by unfold RD.err; rw [if_pos rfl]; exact hee
    rw [note_err _ _ _ hne, if_neg hne] at hres
    obtain ⟨_, rfl⟩ := Prod.mk.inj hres
    have hq := herr hne { m with c := xs } a
    rw [show RD.err ⟨a, ee, 0⟩ = ee from rfl] at hq
    simp (disch := first | omega | (simp only [lnx]; omega)) only [stdh, stdx, ↓reduceIte, seval, hd, e0', e1', hc.1, hc.2, hpc.1, hpc.2, List.getElem?_set_self]
    exact ice_msgc hpv _ _ (hk.set (n := H0.length + 1) (by omega) _) (hsh.set e1 _) hq
  ·have : i = n := by omega
   subst this
   rw [Nat.sub_self, RD.cls] at hres
   obtain ⟨h3, rfl⟩ := Prod.mk.inj hres
   simp only [List.append_nil] at h3
   subst h3
   simp (disch := first | omega | (simp only [lnx]; omega)) only [stdh, stdx, ↓reduceIte, seval]
   exact hok rfl _ H cv hk e0 e1 hsh rfl rfl rfl
 termination_by z => z
set_option maxRecDepth 10000 in
set_option maxHeartbeats 8000000 in
/-- The document's cells: what was read, or what is wrong. -/
theorem rcells18_ok (H : AHeap) {ys : List Nat} (hb : ∀ b ∈ ys, b < 256) (hlen : ys.length ≤ 1000000) {m : Mg} (hc0 : m.c = []) {n a : Nat} (hn : n ≤ 1000) (ha : a ≤ ys.length) {tt : Bool} (Q : AVal → AHeap → Prop)
  (hok : (RD.cls ys n (-1) (at0 a)).2.err = 0 → Q (.tup [.agg (encM { m with c := (RD.cls ys n (-1) (at0 a)).1 }), .int .i64 ((RD.cls ys n (-1) (at0 a)).2.a : Nat), .int .i64 0]) H)
  (herr : (RD.cls ys n (-1) (at0 a)).2.err ≠ 0 → ∀ (m' : Mg) (a' : Nat), Q (.tup [.agg (encM m'), .int .i64 (a' : Nat), .int .i64 ((RD.cls ys n (-1) (at0 a)).2.err : Nat)]) H) :
  FunOK Try.prog F.cuneiformref18_cells [.agg (encM m), .int .i64 (n : Nat), nums .u8 tt ys, .int .i64 (a : Nat)] H Q := by
 refine fun_iced cuneiformref18_cells_code fun _ => ?_
 refine fun_V 60 cuneiformref18_cells_code rfl ?_
 simp (disch := first | omega | (simp only [lnx]; omega)) only [stdh, stdx, ↓reduceIte, seval, cuneiformref18_cells, cuneiformref18_cells.body, encM]
 have hpc : (recs encP false m.p).cells = [recs encP false m.p] ∧ (recs encP false m.p).cellish = true := ⟨rfl, rfl⟩
 have hl := cls_len (ys := ys) n (-1) (at0 a)
 refine rc18_loop hb hlen (m := m) (pv := recs encP false m.p) rfl hpc (n := n) hn (Lf := (RD.cls ys n (-1) (at0 a)).1) (sf := (RD.cls ys n (-1) (at0 a)).2) (by omega) _ Q ?_ herr _ 0 a (-1) _ (ints false m.c) m.c rfl (by omega) ha (by omega) (by omega) (by rw [hc0]; simp) (keeps_append _ _) at_0 at_k (.inl rfl) (by rw [hc0, Nat.sub_zero]; rfl)
 intro he r H' cv hk e0 e1 hsh r3 r4 r8
 have hlt : H.length + 1 < H'.length := (List.getElem?_eq_some_iff.1 e1).1
 have hq := hok he
 generalize RD.cls ys n (-1) (at0 a) = R at *
 obtain ⟨l, s⟩ := R
 have e0' : H'[H.length]? = some (ABlk.cells [.int .i64 m.k, .int .i64 m.n0, .int .i64 m.n1, .int .i64 m.n2, .int .i64 m.n3, .int .i64 m.n4, .int .i64 m.n5, recs encP false m.p, cv, .str m.t, .str m.g] T.cuneiformref17_M) := e0
 have e1' : H'[H.length + 1]? = some (ABlk.cells [.int .i64 0, .int .i64 0, .int .i64 0, .int .i64 0, .int .i64 0, .int .i64 0, .int .i64 0, .nils, .nils, .str ⟨#[]⟩, .str ⟨#[]⟩] T.cuneiformref17_M) := e1
 have hc := hsh.cell
 refine run_V0 60 ?_
 simp (disch := first | omega | (simp only [lnx]; omega)) only [stdh, stdx, ↓reduceIte, seval, r3, r4, r8, e0', e1', hc.1, hc.2, hpc.1, hpc.2, List.getElem?_set_self]
 have hsh' := hsh.moved (H' := H'.set (H.length + 1) (ABlk.cells [.int .i64 m.k, .int .i64 m.n0, .int .i64 m.n1, .int .i64 m.n2, .int .i64 m.n3, .int .i64 m.n4, .int .i64 m.n5, recs encP false m.p, cv, .str m.t, .str m.g] T.cuneiformref17_M)) fun x hx => by
  rw [List.getElem?_set_ne]
  intro hh
  subst hh
  exact hsh.ne e1 hx
 refine ice_tagg [(.int .i64 m.k, .int .i64 m.k), (.int .i64 m.n0, .int .i64 m.n0), (.int .i64 m.n1, .int .i64 m.n1), (.int .i64 m.n2, .int .i64 m.n2), (.int .i64 m.n3, .int .i64 m.n3), (.int .i64 m.n4, .int .i64 m.n4), (.int .i64 m.n5, .int .i64 m.n5), (recs encP false m.p, recs encP false m.p), (cv, ints false l), (.str m.t, .str m.t), (.str m.g, .str m.g)] _ _ (hk.set (n := H.length + 1) (by omega) _) ?_ hq
 intro q hq
 simp only [List.mem_cons, List.not_mem_nil, or_false] at hq
 rcases hq with rfl | rfl | rfl | rfl | rfl | rfl | rfl | rfl | rfl | rfl | rfl
 all_goals first | exact Fin.same trivial | exact Fin.same (closed_pts _ _) | exact hsh'.fin
structure PtsV (H : AHeap) (a : AVal) (zs : List (Int × Int)) : Prop where
 len : slen a = some zs.length
 view : Am.view H a = some (zs.flatMap encP)
theorem PtsV.keep {H H' : AHeap} {a : AVal} {zs : List (Int × Int)} (h : PtsV H a zs) (hk : Keeps H H') : PtsV H' a zs := ⟨h.len, hk.view h.view⟩
theorem flat_len (xs : List (Int × Int)) : (xs.flatMap encP).length = xs.length * 2 := by
 induction xs with
 | nil => rfl
 | cons x l ih => rw [List.flatMap_cons, List.length_append, ih, encP_len, List.length_cons]; omega
theorem flat_cellish (xs : List (Int × Int)) : (xs.flatMap encP).all AVal.cellish = true := by simp [encP, AVal.cellish]
theorem ptsA {H : AHeap} {n : Nat} {pv : AVal} {xs : List (Int × Int)} (hn : H[n]? = some (.vec [] T.n2_int 2)) (hv : PtsV H pv xs) (hx : xs.length ≤ 1000000) : appendA H T.n2_int 2 16 (.slc n 0 0 2) pv = some (True, .slc H.length 0 xs.length 2, H.set n .dead ++ [.vec (xs.flatMap encP) T.n2_int 2]) := by
 have ho : Own 2 T.n2_int 0 H (.slc n 0 0 2) 0 [] := ⟨rfl, .inr ⟨n, Nat.zero_le _, rfl, hn⟩⟩
 have hs1 : srcLen pv = some xs.length := by rw [← hv.len]; cases pv <;> first | rfl | (exact absurd hv.len (by simp [slen]))
 have hs2 : srcCells H pv = some (xs.flatMap encP) := by
  have h2 := hv.view
  cases pv <;> first | exact h2 | (exact absurd hv.len (by simp [slen]))
 obtain ⟨p, a1, hp⟩ := Own.append3 ho (x := pv) (k := xs.length) (ys := xs.flatMap encP) 16 hs1 hs2 (flat_len xs) (by omega) (by omega) (by omega) (flat_cellish xs)
 rw [a1, eq_true hp, Nat.zero_add]; rfl
theorem ptsB {H : AHeap} {n k : Nat} {xs : List (Int × Int)} {x y : Int} (hn : H[n]? = some (.vec (xs.flatMap encP) T.n2_int 2)) (hk : H[k]? = some (.vec [.int .i64 x, .int .i64 y] T.n2_int 2)) (hx : xs.length ≤ 1000000) : appendA H T.n2_int 2 16 (.slc n 0 xs.length 2) (.slc k 0 1 2) = some (True, .slc H.length 0 (xs.length + 1) 2, H.set n .dead ++ [.vec ((xs ++ [(x, y)]).flatMap encP) T.n2_int 2]) := by
 have ho : Own 2 T.n2_int 0 H (.slc n 0 xs.length 2) xs.length (xs.flatMap encP) := ⟨flat_len xs, .inr ⟨n, Nat.zero_le _, rfl, hn⟩⟩
 obtain ⟨p, a1, hp⟩ := Own.append3 ho (x := .slc k 0 1 2) (k := 1) (ys := [.int .i64 x, .int .i64 y]) 16 rfl (by simp [srcCells, view, hk, content]) rfl (by omega) (by omega) (by omega) rfl
 rw [a1, eq_true hp, show xs.flatMap encP ++ [AVal.int .i64 x, .int .i64 y] = (xs ++ [(x, y)]).flatMap encP by rw [List.flatMap_append]; rfl]; rfl
def ShowP (B : Nat) (H : AHeap) (pv : AVal) (xs : List (Int × Int)) : Prop := pv = recs encP false xs ∨ Own 2 T.n2_int B H pv xs.length (xs.flatMap encP)
theorem ShowP.v {B : Nat} {H : AHeap} {pv : AVal} {xs : List (Int × Int)} (h : ShowP B H pv xs) : PtsV H pv xs := by
 rcases h with rfl | h
 ·exact ⟨by simp [recs, slen], by simp [recs, view]⟩
 ·exact ⟨h.slen, h.view⟩
theorem ShowP.cell {B : Nat} {H : AHeap} {pv : AVal} {xs : List (Int × Int)} (h : ShowP B H pv xs) : pv.cells = [pv] ∧ pv.cellish = true := by
 rcases h with rfl | h
 ·exact ⟨rfl, rfl⟩
 ·exact h.cell
theorem ShowP.moved {B : Nat} {H H' : AHeap} {pv : AVal} {xs : List (Int × Int)} (h : ShowP B H pv xs) (hk : ∀ m ∈ pv.names, H'[m]? = H[m]?) : ShowP B H' pv xs := by
 rcases h with rfl | h
 ·exact .inl rfl
 ·exact .inr (h.moved hk)
theorem ShowP.ne {B : Nat} {H : AHeap} {pv : AVal} {xs : List (Int × Int)} (h : ShowP B H pv xs) {c : Nat} {l : List AVal} {T : TypeId} (hc : H[c]? = some (.cells l T)) : c ∉ pv.names := by
 rcases h with rfl | h
 ·intro hh; cases hh
 ·exact fun hh => h.ne hc hh
theorem ShowP.set {B : Nat} {H : AHeap} {pv : AVal} {xs : List (Int × Int)} (h : ShowP B H pv xs) {c : Nat} {l : List AVal} {T : TypeId} (hc : H[c]? = some (.cells l T)) (b : ABlk) : ShowP B (H.set c b) pv xs :=
 h.moved fun x hx => by
  rw [List.getElem?_set_ne]
  intro hh; subst hh; exact h.ne hc hx
theorem ShowP.fin {H H' : AHeap} {pv : AVal} {xs : List (Int × Int)} (h : ShowP H.length H' pv xs) : Fin H H' pv (recs encP false xs) := by
 rcases h with rfl | h
 ·exact Fin.same (closed_pts _ _)
 ·exact Fin.own h (closed_pts false xs)
theorem ice_msgp {H H' : AHeap} {Q : AVal → AHeap → Prop} {m : Mg} {cv pv : AVal} {xs : List (Int × Int)} (hcv : cv = ints false m.c) (a b : Int) (hk : Keeps H H') (hsh : ShowP H.length H' pv xs) (hq : Q (.tup [.agg (encM { m with p := xs }), .int .i64 a, .int .i64 b]) H) : IceQ H Q (.tup [.agg [.int .i64 m.k, .int .i64 m.n0, .int .i64 m.n1, .int .i64 m.n2, .int .i64 m.n3, .int .i64 m.n4, .int .i64 m.n5, pv, cv, .str m.t, .str m.g], .int .i64 a, .int .i64 b]) H' := by
 subst hcv
 refine ice_tagg [(.int .i64 m.k, .int .i64 m.k), (.int .i64 m.n0, .int .i64 m.n0), (.int .i64 m.n1, .int .i64 m.n1), (.int .i64 m.n2, .int .i64 m.n2), (.int .i64 m.n3, .int .i64 m.n3), (.int .i64 m.n4, .int .i64 m.n4), (.int .i64 m.n5, .int .i64 m.n5), (pv, recs encP false xs), (ints false m.c, ints false m.c), (.str m.t, .str m.t), (.str m.g, .str m.g)] _ _ hk ?_ hq
 intro q hq
 simp only [List.mem_cons, List.not_mem_nil, or_false] at hq
 rcases hq with rfl | rfl | rfl | rfl | rfl | rfl | rfl | rfl | rfl | rfl | rfl
 all_goals first | exact Fin.same trivial | exact hsh.fin | exact Fin.same (closed_ints _ _)
abbrev rpC : Ctx := ⟨F.cuneiformref18_path, 76, [.cell 8 (some 11), .tmp 9, .tmp 10], none⟩
theorem sgn_at {ys : List Nat} {a : Nat} {lo hi : Int} : (at0 a).sgn ys lo hi = if (getSpec (ys.drop a)).2.2 ≠ 0 then (0, ⟨a, (getSpec (ys.drop a)).2.2, 0⟩) else if zag (getSpec (ys.drop a)).1 < lo ∨ hi < zag (getSpec (ys.drop a)).1 then (0, ⟨a, 5, 0⟩) else (zag (getSpec (ys.drop a)).1, at0 (a + (getSpec (ys.drop a)).2.1)) := by
 unfold RD.sgn lensR sgnSpec
 simp only [ne_eq, not_true_eq_false, if_false]
 by_cases g : (getSpec (ys.drop a)).2.2 = 0
 ·by_cases g2 : zag (getSpec (ys.drop a)).1 < lo ∨ hi < zag (getSpec (ys.drop a)).1
  ·simp [g, g2]
  ·simp [g, g2]
 ·simp [g]
set_option maxRecDepth 10000 in
set_option maxHeartbeats 8000000 in
/-- One coordinate. -/
theorem rp_coord {ys : List Nat} (hb : ∀ b ∈ ys, b < 256) (hlen : ys.length ≤ 1000000) {m : Mg} {pv cv : AVal} (hcv : cv = ints false m.c) (hpc : pv.cells = [pv] ∧ pv.cellish = true) (hcc : cv.cells = [cv] ∧ cv.cellish = true) {n i a : Nat} (ha : a ≤ ys.length) {H0 : AHeap} {tt : Bool} {l : Int × Int} (n1 : near l.1) (n2 : near l.2) (K : List AItem) (Q : AVal → AHeap → Prop) {k : Nat} {x : Int} (hkx : k = 0 ∧ x = l.1 ∨ k = 1 ∧ x = l.2) {H : AHeap} {xs : List (Int × Int)} (hsh : ShowP H0.length H pv xs) (hk : Keeps H0 H)
  (e0 : H[H0.length]? = some (.cells (encMc m pv cv) T.cuneiformref17_M)) (e1 : H[H0.length + 1]? = some bare17) (e2 : H[H0.length + 2]? = some (.cells [.int .i64 l.1, .int .i64 l.2] T.n2_int))
  (hgo : ∀ (a' : Nat) (v : Int), (at0 a).sgn ys (-1000000 - x) (1000000 - x) = (v, at0 a') → a' ≤ ys.length → near (x + v) → Rounds Try.prog rpC cuneiformref18_path.b0 [.inBlock 2] K [(1, .int .i64 (n : Nat)), (2, nums .u8 tt ys), (3, .int .i64 (a' : Nat)), (4, .ptr H0.length 0), (8, .ptr (H0.length + 1) 0), (11, .ptr (H0.length + 2) 0), (12, .int .i64 (i : Nat)), (13, .int .i64 ((k + 1 : Nat) : Int))] (H.set (H0.length + 2) (.cells (if k = 0 then [.int .i64 (x + v), .int .i64 l.2] else [.int .i64 l.1, .int .i64 (x + v)]) T.n2_int)) (IceQ H0 Q))
  (herr : ∀ e : Nat, e ≠ 0 → (at0 a).sgn ys (-1000000 - x) (1000000 - x) = (0, ⟨a, e, 0⟩) → ∀ m' : Mg, Q (.tup [.agg (encM m'), .int .i64 (a : Nat), .int .i64 (e : Nat)]) H0) :
  Rounds Try.prog rpC cuneiformref18_path.b0 [.inBlock 2] K [(1, .int .i64 (n : Nat)), (2, nums .u8 tt ys), (3, .int .i64 (a : Nat)), (4, .ptr H0.length 0), (8, .ptr (H0.length + 1) 0), (11, .ptr (H0.length + 2) 0), (12, .int .i64 (i : Nat)), (13, .int .i64 (k : Nat))] H (IceQ H0 Q) := by
 have hlt : H0.length + 2 < H.length := (List.getElem?_eq_some_iff.1 e2).1
 have e0' : H[H0.length]? = some (ABlk.cells [.int .i64 m.k, .int .i64 m.n0, .int .i64 m.n1, .int .i64 m.n2, .int .i64 m.n3, .int .i64 m.n4, .int .i64 m.n5, pv, cv, .str m.t, .str m.g] T.cuneiformref17_M) := e0
 have e1' : H[H0.length + 1]? = some (ABlk.cells [.int .i64 0, .int .i64 0, .int .i64 0, .int .i64 0, .int .i64 0, .int .i64 0, .int .i64 0, .nils, .nils, .str ⟨#[]⟩, .str ⟨#[]⟩] T.cuneiformref17_M) := e1
 have nx : near x := by rcases hkx with ⟨_, rfl⟩ | ⟨_, rfl⟩ <;> assumption
 refine loop_V 100 cuneiformref18_path.b0.eq_1 ?_
 have hk2 : (k : Int) < 2 := by omega
 simp (disch := first | omega | (simp only [lnx]; omega)) only [stdh, stdx, ↓reduceIte, seval]
 refine callK_fn (rget_ok _ (nums_nats .u8 tt ys _) hb (by omega) ha _ ?_)
 refine runL_V 100 ?_
 have hs := sgn_at (ys := ys) (a := a) (lo := -1000000 - x) (hi := 1000000 - x)
 have hgf := fun h => getSpec_facts (bs := ys.drop a) h
 rw [List.length_drop] at hgf
 generalize (getSpec (ys.drop a)).1 = zz at *
 generalize (getSpec (ys.drop a)).2.1 = kk at *
 generalize (getSpec (ys.drop a)).2.2 = ee at *
 unfold near at nx
 by_cases hee : ee = 0
 ·subst hee
  obtain ⟨g1, g2, g3⟩ := hgf rfl
  rw [if_neg (by simp)] at hs
  simp (disch := first | omega | (simp only [lnx]; omega)) only [stdh, stdx, ↓reduceIte, seval, e0', e1', e2]
  refine callK_fn (rzag_ok _ zz g3 _ ?_)
  refine runL_V 100 ?_
  have hz := zag_range g3
  generalize zag zz = z at *
  by_cases z1 : z < -2000000
  ·rw [if_pos (.inl (by omega))] at hs
   have hd1 : decide (z < -2000000) = true := decide_eq_true z1
   have hq : Q (.tup [.agg (encM { m with p := xs }), .int .i64 (a : Nat), .int .i64 5]) H0 := herr 5 (by omega) hs _
   simp (disch := first | omega | (simp only [lnx]; omega)) only [stdh, stdx, ↓reduceIte, seval, hd1, Int.reduceNeg, e0', e1', e2, hpc.1, hpc.2, hcc.1, hcc.2, List.getElem?_set_self]
   exact ice_msgp hcv _ _ (hk.set (n := H0.length + 1) (by omega) _) (hsh.set e1 _) hq
  have hd1 : decide (z < -2000000) = false := decide_eq_false z1
  by_cases z2 : 2000000 < z
  ·rw [if_pos (.inr (by omega))] at hs
   have hd2 : decide (2000000 < z) = true := decide_eq_true z2
   have hq : Q (.tup [.agg (encM { m with p := xs }), .int .i64 (a : Nat), .int .i64 5]) H0 := herr 5 (by omega) hs _
   simp (disch := first | omega | (simp only [lnx]; omega)) only [stdh, stdx, ↓reduceIte, seval, hd1, hd2, Int.reduceNeg, e0', e1', e2, hpc.1, hpc.2, hcc.1, hcc.2, List.getElem?_set_self]
   exact ice_msgp hcv _ _ (hk.set (n := H0.length + 1) (by omega) _) (hsh.set e1 _) hq
  have hd2 : decide (2000000 < z) = false := decide_eq_false z2
  rcases hkx with ⟨rfl, rfl⟩ | ⟨rfl, rfl⟩
  ·simp (disch := first | omega | (simp only [lnx]; omega)) only [stdh, stdx, ↓reduceIte, seval, hd1, hd2, Int.reduceNeg, e0', e1', e2, Int.ofNat_zero, Int.ofNat_one]
   refine callK_fn (far_ok _ _ _ ?_)
   refine runL_V 100 ?_
   by_cases hf : l.1 + z < -1000000 ∨ 1000000 < l.1 + z
   ·rw [if_pos (by omega)] at hs
    rw [decide_eq_true hf]
    have hq : Q (.tup [.agg (encM { m with p := xs }), .int .i64 (a : Nat), .int .i64 5]) H0 := herr 5 (by omega) hs _
    simp (disch := first | omega | (simp only [lnx]; omega)) only [stdh, stdx, ↓reduceIte, seval, e0', e1', e2, hpc.1, hpc.2, hcc.1, hcc.2, List.getElem?_set_self]
    exact ice_msgp hcv _ _ (hk.set (n := H0.length + 1) (by omega) _) (hsh.set e1 _) hq
   ·rw [if_neg (by omega)] at hs
    rw [decide_eq_false hf]
    simp (disch := first | omega | (simp only [lnx]; omega)) only [stdh, stdx, ↓reduceIte, seval, e0', e1', e2, hpc.1, hpc.2, hcc.1, hcc.2, List.getElem?_set_self, Int.ofNat_zero, Int.ofNat_one]
    exact hgo (a + kk) z hs (by omega) (by unfold near; omega)
  ·simp (disch := first | omega | (simp only [lnx]; omega)) only [stdh, stdx, ↓reduceIte, seval, hd1, hd2, Int.reduceNeg, e0', e1', e2, Int.ofNat_zero, Int.ofNat_one]
   refine callK_fn (far_ok _ _ _ ?_)
   refine runL_V 100 ?_
   by_cases hf : l.2 + z < -1000000 ∨ 1000000 < l.2 + z
   ·rw [if_pos (by omega)] at hs
    rw [decide_eq_true hf]
    have hq : Q (.tup [.agg (encM { m with p := xs }), .int .i64 (a : Nat), .int .i64 5]) H0 := herr 5 (by omega) hs _
    simp (disch := first | omega | (simp only [lnx]; omega)) only [stdh, stdx, ↓reduceIte, seval, e0', e1', e2, hpc.1, hpc.2, hcc.1, hcc.2, List.getElem?_set_self]
    exact ice_msgp hcv _ _ (hk.set (n := H0.length + 1) (by omega) _) (hsh.set e1 _) hq
   ·rw [if_neg (by omega)] at hs
    rw [decide_eq_false hf]
    simp (disch := first | omega | (simp only [lnx]; omega)) only [stdh, stdx, ↓reduceIte, seval, e0', e1', e2, hpc.1, hpc.2, hcc.1, hcc.2, List.getElem?_set_self, Int.ofNat_zero, Int.ofNat_one]
    exact hgo (a + kk) z hs (by omega) (by unfold near; omega)
 ·rw [if_pos hee] at hs
  have hd : decide ((ee : Int) = 0) = false := decide_eq_false (by omega)
  have hq := herr ee hee hs { m with p := xs }
  simp (disch := first | omega | (simp only [lnx]; omega)) only [stdh, stdx, ↓reduceIte, seval, hd, e0', e1', hpc.1, hpc.2, hcc.1, hcc.2, List.getElem?_set_self]
  exact ice_msgp hcv _ _ (hk.set (n := H0.length + 1) (by omega) _) (hsh.set e1 _) hq
theorem sgn_bad {ys : List Nat} {a e : Nat} {lo hi : Int} (he : e ≠ 0) : RD.sgn ys ⟨a, e, 0⟩ lo hi = (0, ⟨a, e, 0⟩) := by
 unfold RD.sgn
 rw [show lensR (0 : Int) ys (RD.a ⟨a, e, 0⟩) (RD.e ⟨a, e, 0⟩) (sgnSpec lo hi) = (0, a, e) from lensR_err he]
set_option maxRecDepth 10000 in
set_option maxHeartbeats 16000000 in
theorem rp18_loop {ys : List Nat} (hb : ∀ b ∈ ys, b < 256) (hlen : ys.length ≤ 1000000) {m : Mg} {cv : AVal} (hcv : cv = ints false m.c) (hcc : cv.cells = [cv] ∧ cv.cellish = true) {n : Nat} (hn : n ≤ 1000) {H0 : AHeap} {tt : Bool} {Lf : List (Int × Int)} {sf : RD} (hLf : Lf.length ≤ 10000) (K : List AItem) (Q : AVal → AHeap → Prop)
  (hok : sf.err = 0 → ∀ r H pv, Keeps H0 H → H[H0.length]? = some (.cells (encMc m pv cv) T.cuneiformref17_M) → H[H0.length + 1]? = some bare17 → ShowP H0.length H pv Lf → rget r 3 = .int .i64 (sf.a : Nat) → rget r 4 = .ptr H0.length 0 → rget r 8 = .ptr (H0.length + 1) 0 → Run Try.prog rpC K r H (IceQ H0 Q))
  (herr : sf.err ≠ 0 → ∀ (m' : Mg) (a' : Nat), Q (.tup [.agg (encM m'), .int .i64 (a' : Nat), .int .i64 (sf.err : Nat)]) H0) :
  ∀ (z i a : Nat) (last : Int × Int) (H : AHeap) (pv : AVal) (xs : List (Int × Int)), n - i = z → i ≤ n → a ≤ ys.length → near last.1 → near last.2 → xs.length ≤ 10000 → Keeps H0 H → H[H0.length]? = some (.cells (encMc m pv cv) T.cuneiformref17_M) → H[H0.length + 1]? = some bare17 → H[H0.length + 2]? = some (.cells [.int .i64 last.1, .int .i64 last.2] T.n2_int) → ShowP H0.length H pv xs →
  (xs ++ (RD.pts ys (n - i) last (at0 a)).1, (RD.pts ys (n - i) last (at0 a)).2) = (Lf, sf) →
  Rounds Try.prog rpC cuneiformref18_path.b2 [.inBlock 0] K [(1, .int .i64 (n : Nat)), (2, nums .u8 tt ys), (3, .int .i64 (a : Nat)), (4, .ptr H0.length 0), (8, .ptr (H0.length + 1) 0), (11, .ptr (H0.length + 2) 0), (12, .int .i64 (i : Nat))] H (IceQ H0 Q)
 | z, i, a, last, H, pv, xs, h1, h2, ha, hl1, hl2, hxl, hk, e0, e1, e2, hsh, hres => by
  have hlt : H0.length + 2 < H.length := (List.getElem?_eq_some_iff.1 e2).1
  have hpc := hsh.cell
  refine loop_V 100 cuneiformref18_path.b2.eq_1 ?_
  by_cases hi : i < n
  ·obtain ⟨w, hw⟩ : ∃ w, n - i = w + 1 := ⟨n - i - 1, by omega⟩
   rw [hw, RD.pts] at hres
   simp (disch := first | omega | (simp only [lnx]; omega)) only [stdh, stdx, ↓reduceIte, seval]
   refine rp_coord hb hlen (m := m) (pv := pv) (cv := cv) hcv hpc hcc (n := n) (i := i) ha hl1 hl2 _ Q (k := 0) (x := last.1) (.inl ⟨rfl, rfl⟩) hsh hk e0 e1 e2 (fun a1 v1 hs1 ha1 hn1 => ?_) (fun e hee hs1 m' => ?_)
   ·rw [if_pos rfl]
    have f0 : (H.set (H0.length + 2) (.cells [.int .i64 (last.1 + v1), .int .i64 last.2] T.n2_int))[H0.length]? = some (.cells (encMc m pv cv) T.cuneiformref17_M) := by rw [List.getElem?_set_ne (by omega)]; exact e0
    have f1 : (H.set (H0.length + 2) (.cells [.int .i64 (last.1 + v1), .int .i64 last.2] T.n2_int))[H0.length + 1]? = some bare17 := by rw [List.getElem?_set_ne (by omega)]; exact e1
    refine rp_coord hb hlen (m := m) (pv := pv) (cv := cv) hcv hpc hcc (n := n) (i := i) ha1 (l := (last.1 + v1, last.2)) hn1 hl2 _ Q (k := 1) (x := last.2) (.inr ⟨rfl, rfl⟩) (hsh.set e2 _) (hk.set (n := H0.length + 2) (by omega) _) f0 f1 (List.getElem?_set_self hlt) (fun a2 v2 hs2 ha2 hn2 => ?_) (fun e hee hs2 m' => ?_)
    ·rw [if_neg (by omega), List.set_set]
     simp only
     have hpt : (at0 a).pt ys last = ((last.1 + v1, last.2 + v2), at0 a2) := by unfold RD.pt; rw [hs1, hs2]
     rw [hpt, if_pos (at0_err _)] at hres
     obtain ⟨H2, hH2⟩ : ∃ H2, H2 = H.set (H0.length + 2) (.cells [.int .i64 (last.1 + v1), .int .i64 (last.2 + v2)] T.n2_int) := ⟨_, rfl⟩
     have g0 : H2[H0.length]? = some (ABlk.cells [.int .i64 m.k, .int .i64 m.n0, .int .i64 m.n1, .int .i64 m.n2, .int .i64 m.n3, .int .i64 m.n4, .int .i64 m.n5, pv, cv, .str m.t, .str m.g] T.cuneiformref17_M) := by rw [hH2, List.getElem?_set_ne (by omega)]; exact e0
     have g1 : H2[H0.length + 1]? = some bare17 := by rw [hH2, List.getElem?_set_ne (by omega)]; exact e1
     have g2 : H2[H0.length + 2]? = some (.cells [.int .i64 (last.1 + v1), .int .i64 (last.2 + v2)] T.n2_int) := by rw [hH2]; exact List.getElem?_set_self hlt
     have gk : Keeps H0 H2 := by rw [hH2]; exact hk.set (n := H0.length + 2) (by omega) _
     have gsh : ShowP H0.length H2 pv xs := by rw [hH2]; exact hsh.set e2 _
     have gl : H2.length = H.length := by rw [hH2, List.length_set]
     rw [← hH2]
     clear hH2 f0 f1
     have hlt2 : H0.length + 2 < H2.length := by omega
     refine loop_V 100 cuneiformref18_path.b0.eq_1 ?_
     simp (disch := first | omega | (simp only [lnx]; omega)) only [stdh, stdx, ↓reduceIte, seval]
     refine run_V0 100 ?_
     simp (disch := first | omega | (simp only [lnx]; omega)) only [stdh, stdx, ↓reduceIte, seval, cuneiformref18_path.d1, g0, g2, hpc.1, hpc.2, hcc.1, hcc.2, at_low, at_0, at_k]
     refine ⟨?_, ?_, ?_⟩
     ·rw [ptsA at_0 (gsh.v.keep (keeps_append _ _)) (by omega)]
      simp (disch := first | omega | (simp only [lnx]; omega)) only [stdh, stdx, ↓reduceIte, seval, g0, g2, hpc.1, hpc.2, hcc.1, hcc.2, at_low, at_0, at_k]
      rw [ptsB (n := H2.length + 1) (k := H2.length + 2) at_k at_k (by omega)]
      simp (disch := first | omega | (simp only [lnx]; omega)) only [stdh, stdx, ↓reduceIte, seval, g0, g2, hpc.1, hpc.2, hcc.1, hcc.2, at_low, at_0, at_k]
      rw [show (i : Int) + 1 = ((i + 1 : Nat) : Int) by omega, List.append_nil]
      refine rp18_loop hb hlen hcv hcc hn hLf K Q hok herr _ (i + 1) a2 (last.1 + v1, last.2 + v2) _ (.slc (H2.length + 3) 0 (xs.length + 1) 2) (xs ++ [(last.1 + v1, last.2 + v2)]) rfl (by omega) ha2 hn1 hn2 (by have := congrArg List.length (Prod.mk.inj hres).1; simp only [List.length_append, List.length_cons, List.length_nil] at this ⊢; omega) ((gk.trans (keeps_append _ _)).set (Nat.le_refl _) _) ?_ ?_ ?_ (.inr ⟨flat_len _ |>.trans (by simp), .inr ⟨H2.length + 3, by omega, by simp, ?_⟩⟩) ?_
      ·rw [List.getElem?_set_self (by simp; omega)]; rfl
      ·rw [List.getElem?_set_ne (by omega), at_low (by omega)]; exact g1
      ·rw [List.getElem?_set_ne (by omega), at_low (by omega)]; exact g2
      ·rw [List.getElem?_set_ne (by omega)]; exact at_k
      ·rw [show n - (i + 1) = w by omega, ← hres]
       simp
     ·rw [ptsA at_0 (gsh.v.keep (keeps_append _ _)) (by omega)]
      simp (disch := first | omega | (simp only [lnx]; omega)) only [stdh, stdx, ↓reduceIte, seval, g0, g2, hpc.1, hpc.2, hcc.1, hcc.2, at_low, at_0, at_k]
      rw [ptsB (n := H2.length + 2) (k := H2.length + 1) at_k at_k (by omega)]
      simp (disch := first | omega | (simp only [lnx]; omega)) only [stdh, stdx, ↓reduceIte, seval, g0, g2, hpc.1, hpc.2, hcc.1, hcc.2, at_low, at_0, at_k]
      rw [show (i : Int) + 1 = ((i + 1 : Nat) : Int) by omega, List.append_nil]
      refine rp18_loop hb hlen hcv hcc hn hLf K Q hok herr _ (i + 1) a2 (last.1 + v1, last.2 + v2) _ (.slc (H2.length + 3) 0 (xs.length + 1) 2) (xs ++ [(last.1 + v1, last.2 + v2)]) rfl (by omega) ha2 hn1 hn2 (by have := congrArg List.length (Prod.mk.inj hres).1; simp only [List.length_append, List.length_cons, List.length_nil] at this ⊢; omega) ((gk.trans (keeps_append _ _)).set (Nat.le_refl _) _) ?_ ?_ ?_ (.inr ⟨flat_len _ |>.trans (by simp), .inr ⟨H2.length + 3, by omega, by simp, ?_⟩⟩) ?_
      ·rw [List.getElem?_set_self (by simp; omega)]; rfl
      ·rw [List.getElem?_set_ne (by omega), at_low (by omega)]; exact g1
      ·rw [List.getElem?_set_ne (by omega), at_low (by omega)]; exact g2
      ·rw [List.getElem?_set_ne (by omega)]; exact at_k
      ·rw [show n - (i + 1) = w by omega, ← hres]
       simp
     ·rw [ptsA (n := H2.length + 1) at_k (gsh.v.keep (keeps_append _ _)) (by omega)]
      simp (disch := first | omega | (simp only [lnx]; omega)) only [stdh, stdx, ↓reduceIte, seval, g0, g2, hpc.1, hpc.2, hcc.1, hcc.2, at_low, at_0, at_k]
      rw [ptsB (n := H2.length + 2) (k := H2.length) at_k at_0 (by omega)]
      simp (disch := first | omega | (simp only [lnx]; omega)) only [stdh, stdx, ↓reduceIte, seval, g0, g2, hpc.1, hpc.2, hcc.1, hcc.2, at_low, at_0, at_k]
      rw [show (i : Int) + 1 = ((i + 1 : Nat) : Int) by omega, List.append_nil]
      refine rp18_loop hb hlen hcv hcc hn hLf K Q hok herr _ (i + 1) a2 (last.1 + v1, last.2 + v2) _ (.slc (H2.length + 3) 0 (xs.length + 1) 2) (xs ++ [(last.1 + v1, last.2 + v2)]) rfl (by omega) ha2 hn1 hn2 (by have := congrArg List.length (Prod.mk.inj hres).1; simp only [List.length_append, List.length_cons, List.length_nil] at this ⊢; omega) ((gk.trans (keeps_append _ _)).set (Nat.le_refl _) _) ?_ ?_ ?_ (.inr ⟨flat_len _ |>.trans (by simp), .inr ⟨H2.length + 3, by omega, by simp, ?_⟩⟩) ?_
      ·rw [List.getElem?_set_self (by simp; omega)]; rfl
      ·rw [List.getElem?_set_ne (by omega), at_low (by omega)]; exact g1
      ·rw [List.getElem?_set_ne (by omega), at_low (by omega)]; exact g2
      ·rw [List.getElem?_set_ne (by omega)]; exact at_k
      ·rw [show n - (i + 1) = w by omega, ← hres]
       simp
    ·have hpt : (at0 a).pt ys last = ((last.1 + v1, last.2 + 0), ⟨a1, e, 0⟩) := by unfold RD.pt; rw [hs1, hs2]
     have hne : RD.err ⟨a1, e, 0⟩ ≠ 0 := by rw [show RD.err ⟨a1, e, 0⟩ = e from rfl]; exact hee
     rw [hpt, if_neg hne] at hres
     obtain ⟨_, rfl⟩ := Prod.mk.inj hres
     exact herr hne m' a1
   ·have hpt : (at0 a).pt ys last = ((last.1 + 0, last.2 + 0), ⟨a, e, 0⟩) := by unfold RD.pt; rw [hs1, sgn_bad hee]
    have hne : RD.err ⟨a, e, 0⟩ ≠ 0 := by rw [show RD.err ⟨a, e, 0⟩ = e from rfl]; exact hee
    rw [hpt, if_neg hne] at hres
    obtain ⟨_, rfl⟩ := Prod.mk.inj hres
    exact herr hne m' a
  ·have : i = n := by omega
   subst this
   rw [Nat.sub_self, RD.pts] at hres
   obtain ⟨h3, rfl⟩ := Prod.mk.inj hres
   simp only [List.append_nil] at h3
   subst h3
   simp (disch := first | omega | (simp only [lnx]; omega)) only [stdh, stdx, ↓reduceIte, seval]
   exact hok rfl _ H pv hk e0 e1 hsh rfl rfl rfl
 termination_by z => z
set_option maxRecDepth 10000 in
set_option maxHeartbeats 8000000 in
/-- The document's path: what was read, or what is wrong. -/
theorem rpath18_ok (H : AHeap) {ys : List Nat} (hb : ∀ b ∈ ys, b < 256) (hlen : ys.length ≤ 1000000) {m : Mg} (hp0 : m.p = []) {n a : Nat} (hn : n ≤ 1000) (ha : a ≤ ys.length) {tt : Bool} (Q : AVal → AHeap → Prop)
  (hok : (RD.pts ys n (0, 0) (at0 a)).2.err = 0 → Q (.tup [.agg (encM { m with p := (RD.pts ys n (0, 0) (at0 a)).1 }), .int .i64 ((RD.pts ys n (0, 0) (at0 a)).2.a : Nat), .int .i64 0]) H)
  (herr : (RD.pts ys n (0, 0) (at0 a)).2.err ≠ 0 → ∀ (m' : Mg) (a' : Nat), Q (.tup [.agg (encM m'), .int .i64 (a' : Nat), .int .i64 ((RD.pts ys n (0, 0) (at0 a)).2.err : Nat)]) H) :
  FunOK Try.prog F.cuneiformref18_path [.agg (encM m), .int .i64 (n : Nat), nums .u8 tt ys, .int .i64 (a : Nat)] H Q := by
 refine fun_iced cuneiformref18_path_code fun _ => ?_
 refine fun_V 60 cuneiformref18_path_code rfl ?_
 simp (disch := first | omega | (simp only [lnx]; omega)) only [stdh, stdx, ↓reduceIte, seval, cuneiformref18_path, cuneiformref18_path.body, encM]
 have hcc : (ints false m.c).cells = [ints false m.c] ∧ (ints false m.c).cellish = true := ⟨rfl, rfl⟩
 have hl := pts_len (ys := ys) n (0, 0) (at0 a)
 refine rp18_loop hb hlen (m := m) (cv := ints false m.c) rfl hcc (n := n) hn (Lf := (RD.pts ys n (0, 0) (at0 a)).1) (sf := (RD.pts ys n (0, 0) (at0 a)).2) (by omega) _ Q ?_ herr _ 0 a (0, 0) _ (recs encP false m.p) m.p rfl (by omega) ha (by unfold near; omega) (by unfold near; omega) (by rw [hp0]; simp) (keeps_append _ _) at_0 at_k at_k (.inl rfl) (by rw [hp0, Nat.sub_zero]; rfl)
 intro he r H' pv hk e0 e1 hsh r3 r4 r8
 have hlt : H.length + 1 < H'.length := (List.getElem?_eq_some_iff.1 e1).1
 have hq := hok he
 generalize RD.pts ys n (0, 0) (at0 a) = R at *
 obtain ⟨l, s⟩ := R
 have e0' : H'[H.length]? = some (ABlk.cells [.int .i64 m.k, .int .i64 m.n0, .int .i64 m.n1, .int .i64 m.n2, .int .i64 m.n3, .int .i64 m.n4, .int .i64 m.n5, pv, ints false m.c, .str m.t, .str m.g] T.cuneiformref17_M) := e0
 have e1' : H'[H.length + 1]? = some (ABlk.cells [.int .i64 0, .int .i64 0, .int .i64 0, .int .i64 0, .int .i64 0, .int .i64 0, .int .i64 0, .nils, .nils, .str ⟨#[]⟩, .str ⟨#[]⟩] T.cuneiformref17_M) := e1
 have hc := hsh.cell
 refine run_V0 60 ?_
 simp (disch := first | omega | (simp only [lnx]; omega)) only [stdh, stdx, ↓reduceIte, seval, r3, r4, r8, e0', e1', hc.1, hc.2, hcc.1, hcc.2, List.getElem?_set_self]
 have hsh' := hsh.set e1 (ABlk.cells [.int .i64 m.k, .int .i64 m.n0, .int .i64 m.n1, .int .i64 m.n2, .int .i64 m.n3, .int .i64 m.n4, .int .i64 m.n5, pv, ints false m.c, .str m.t, .str m.g] T.cuneiformref17_M)
 refine ice_tagg [(.int .i64 m.k, .int .i64 m.k), (.int .i64 m.n0, .int .i64 m.n0), (.int .i64 m.n1, .int .i64 m.n1), (.int .i64 m.n2, .int .i64 m.n2), (.int .i64 m.n3, .int .i64 m.n3), (.int .i64 m.n4, .int .i64 m.n4), (.int .i64 m.n5, .int .i64 m.n5), (pv, recs encP false l), (ints false m.c, ints false m.c), (.str m.t, .str m.t), (.str m.g, .str m.g)] _ _ (hk.set (n := H.length + 1) (by omega) _) ?_ hq
 intro q hq
 simp only [List.mem_cons, List.not_mem_nil, or_false] at hq
 rcases hq with rfl | rfl | rfl | rfl | rfl | rfl | rfl | rfl | rfl | rfl | rfl
 all_goals first | exact Fin.same trivial | exact hsh'.fin | exact Fin.same (closed_ints _ _)
abbrev rfC : Ctx := ⟨F.cuneiformref18_field, 156, [.cell 8 (some 11), .tmp 9, .tmp 10], none⟩
set_option maxRecDepth 10000 in
set_option maxHeartbeats 8000000 in
theorem rft_loop {s : ByteArray} (hb : s.size < 9223372036854775807) (K : List AItem) {H0 H : AHeap} (Q : AVal → AHeap → Prop) {m : Mg} {a n e : Nat} (hk : Keeps H0 H)
  (e0 : H[H0.length]? = some (.cells (encM m) T.cuneiformref17_M)) (e2 : H[H0.length + 2]? = some bare17)
  (hK : (bytesOf s).any badB = false → ∀ r, rget r 4 = .ptr H0.length 0 → rget r 5 = .ptr (H0.length + 1) 0 → rget r 8 = .ptr (H0.length + 2) 0 → rget r 11 = .int .u64 (n : Nat) → rget r 12 = .int .i64 (e : Nat) → rget r 14 = .str s → Run Try.prog rfC K r H (IceQ H0 Q)) (hR : (bytesOf s).any badB = true → Q (.tup [.agg (encM m), .int .i64 (a : Nat), .int .i64 19]) H0) :
  ∀ (z i : Nat), s.size - i = z → i ≤ s.size → (bytesOf s).any badB = ((bytesOf s).drop i).any badB →
  Rounds Try.prog rfC cuneiformref18_field.b1 [.inBlock 2] K [(3, .int .i64 (a : Nat)), (4, .ptr H0.length 0), (5, .ptr (H0.length + 1) 0), (8, .ptr (H0.length + 2) 0), (11, .int .u64 (n : Nat)), (12, .int .i64 (e : Nat)), (14, .str s), (15, .int .i64 (i : Nat))] H (IceQ H0 Q)
 | z, i, h1, h2, h3 => by
  have e0' : H[H0.length]? = some (ABlk.cells [.int .i64 m.k, .int .i64 m.n0, .int .i64 m.n1, .int .i64 m.n2, .int .i64 m.n3, .int .i64 m.n4, .int .i64 m.n5, recs encP false m.p, ints false m.c, .str m.t, .str m.g] T.cuneiformref17_M) := e0
  have e2' : H[H0.length + 2]? = some (ABlk.cells [.int .i64 0, .int .i64 0, .int .i64 0, .int .i64 0, .int .i64 0, .int .i64 0, .int .i64 0, .nils, .nils, .str ⟨#[]⟩, .str ⟨#[]⟩] T.cuneiformref17_M) := e2
  have hlt : H0.length + 2 < H.length := (List.getElem?_eq_some_iff.1 e2).1
  refine loop_V 100 cuneiformref18_field.b1.eq_1 ?_
  have hlen := bytesOf_len s
  by_cases hi : i < s.size
  ·have hd : (bytesOf s).drop i = (bytesOf s).getD i 0 :: (bytesOf s).drop (i + 1) := by rw [List.drop_eq_getElem_cons (by omega)]; simp [show i < (bytesOf s).length by omega]
   rw [hd, List.any_cons] at h3
   have hg := get_byte hi
   by_cases q1 : (((bytesOf s).getD i 0 : Nat) : Int) < 32
   ·rw [show badB ((bytesOf s).getD i 0) = true from decide_eq_true (.inl (by omega)), Bool.true_or] at h3
    simp (disch := first | omega | (simp only [lnx]; omega)) only [stdh, stdx, ↓reduceIte, seval, hg, q1, e0', e2', List.getElem?_set_self]
    exact ice_keeps (hk.set (n := H0.length + 2) (by omega) _) ⟨⟨trivial, trivial, trivial, trivial, trivial, trivial, trivial, closed_pts _ _, closed_ints _ _, trivial, trivial, trivial⟩, trivial, trivial, trivial⟩ (hR h3)
   by_cases q2 : (126 : Int) < (((bytesOf s).getD i 0 : Nat) : Int)
   ·rw [show badB ((bytesOf s).getD i 0) = true from decide_eq_true (.inr (by omega)), Bool.true_or] at h3
    simp (disch := first | omega | (simp only [lnx]; omega)) only [stdh, stdx, ↓reduceIte, seval, hg, q1, q2, e0', e2', List.getElem?_set_self]
    exact ice_keeps (hk.set (n := H0.length + 2) (by omega) _) ⟨⟨trivial, trivial, trivial, trivial, trivial, trivial, trivial, closed_pts _ _, closed_ints _ _, trivial, trivial, trivial⟩, trivial, trivial, trivial⟩ (hR h3)
   rw [show badB ((bytesOf s).getD i 0) = false from decide_eq_false (by omega), Bool.false_or] at h3
   simp (disch := first | omega | (simp only [lnx]; omega)) only [stdh, stdx, ↓reduceIte, seval, hg, q1, q2]
   rw [show (i : Int) + 1 = ((i + 1 : Nat) : Int) by omega]
   exact rft_loop hb K Q hk e0 e2 hK hR _ (i + 1) rfl (by omega) h3
  ·simp (disch := first | omega | (simp only [lnx]; omega)) only [stdh, stdx, ↓reduceIte, seval]
   rw [List.drop_eq_nil_of_le (by omega)] at h3
   exact hK h3 _ rfl rfl rfl rfl rfl rfl
 termination_by z => z
theorem sort2_all {k : Int} : ∀ f ∈ fieldsOf k, f.sort = 2 → f.least = -1000000 ∧ f.most = 1000000 := by
 unfold fieldsOf
 split
 ·decide +kernel
 split
 ·decide +kernel
 split
 ·decide +kernel
 split
 ·decide +kernel
 split
 ·decide +kernel
 ·simp
set_option maxRecDepth 10000 in
set_option maxHeartbeats 16000000 in
/-- The document's field: what was read, or what is wrong. -/
theorem rfield18_ok (H : AHeap) {ys : List Nat} (hb : ∀ b ∈ ys, b < 256) (hlen : ys.length ≤ 1000000) {m : Mg} {f : Fld} {k : Int} (hf : f ∈ fieldsOf k) (hp0 : f.sort = 3 → m.p = []) (hc0 : f.sort = 4 → m.c = []) {a : Nat} (ha : a ≤ ys.length) {tt : Bool} (Q : AVal → AHeap → Prop)
  (hok : ((at0 a).field ys m f).2.err = 0 → Q (.tup [.agg (encM ((at0 a).field ys m f).1), .int .i64 (((at0 a).field ys m f).2.a : Nat), .int .i64 0]) H)
  (herr : ((at0 a).field ys m f).2.err ≠ 0 → ∀ (m' : Mg) (a' : Nat), Q (.tup [.agg (encM m'), .int .i64 (a' : Nat), .int .i64 (((at0 a).field ys m f).2.err : Nat)]) H) :
  FunOK Try.prog F.cuneiformref18_field [.agg (encM m), .agg (encF f), nums .u8 tt ys, .int .i64 (a : Nat)] H Q := by
 have h3 := fieldsOf_ok3 f hf
 have hst := fieldsOf_std f hf
 have hs2 := sort2_all f hf
 obtain ⟨o1, o2, o3, o4⟩ := fieldsOf_ok6 f hf
 have hmost : f.most = ((f.most.toNat : Nat) : Int) := by omega
 have hwm : IntKind.u64.wrap f.most = ((f.most.toNat : Nat) : Int) := by rw [wrap_u64 (by omega)]; exact hmost
 refine fun_iced cuneiformref18_field_code fun _ => ?_
 refine fun_V 60 cuneiformref18_field_code rfl ?_
 simp (disch := first | omega | (simp only [lnx]; omega)) only [stdh, stdx, ↓reduceIte, seval, cuneiformref18_field, cuneiformref18_field.body, encM, encF]
 refine callK_fn (rget_ok _ (nums_nats .u8 tt ys _) hb (by omega) ha _ ?_)
 refine runL_V 60 ?_
 have hnum : ∀ most : Nat, (at0 a).num ys most = if (getSpec (ys.drop a)).2.2 ≠ 0 then (0, ⟨a, (getSpec (ys.drop a)).2.2, 0⟩) else if most < (getSpec (ys.drop a)).1 then (0, ⟨a, 5, 0⟩) else ((getSpec (ys.drop a)).1, at0 (a + (getSpec (ys.drop a)).2.1)) := fun most => by
  unfold RD.num lensR numSpec
  simp only [ne_eq, not_true_eq_false, if_false]
  by_cases g : (getSpec (ys.drop a)).2.2 = 0
  ·by_cases g2 : most < (getSpec (ys.drop a)).1
   ·simp [g, g2]
   ·simp [g, g2]
  ·simp [g]
 have hsgn := fun lo hi => sgn_at (ys := ys) (a := a) (lo := lo) (hi := hi)
 have hfld : ∀ most : Int, (at0 a).fld ys most = if (getSpec (ys.drop a)).2.2 ≠ 0 then ([], ⟨a, (getSpec (ys.drop a)).2.2, 0⟩) else if most.toNat < (getSpec (ys.drop a)).1 then ([], ⟨a, 6, 0⟩) else if ys.length - a - (getSpec (ys.drop a)).2.1 < (getSpec (ys.drop a)).1 then ([], ⟨a, 4, 0⟩) else (((ys.drop a).drop (getSpec (ys.drop a)).2.1).take (getSpec (ys.drop a)).1, at0 (a + ((getSpec (ys.drop a)).2.1 + (getSpec (ys.drop a)).1))) := fun most => by
  unfold RD.fld lensR fieldSpec
  simp only [ne_eq, not_true_eq_false, if_false, List.length_drop]
  by_cases g : (getSpec (ys.drop a)).2.2 = 0
  ·by_cases g2 : most.toNat < (getSpec (ys.drop a)).1
   ·simp [g, g2]
   ·by_cases g3 : ys.length - a - (getSpec (ys.drop a)).2.1 < (getSpec (ys.drop a)).1
    ·simp [g, g2, g3]
    ·simp [g, g2, g3]
  ·simp [g]
 have hgf := fun h => getSpec_facts (bs := ys.drop a) h
 rw [List.length_drop] at hgf
 generalize (getSpec (ys.drop a)).1 = zz at *
 generalize (getSpec (ys.drop a)).2.1 = kk at *
 generalize (getSpec (ys.drop a)).2.2 = ee at *
 have hk := keeps_append H
 by_cases hee : ee = 0
 ·subst hee
  obtain ⟨g1, g2, g3⟩ := hgf rfl
  simp only [ne_eq, not_true_eq_false, if_false] at hnum hsgn hfld
  have hplace : f.sort = 1 ∨ f.sort = 2 → f.place = 0 ∨ f.place = 1 ∨ f.place = 2 ∨ f.place = 3 ∨ f.place = 4 ∨ f.place = 5 := fun hs => by
   rcases h3 with ⟨_, z⟩ | ⟨_, z⟩
   ·omega
   ·exact z
  by_cases s1 : f.sort = 1
  ·have hfe : (at0 a).field ys m f = (m.put f.place (((at0 a).num ys f.most.toNat).1 : Nat), ((at0 a).num ys f.most.toNat).2.note (decide (((((at0 a).num ys f.most.toNat).1 : Nat) : Int) < f.least)) 5) := by rw [RD.field, if_pos s1]
   rw [hnum] at hfe
   by_cases q1 : f.most.toNat < zz
   ·rw [if_pos q1] at hfe
    have hne : RD.err ⟨a, 5, 0⟩ ≠ 0 := by rw [show RD.err ⟨a, 5, 0⟩ = 5 from rfl]; omega
    rw [note_err _ _ _ hne] at hfe
    rw [hfe] at herr
    have hq : Q (.tup [.agg (encM m), .int .i64 (a : Nat), .int .i64 5]) H := herr hne m a
    have hd1 : decide (((f.most.toNat : Nat) : Int) < (zz : Int)) = true := decide_eq_true (by omega)
    simp (disch := first | omega | (simp only [lnx]; omega)) only [stdh, stdx, ↓reduceIte, seval, s1, hwm, hd1, List.getElem?_set_self]
    exact ice_keeps (keeps_append _ _) ⟨⟨trivial, trivial, trivial, trivial, trivial, trivial, trivial, closed_pts _ _, closed_ints _ _, trivial, trivial, trivial⟩, trivial, trivial, trivial⟩ hq
   rw [if_neg q1] at hfe
   have hd1 : decide (((f.most.toNat : Nat) : Int) < (zz : Int)) = false := decide_eq_false (by omega)
   have hwz : IntKind.i64.wrap (zz : Int) = (zz : Int) := wrap_i64 (by omega)
   by_cases q2 : (zz : Int) < f.least
   ·have hd2 : decide ((zz : Int) < f.least) = true := decide_eq_true q2
    simp only [hd2] at hfe
    rw [show (at0 (a + kk)).note true 5 = ⟨a + kk, 0, 5⟩ from rfl] at hfe
    rw [hfe] at herr
    have hne : RD.err ⟨a + kk, 0, 5⟩ ≠ 0 := by rw [show RD.err ⟨a + kk, 0, 5⟩ = 5 from rfl]; omega
    have hq : Q (.tup [.agg (encM m), .int .i64 (a : Nat), .int .i64 5]) H := herr hne m a
    simp (disch := first | omega | (simp only [lnx]; omega)) only [stdh, stdx, ↓reduceIte, seval, s1, hwm, hd1, hwz, hd2, List.getElem?_set_self]
    exact ice_keeps (keeps_append _ _) ⟨⟨trivial, trivial, trivial, trivial, trivial, trivial, trivial, closed_pts _ _, closed_ints _ _, trivial, trivial, trivial⟩, trivial, trivial, trivial⟩ hq
   ·have hd2 : decide ((zz : Int) < f.least) = false := decide_eq_false q2
    simp only [hd2] at hfe
    rw [note_none _ _ rfl] at hfe
    rw [hfe] at hok
    have hq := hok rfl
    rcases hplace (.inl s1) with pl | pl | pl | pl | pl | pl
    all_goals
     rw [pl] at hq
     simp (disch := first | omega | (simp only [lnx]; omega)) only [stdh, stdx, ↓reduceIte, seval, s1, hwm, hd1, hwz, hd2, pl, List.getElem?_set_self, Int.reduceLT, Int.reduceLE]
     refine runL_V 60 ?_
     simp (disch := first | omega | (simp only [lnx]; omega)) only [stdh, stdx, ↓reduceIte, seval, List.getElem?_set_self]
     exact ice_keeps (keeps_append _ _) (show closed H.length (.tup [.agg (encM _), _, _]) from ⟨closeds_encM _, trivial, trivial, trivial⟩) hq
  by_cases s2 : f.sort = 2
  ·obtain ⟨b1, b2⟩ := hs2 s2
   have hfe : (at0 a).field ys m f = (m.put f.place ((at0 a).sgn ys f.least f.most).1, ((at0 a).sgn ys f.least f.most).2) := by rw [RD.field, if_neg s1, if_pos s2]
   rw [hsgn, b1, b2] at hfe
   simp (disch := first | omega | (simp only [lnx]; omega)) only [stdh, stdx, ↓reduceIte, seval, s2]
   refine callK_fn (rzag_ok _ zz g3 _ ?_)
   refine runL_V 60 ?_
   have hz := zag_range g3
   generalize hzz : zag zz = z at *
   simp (disch := first | omega | (simp only [lnx]; omega)) only [stdh, stdx, ↓reduceIte, seval, s2]
   refine callK_fn (far_ok _ _ _ ?_)
   refine runL_V 60 ?_
   by_cases q1 : z < -1000000 ∨ 1000000 < z
   ·rw [if_pos q1] at hfe
    rw [hfe] at herr
    have hne : RD.err ⟨a, 5, 0⟩ ≠ 0 := by rw [show RD.err ⟨a, 5, 0⟩ = 5 from rfl]; omega
    have hq : Q (.tup [.agg (encM m), .int .i64 (a : Nat), .int .i64 5]) H := herr hne m a
    rw [decide_eq_true q1]
    simp (disch := first | omega | (simp only [lnx]; omega)) only [stdh, stdx, ↓reduceIte, seval, List.getElem?_set_self]
    exact ice_keeps (keeps_append _ _) ⟨⟨trivial, trivial, trivial, trivial, trivial, trivial, trivial, closed_pts _ _, closed_ints _ _, trivial, trivial, trivial⟩, trivial, trivial, trivial⟩ hq
   ·rw [if_neg q1] at hfe
    rw [hfe] at hok
    have hq := hok rfl
    rw [decide_eq_false q1]
    simp (disch := first | omega | (simp only [lnx]; omega)) only [stdh, stdx, ↓reduceIte, seval, s2, cuneiformref18_field.d0]
    rcases hplace (.inr s2) with pl | pl | pl | pl | pl | pl
    all_goals
     refine callD_fn (rzag_ok _ zz g3 _ ?_)
     rw [hzz]
     refine ⟨by simp (disch := first | omega | (simp only [lnx]; omega)) only [stdh, stdx, ↓reduceIte, seval, pl], ?_⟩
     refine runD_V 60 ?_
     rw [pl] at hq
     simp (disch := first | omega | (simp only [lnx]; omega)) only [stdh, stdx, ↓reduceIte, seval, pl, List.getElem?_set_self, Int.reduceLT, Int.reduceLE]
     exact ice_keeps (keeps_append _ _) (show closed H.length (.tup [.agg (encM _), _, _]) from ⟨closeds_encM _, trivial, trivial, trivial⟩) hq
  have hcount : ∀ most : Nat, (at0 a).count ys most = (if zz = 0 then (0, ⟨a + kk, 0, 13⟩) else if most < zz then (0, ⟨a + kk, 0, 6⟩) else (zz, at0 (a + kk))) := fun most => by
   unfold RD.count
   rw [hnum, if_neg (by omega)]
   by_cases z0 : zz = 0
   ·subst z0; simp [RD.note, RD.err]
   ·by_cases z1 : most < zz
    ·simp [z0, z1, RD.note, RD.err]
    ·simp [z0, z1, RD.note, RD.err]
  have hwz : zz ≤ 1000000 → IntKind.i64.wrap (zz : Int) = (zz : Int) := fun h => wrap_i64 (by omega)
  by_cases s3 : f.sort = 3
  ·obtain ⟨b1, b2⟩ := hst.1 s3
   have hfe : (at0 a).field ys m f = ({ m with p := ((at0 a).path ys).1 }, ((at0 a).path ys).2) := by rw [RD.field, if_neg s1, if_neg s2, if_pos s3]
   unfold RD.path at hfe
   rw [hcount] at hfe
   rw [b2] at hwm
   by_cases z0 : zz = 0
   ·subst z0
    rw [if_pos rfl] at hfe
    rw [hfe] at herr
    have hq : Q (.tup [.agg (encM m), .int .i64 (a : Nat), .int .i64 13]) H := herr (by rw [show RD.err _ = 13 from rfl]; omega) m a
    simp (disch := first | omega | (simp only [lnx]; omega)) only [stdh, stdx, ↓reduceIte, seval, s3, b1, b2, List.getElem?_set_self, Int.reduceLT]
    exact ice_keeps (keeps_append _ _) ⟨⟨trivial, trivial, trivial, trivial, trivial, trivial, trivial, closed_pts _ _, closed_ints _ _, trivial, trivial, trivial⟩, trivial, trivial, trivial⟩ hq
   rw [if_neg z0] at hfe
   have hd0 : decide ((zz : Int) = 0) = false := decide_eq_false (by omega)
   by_cases z1 : 16 < zz
   ·rw [if_pos z1] at hfe
    rw [hfe] at herr
    have hq : Q (.tup [.agg (encM m), .int .i64 (a : Nat), .int .i64 6]) H := herr (by rw [show RD.err _ = 6 from rfl]; omega) m a
    have hd1 : decide ((16 : Int) < (zz : Int)) = true := decide_eq_true (by omega)
    simp (disch := first | omega | (simp only [lnx]; omega)) only [stdh, stdx, ↓reduceIte, seval, s3, b1, b2, hd0, hd1, hwm, List.getElem?_set_self, Int.reduceLT]
    refine run_V0 60 ?_
    simp (disch := first | omega | (simp only [lnx]; omega)) only [stdh, stdx, ↓reduceIte, seval, List.getElem?_set_self]
    exact ice_keeps (keeps_append _ _) ⟨⟨trivial, trivial, trivial, trivial, trivial, trivial, trivial, closed_pts _ _, closed_ints _ _, trivial, trivial, trivial⟩, trivial, trivial, trivial⟩ hq
   rw [if_neg z1] at hfe
   have hd1 : decide ((16 : Int) < (zz : Int)) = false := decide_eq_false (by omega)
   rw [hfe] at hok herr
   simp only at hok herr
   simp (disch := first | omega | (simp only [lnx]; omega)) only [stdh, stdx, ↓reduceIte, seval, s3, b1, b2, hd0, hd1, hwm, hwz (by omega), List.getElem?_set_self, Int.reduceLT]
   refine run_V0 60 ?_
   simp (disch := first | omega | (simp only [lnx]; omega)) only [stdh, stdx, ↓reduceIte, seval, s3, hwz (by omega), List.getElem?_set_self]
   refine callK_fn (rpath18_ok _ hb hlen (hp0 s3) (by omega) (by omega) _ (fun he => ?_) (fun he m' a' => ?_))
   ·have hq := hok he
    refine runL_V 60 ?_
    simp (disch := first | omega | (simp only [lnx]; omega)) only [stdh, stdx, ↓reduceIte, seval, encM, List.getElem?_set_self]
    exact ice_keeps (keeps_append _ _) ⟨⟨trivial, trivial, trivial, trivial, trivial, trivial, trivial, closed_pts _ _, closed_ints _ _, trivial, trivial, trivial⟩, trivial, trivial, trivial⟩ hq
   ·have hq := herr he m' a'
    refine runL_V 60 ?_
    simp (disch := first | omega | (simp only [lnx]; omega)) only [stdh, stdx, ↓reduceIte, seval, encM, List.getElem?_set_self]
    exact ice_keeps (keeps_append _ _) ⟨⟨trivial, trivial, trivial, trivial, trivial, trivial, trivial, closed_pts _ _, closed_ints _ _, trivial, trivial, trivial⟩, trivial, trivial, trivial⟩ hq
  by_cases s4 : f.sort = 4
  ·obtain ⟨b1, b2⟩ := hst.2.1 s4
   have hfe : (at0 a).field ys m f = ({ m with c := ((at0 a).cells ys).1 }, ((at0 a).cells ys).2) := by rw [RD.field, if_neg s1, if_neg s2, if_neg s3, if_pos s4]
   unfold RD.cells at hfe
   rw [hcount] at hfe
   rw [b2] at hwm
   by_cases z0 : zz = 0
   ·subst z0
    rw [if_pos rfl] at hfe
    rw [hfe] at herr
    have hq : Q (.tup [.agg (encM m), .int .i64 (a : Nat), .int .i64 13]) H := herr (by rw [show RD.err _ = 13 from rfl]; omega) m a
    simp (disch := first | omega | (simp only [lnx]; omega)) only [stdh, stdx, ↓reduceIte, seval, s4, b1, b2, List.getElem?_set_self, Int.reduceLT]
    exact ice_keeps (keeps_append _ _) ⟨⟨trivial, trivial, trivial, trivial, trivial, trivial, trivial, closed_pts _ _, closed_ints _ _, trivial, trivial, trivial⟩, trivial, trivial, trivial⟩ hq
   rw [if_neg z0] at hfe
   have hd0 : decide ((zz : Int) = 0) = false := decide_eq_false (by omega)
   by_cases z1 : 32 < zz
   ·rw [if_pos z1] at hfe
    rw [hfe] at herr
    have hq : Q (.tup [.agg (encM m), .int .i64 (a : Nat), .int .i64 6]) H := herr (by rw [show RD.err _ = 6 from rfl]; omega) m a
    have hd1 : decide ((32 : Int) < (zz : Int)) = true := decide_eq_true (by omega)
    simp (disch := first | omega | (simp only [lnx]; omega)) only [stdh, stdx, ↓reduceIte, seval, s4, b1, b2, hd0, hd1, hwm, List.getElem?_set_self, Int.reduceLT]
    refine run_V0 60 ?_
    simp (disch := first | omega | (simp only [lnx]; omega)) only [stdh, stdx, ↓reduceIte, seval, List.getElem?_set_self]
    exact ice_keeps (keeps_append _ _) ⟨⟨trivial, trivial, trivial, trivial, trivial, trivial, trivial, closed_pts _ _, closed_ints _ _, trivial, trivial, trivial⟩, trivial, trivial, trivial⟩ hq
   rw [if_neg z1] at hfe
   have hd1 : decide ((32 : Int) < (zz : Int)) = false := decide_eq_false (by omega)
   rw [hfe] at hok herr
   simp only at hok herr
   simp (disch := first | omega | (simp only [lnx]; omega)) only [stdh, stdx, ↓reduceIte, seval, s4, b1, b2, hd0, hd1, hwm, hwz (by omega), List.getElem?_set_self, Int.reduceLT]
   refine run_V0 60 ?_
   simp (disch := first | omega | (simp only [lnx]; omega)) only [stdh, stdx, ↓reduceIte, seval, s4, hwz (by omega), List.getElem?_set_self]
   refine callK_fn (rcells18_ok _ hb hlen (hc0 s4) (by omega) (by omega) _ (fun he => ?_) (fun he m' a' => ?_))
   ·have hq := hok he
    refine runL_V 60 ?_
    simp (disch := first | omega | (simp only [lnx]; omega)) only [stdh, stdx, ↓reduceIte, seval, encM, List.getElem?_set_self]
    exact ice_keeps (keeps_append _ _) ⟨⟨trivial, trivial, trivial, trivial, trivial, trivial, trivial, closed_pts _ _, closed_ints _ _, trivial, trivial, trivial⟩, trivial, trivial, trivial⟩ hq
   ·have hq := herr he m' a'
    refine runL_V 60 ?_
    simp (disch := first | omega | (simp only [lnx]; omega)) only [stdh, stdx, ↓reduceIte, seval, encM, List.getElem?_set_self]
    exact ice_keeps (keeps_append _ _) ⟨⟨trivial, trivial, trivial, trivial, trivial, trivial, trivial, closed_pts _ _, closed_ints _ _, trivial, trivial, trivial⟩, trivial, trivial, trivial⟩ hq
  -- a text
  have hl0 : f.least = 0 := by
   rcases h3 with ⟨_, z⟩ | ⟨z, _⟩
   ·by_cases s5 : f.sort = 5
    ·exact (hst.2.2.1 s5).1
    ·exact (hst.2.2.2 (by omega)).1
   ·omega
  have hnl : decide ((zz : Int) = 0) = true ∨ decide ((zz : Int) = 0) = false := by cases decide ((zz : Int) = 0) <;> simp
  have hrf := hfld f.most
  have ht : (at0 a).text ys f.most = (((at0 a).fld ys f.most).1, ((at0 a).fld ys f.most).2.note (((at0 a).fld ys f.most).1.any badB) 19) := rfl
  rw [hrf] at ht
  have hfe : ((at0 a).field ys m f).2 = ((at0 a).text ys f.most).2 := by
   rw [RD.field, if_neg s1, if_neg s2, if_neg s3, if_neg s4]
   split <;> rfl
  have hgt : decide ((0 : Int) < f.least) = false := decide_eq_false (by omega)
  have hs12 : f.sort ≠ 1 ∧ f.sort ≠ 2 := ⟨s1, s2⟩
  rw [hfe, ht] at herr
  by_cases z1 : f.most.toNat < zz
  ·rw [if_pos z1] at herr
   have hne : RD.err ⟨a, 6, 0⟩ ≠ 0 := by rw [show RD.err ⟨a, 6, 0⟩ = 6 from rfl]; omega
   simp only [note_err _ _ _ hne] at herr
   have hq : Q (.tup [.agg (encM m), .int .i64 (a : Nat), .int .i64 6]) H := herr hne m a
   have hd1 : decide (((f.most.toNat : Nat) : Int) < (zz : Int)) = true := decide_eq_true (by omega)
   rcases hnl with hz | hz
   all_goals
    simp (disch := first | omega | (simp only [lnx]; omega)) only [stdh, stdx, ↓reduceIte, seval, s1, s2, hz, hgt, hd1, hwm, List.getElem?_set_self]
    refine run_V0 60 ?_
    simp (disch := first | omega | (simp only [lnx]; omega)) only [stdh, stdx, ↓reduceIte, seval, hz, hgt, hd1, hwm, List.getElem?_set_self]
    exact ice_keeps (keeps_append _ _) ⟨⟨trivial, trivial, trivial, trivial, trivial, trivial, trivial, closed_pts _ _, closed_ints _ _, trivial, trivial, trivial⟩, trivial, trivial, trivial⟩ hq
  rw [if_neg z1] at herr
  have hd1 : decide (((f.most.toNat : Nat) : Int) < (zz : Int)) = false := decide_eq_false (by omega)
  by_cases z2 : ys.length - a - kk < zz
  ·rw [if_pos z2] at herr
   have hne : RD.err ⟨a, 4, 0⟩ ≠ 0 := by rw [show RD.err ⟨a, 4, 0⟩ = 4 from rfl]; omega
   simp only [note_err _ _ _ hne] at herr
   have hq : Q (.tup [.agg (encM m), .int .i64 (a : Nat), .int .i64 4]) H := herr hne m a
   have hd2 : decide ((ys.length : Int) - ((a + kk : Nat) : Int) < (zz : Int)) = true := decide_eq_true (by omega)
   rcases hnl with hz | hz
   all_goals
    simp (disch := first | omega | (simp only [lnx]; omega)) only [stdh, stdx, ↓reduceIte, seval, s1, s2, hz, hgt, hd1, hwm, hwz (by omega), List.getElem?_set_self]
    refine run_V0 60 ?_
    simp (disch := first | omega | (simp only [lnx]; omega)) only [stdh, stdx, ↓reduceIte, seval, s3, s4, hz, hgt, hd1, hd2, hwm, hwz (by omega), List.getElem?_set_self]
    exact ice_keeps (keeps_append _ _) ⟨⟨trivial, trivial, trivial, trivial, trivial, trivial, trivial, closed_pts _ _, closed_ints _ _, trivial, trivial, trivial⟩, trivial, trivial, trivial⟩ hq
  have hd2 : decide ((ys.length : Int) - ((a + kk : Nat) : Int) < (zz : Int)) = false := decide_eq_false (by omega)
  rw [if_neg z2] at herr ht
  rw [if_neg z1] at ht
  have hX : List.take ((((a + kk : Nat) : Int) + (zz : Int)).toNat - (a + kk)) (List.drop (a + kk) ys) = ((ys.drop a).drop kk).take zz := by
   rw [List.drop_drop, show (((a + kk : Nat) : Int) + (zz : Int)).toNat - (a + kk) = zz by omega]
  have hX256 : ∀ b ∈ ((ys.drop a).drop kk).take zz, b < 256 := fun b h => hb b (List.mem_of_mem_drop (List.mem_of_mem_drop (List.mem_of_mem_take h)))
  have hXl : (((ys.drop a).drop kk).take zz).length ≤ 1000000 := by simp only [List.length_take, List.length_drop]; omega
  have hbt := bytesOf_textOf hX256
  have hsz : (textOf (((ys.drop a).drop kk).take zz)).size < 9223372036854775807 := by
   rw [show (textOf (((ys.drop a).drop kk).take zz)).size = (((ys.drop a).drop kk).take zz).length by simp [textOf, ByteArray.size]]; omega
  rw [hfe, ht] at hok
  have hm1 : ((at0 a).field ys m f).1 = if f.sort = 5 then { m with t := textOf (((ys.drop a).drop kk).take zz) } else { m with g := textOf (((ys.drop a).drop kk).take zz) } := by
   rw [RD.field, if_neg s1, if_neg s2, if_neg s3, if_neg s4, ht]
   split <;> rfl
  rw [hm1] at hok
  clear hm1 hfe ht hnum hsgn hfld hcount hrf
  generalize ((ys.drop a).drop kk).take zz = X at *
  have hnote : ∀ b : Bool, ((at0 (a + (kk + zz))).note b 19) = if b = true then ⟨a + (kk + zz), 0, 19⟩ else at0 (a + (kk + zz)) := fun b => by cases b <;> rfl
  have hRr : X.any badB = true → Q (.tup [.agg (encM m), .int .i64 (a : Nat), .int .i64 19]) H := fun hx => by
   have hh := herr
   rw [show (RD.note (X, at0 (a + (kk + zz))).2 ((X, at0 (a + (kk + zz))).1.any badB) 19) = ⟨a + (kk + zz), 0, 19⟩ by simp only [hx]; rfl] at hh
   exact hh (by rw [show RD.err _ = 19 from rfl]; omega) m a
  have hOk : (bytesOf (textOf X)).any badB = false → Q (.tup [.agg (encM (if f.sort = 5 then { m with t := textOf X } else { m with g := textOf X })), .int .i64 ((a + (kk + zz) : Nat) : Int), .int .i64 0]) H := fun hx => by
   have hh := hok
   rw [hbt] at hx
   rw [show (RD.note (X, at0 (a + (kk + zz))).2 ((X, at0 (a + (kk + zz))).1.any badB) 19) = at0 (a + (kk + zz)) by simp only [hx]; rfl] at hh
   exact hh rfl
  clear hok herr
  have hRr' : (bytesOf (textOf X)).any badB = true → Q (.tup [.agg (encM m), .int .i64 (a : Nat), .int .i64 19]) H := fun hx => hRr (by rw [hbt] at hx; exact hx)
  have hsum : ((a + kk : Nat) : Int) + (zz : Int) = ((a + (kk + zz) : Nat) : Int) := by omega
  rcases hnl with hz | hz
  all_goals
   simp (disch := first | omega | (simp only [lnx]; omega)) only [stdh, stdx, ↓reduceIte, seval, s1, s2, hz, hgt, hd1, hwm, hwz (by omega), List.getElem?_set_self]
   refine run_V0 32 ?_
   simp (disch := first | omega | (simp only [lnx]; omega)) only [stdh, stdx, ↓reduceIte, seval, s3, s4, hz, hgt, hd1, hd2, hwm, hwz (by omega), List.getElem?_set_self]
   refine runL_V 12 ?_
   simp (disch := first | omega | (simp only [lnx]; omega)) only [stdh, stdx, ↓reduceIte, seval, hwz (by omega)]
   refine runL_b2s (nums_nats .u8 _ _ _) ?_
   refine runL_V 60 ?_
   rw [hX]
   simp (disch := first | omega | (simp only [lnx]; omega)) only [stdh, stdx, ↓reduceIte, seval]
   refine rft_loop hsz _ Q (keeps_append _ _) at_0 at_k ?_ hRr' _ 0 rfl (Nat.zero_le _) rfl
   intro hs r r4 r5 r8 r11 r12 r14
   have hq := hOk hs
   refine run_V0 60 ?_
   by_cases s5 : f.sort = 5
   ·rw [if_pos s5] at hq
    simp (disch := first | omega | (simp only [lnx]; omega)) only [stdh, stdx, ↓reduceIte, seval, r4, r5, r8, r11, r12, r14, s5, hwz (by omega), List.getElem?_set_self]
    rw [hsum]
    exact ice_keeps (keeps_append _ _) ⟨⟨trivial, trivial, trivial, trivial, trivial, trivial, trivial, closed_pts _ _, closed_ints _ _, trivial, trivial, trivial⟩, trivial, trivial, trivial⟩ hq
   ·rw [if_neg s5] at hq
    simp (disch := first | omega | (simp only [lnx]; omega)) only [stdh, stdx, ↓reduceIte, seval, r4, r5, r8, r11, r12, r14, s5, hwz (by omega), List.getElem?_set_self]
    rw [hsum]
    exact ice_keeps (keeps_append _ _) ⟨⟨trivial, trivial, trivial, trivial, trivial, trivial, trivial, closed_pts _ _, closed_ints _ _, trivial, trivial, trivial⟩, trivial, trivial, trivial⟩ hq
 ·have hd : decide ((ee : Int) = 0) = false := decide_eq_false (by omega)
  simp only [ne_eq, hee, not_false_eq_true, if_true] at hnum hsgn hfld
  have hne : RD.err ⟨a, ee, 0⟩ ≠ 0 := by rw [show RD.err ⟨a, ee, 0⟩ = ee from rfl]; exact hee
  have hfe : ((at0 a).field ys m f).2 = ⟨a, ee, 0⟩ := by
   unfold RD.field
   have hct : ∀ most, (at0 a).count ys most = (0, ⟨a, ee, 0⟩) := fun most => by
    unfold RD.count
    rw [hnum]
    simp only [note_err _ _ _ hne, hne, if_false]
   by_cases s1 : f.sort = 1
   ·rw [if_pos s1, hnum]; exact note_err _ _ _ hne
   rw [if_neg s1]
   by_cases s2 : f.sort = 2
   ·rw [if_pos s2, hsgn]
   rw [if_neg s2]
   by_cases s3 : f.sort = 3
   ·rw [if_pos s3]; unfold RD.path; rw [hct]; rfl
   rw [if_neg s3]
   by_cases s4 : f.sort = 4
   ·rw [if_pos s4]; unfold RD.cells; rw [hct]; rfl
   rw [if_neg s4]
   have ht : ((at0 a).text ys f.most).2 = ⟨a, ee, 0⟩ := by
    unfold RD.text; rw [hfld]
    simp only [note_err _ _ _ hne]
   by_cases s5 : f.sort = 5
   ·rw [if_pos s5]; exact ht
   ·rw [if_neg s5]; exact ht
  rw [hfe] at herr
  have hq := herr hne m a
  rw [show RD.err ⟨a, ee, 0⟩ = ee from rfl] at hq
  simp (disch := first | omega | (simp only [lnx]; omega)) only [stdh, stdx, ↓reduceIte, seval, hd, List.getElem?_set_self]
  exact ice_keeps (keeps_append _ _) ⟨⟨trivial, trivial, trivial, trivial, trivial, trivial, trivial, closed_pts _ _, closed_ints _ _, trivial, trivial, trivial⟩, trivial, trivial, trivial⟩ hq
abbrev rdC : Ctx := ⟨F.cuneiformref18_Decode, 69, [.cell 6 (some 11), .tmp 7], none⟩
theorem err0_at0 {s : RD} (h : s.err = 0) : s = at0 s.a := by
 obtain ⟨a, e, w⟩ := s
 unfold RD.err at h
 simp only at h
 split at h <;> simp_all [at0]
theorem put_pc (m : Mg) (j v : Int) : (m.put j v).p = m.p ∧ (m.put j v).c = m.c := by
 unfold Mg.put
 repeat' split
 all_goals exact ⟨rfl, rfl⟩
theorem field_pc (ys : List Nat) (s : RD) (m : Mg) (f : Fld) : (f.sort ≠ 3 → (s.field ys m f).1.p = m.p) ∧ (f.sort ≠ 4 → (s.field ys m f).1.c = m.c) := by
 unfold RD.field
 by_cases s1 : f.sort = 1
 ·rw [if_pos s1]; exact ⟨fun _ => (put_pc _ _ _).1, fun _ => (put_pc _ _ _).2⟩
 rw [if_neg s1]
 by_cases s2 : f.sort = 2
 ·rw [if_pos s2]; exact ⟨fun _ => (put_pc _ _ _).1, fun _ => (put_pc _ _ _).2⟩
 rw [if_neg s2]
 by_cases s3 : f.sort = 3
 ·rw [if_pos s3]; exact ⟨fun h => absurd s3 h, fun _ => rfl⟩
 rw [if_neg s3]
 by_cases s4 : f.sort = 4
 ·rw [if_pos s4]; exact ⟨fun _ => rfl, fun h => absurd s4 h⟩
 rw [if_neg s4]
 split
 ·exact ⟨fun _ => rfl, fun _ => rfl⟩
 ·exact ⟨fun _ => rfl, fun _ => rfl⟩
def onePC : List Fld → Bool
 | [] => true
 | f :: l => (l.all fun g => (decide (f.sort = 3) && decide (g.sort = 3)) == false && (decide (f.sort = 4) && decide (g.sort = 4)) == false) && onePC l
theorem fieldsOf_onePC (k : Int) : onePC (fieldsOf k) = true := by
 unfold fieldsOf
 split
 ·decide +kernel
 split
 ·decide +kernel
 split
 ·decide +kernel
 split
 ·decide +kernel
 split
 ·decide +kernel
 ·rfl
theorem onePC_drop : ∀ {l : List Fld} (i : Nat), onePC l = true → onePC (l.drop i) = true
 | _, 0, h => h
 | [], i + 1, h => h
 | _ :: l, i + 1, h => onePC_drop i (by unfold onePC at h; exact (Bool.and_eq_true _ _ ▸ h).2)
set_option maxRecDepth 10000 in
set_option maxHeartbeats 8000000 in
theorem rdec_loop {k v : Int} {ys : List Nat} {t : Bool} (hb : ∀ b ∈ ys, b < 256) (hlen : ys.length ≤ 1000000) {VF : List Fld} {m0 : Mg} {S : Mg × RD} (hS : S = lastS ys VF m0) (K : List AItem) {H0 : AHeap} (Q : AVal → AHeap → Prop)
  (hK : S.2.err = 0 → ∀ r H, Keeps H0 H → H[H0.length]? = some bare17 → H[H0.length + 1]? = some (.cells (encM S.1) T.cuneiformref17_M) → rget r 1 = .int .i64 v → rget r 2 = nums .u8 t ys → rget r 6 = .ptr H0.length 0 → rget r 9 = .ptr (H0.length + 1) 0 → rget r 10 = .int .i64 (S.2.a : Nat) → Run Try.prog rdC K r H (IceQ H0 Q))
  (hR : S.2.err ≠ 0 → Q (.tup [.agg (encM mg0), .int .i64 (S.2.err : Nat)]) H0) :
  ∀ (z i j : Nat) (H : AHeap), (fieldsOf k).length - i = z → i ≤ (fieldsOf k).length → VF.drop j = ((fieldsOf k).drop i).filter (fun f => decide (f.since ≤ v)) → endS ys VF m0 (VF.length - j) j = endS ys VF m0 VF.length 0 → (stS ys VF m0 j).2.err = 0 → Keeps H0 H → H[H0.length]? = some bare17 → H[H0.length + 1]? = some (.cells (encM (stS ys VF m0 j).1) T.cuneiformref17_M) →
   (∀ f ∈ (fieldsOf k).drop i, (f.sort = 3 → (stS ys VF m0 j).1.p = []) ∧ (f.sort = 4 → (stS ys VF m0 j).1.c = [])) →
   Rounds Try.prog rdC cuneiformref18_Decode.b1 [.inBlock 0] K [(1, .int .i64 v), (2, nums .u8 t ys), (6, .ptr H0.length 0), (8, recs encF false (fieldsOf k)), (9, .ptr (H0.length + 1) 0), (10, .int .i64 ((stS ys VF m0 j).2.a : Nat)), (11, .int .i64 (i : Nat))] H (IceQ H0 Q)
 | z, i, j, H, h1, h2, h3, h4, h5, hk, e0, e1, hpc => by
  refine loop_V 200 cuneiformref18_Decode.b1.eq_1 ?_
  have hfl := fieldsOf_len k
  by_cases hi : i < (fieldsOf k).length
  ·have hld : ∀ H, loadA H (some 7) (.sptr (recs encF false (fieldsOf k)) (i * 7)) = some (True, .agg (encF ((fieldsOf k).getD i fld0))) := fun H => load_recs (enc := encF) (t := false) encF_len hi
   have l5 : ∀ H, loadA H none (.sptr (recs encF false (fieldsOf k)) (i * 7 + 5)) = some (True, .int .i64 ((fieldsOf k).getD i fld0).since) := fun H => load_rec1 (enc := encF) (t := false) encF_len hi (by omega)
   have hmem := getD_mem hi
   have hone := onePC_drop i (fieldsOf_onePC k)
   have hdrop : (fieldsOf k).drop i = (fieldsOf k).getD i fld0 :: (fieldsOf k).drop (i + 1) := by rw [List.drop_eq_getElem_cons hi]; simp [hi]
   rw [hdrop] at h3 hone hpc
   generalize hx : (fieldsOf k).getD i fld0 = x at *
   have hcast : (i : Int) + 1 = ((i + 1 : Nat) : Int) := by omega
   by_cases hs : x.since ≤ v
   ·rw [List.filter_cons_of_pos (by simpa using hs)] at h3
    have hjl : j < VF.length := by
     have := congrArg List.length h3
     rw [List.length_drop] at this; simp at this; omega
    have hj : VF.getD j fld0 = x ∧ VF.drop (j + 1) = ((fieldsOf k).drop (i + 1)).filter (fun f => decide (f.since ≤ v)) := by
     rw [List.drop_eq_getElem_cons hjl] at h3
     injection h3 with q1 q2
     exact ⟨by simp [hjl, q1], q2⟩
    have hst : stS ys VF m0 (j + 1) = (at0 (stS ys VF m0 j).2.a).field ys (stS ys VF m0 j).1 x := by rw [stS, hj.1, ← err0_at0 h5]
    obtain ⟨p3, p4⟩ := hpc x (List.mem_cons_self ..)
    have hle : (stS ys VF m0 j).2.a ≤ ys.length := stS_le j
    have hend : endS ys VF m0 (VF.length - j) j = if (stS ys VF m0 (j + 1)).2.err = 0 then endS ys VF m0 (VF.length - (j + 1)) (j + 1) else j + 1 := by
     rw [show VF.length - j = (VF.length - (j + 1)) + 1 by omega, endS]
    have hpc2 := field_pc ys (at0 (stS ys VF m0 j).2.a) (stS ys VF m0 j).1 x
    rw [← hst] at hpc2
    have e1' : H[H0.length + 1]? = some (ABlk.cells [.int .i64 (stS ys VF m0 j).1.k, .int .i64 (stS ys VF m0 j).1.n0, .int .i64 (stS ys VF m0 j).1.n1, .int .i64 (stS ys VF m0 j).1.n2, .int .i64 (stS ys VF m0 j).1.n3, .int .i64 (stS ys VF m0 j).1.n4, .int .i64 (stS ys VF m0 j).1.n5, recs encP false (stS ys VF m0 j).1.p, ints false (stS ys VF m0 j).1.c, .str (stS ys VF m0 j).1.t, .str (stS ys VF m0 j).1.g] T.cuneiformref17_M) := e1
    have hl1 : H0.length + 1 < H.length := (List.getElem?_eq_some_iff.1 e1).1
    have eb : H[H0.length]? = some (ABlk.cells [.int .i64 0, .int .i64 0, .int .i64 0, .int .i64 0, .int .i64 0, .int .i64 0, .int .i64 0, .nils, .nils, .str ⟨#[]⟩, .str ⟨#[]⟩] T.cuneiformref17_M) := e0
    have hpc' : ∀ f ∈ (fieldsOf k).drop (i + 1), (f.sort = 3 → (stS ys VF m0 (j + 1)).1.p = []) ∧ (f.sort = 4 → (stS ys VF m0 (j + 1)).1.c = []) := fun f hf => by
     rw [onePC, Bool.and_eq_true, List.all_eq_true] at hone
     have h := hone.1 f hf
     refine ⟨fun s => ?_, fun s => ?_⟩
     ·rw [hpc2.1 (fun s' => by simp [s, s'] at h)]; exact (hpc f (List.mem_cons_of_mem _ hf)).1 s
     ·rw [hpc2.2 (fun s' => by simp [s, s'] at h)]; exact (hpc f (List.mem_cons_of_mem _ hf)).2 s
    have ela : ∀ L : AHeap, (H ++ L)[H0.length + 1]? = some (ABlk.cells [.int .i64 (stS ys VF m0 j).1.k, .int .i64 (stS ys VF m0 j).1.n0, .int .i64 (stS ys VF m0 j).1.n1, .int .i64 (stS ys VF m0 j).1.n2, .int .i64 (stS ys VF m0 j).1.n3, .int .i64 (stS ys VF m0 j).1.n4, .int .i64 (stS ys VF m0 j).1.n5, recs encP false (stS ys VF m0 j).1.p, ints false (stS ys VF m0 j).1.c, .str (stS ys VF m0 j).1.t, .str (stS ys VF m0 j).1.g] T.cuneiformref17_M) := fun L => (at_low hl1).trans e1'
    have elb : ∀ L : AHeap, (H ++ L)[H0.length]? = some (ABlk.cells [.int .i64 0, .int .i64 0, .int .i64 0, .int .i64 0, .int .i64 0, .int .i64 0, .int .i64 0, .nils, .nils, .str ⟨#[]⟩, .str ⟨#[]⟩] T.cuneiformref17_M) := fun L => (at_low (by omega)).trans eb
    simp (disch := first | omega | (simp only [lnx]; omega)) only [stdh, stdx, ↓reduceIte, seval, hld, l5, hs, cuneiformref18_Decode.d0, e1', ela]
    refine ⟨?_, ?_⟩
    all_goals
     refine callD_fn (rfield18_ok _ hb hlen (m := (stS ys VF m0 j).1) (f := x) (k := k) hmem p3 p4 hle _ (fun he => ?_) (fun he m' a' => ?_))
     ·rw [← hst] at he ⊢
      refine ⟨by simp (disch := first | omega | (simp only [lnx]; omega)) only [stdh, stdx, ↓reduceIte, seval, hld, encM, ela], ?_⟩
      refine runD_V 60 ?_
      simp (disch := first | omega | (simp only [lnx]; omega)) only [stdh, stdx, ↓reduceIte, seval, hld, encM, ela, List.getElem?_set_self]
      rw [hcast]
      rw [hend, if_pos he] at h4
      refine rdec_loop hb hlen hS K Q hK hR _ (i + 1) (j + 1) _ rfl (by omega) hj.2 h4 he ((hk.trans (keeps_append _ _)).set (n := H0.length + 1) (by omega) _) ?_ ?_ hpc'
      ·rw [List.getElem?_set_ne (by omega)]; exact elb _
      ·rw [List.getElem?_set_self (by rw [List.length_append]; omega)]; rfl
     ·rw [← hst] at he ⊢
      refine ⟨by simp (disch := first | omega | (simp only [lnx]; omega)) only [stdh, stdx, ↓reduceIte, seval, hld, encM, ela], ?_⟩
      refine runD_V 60 ?_
      have hd : decide (((stS ys VF m0 (j + 1)).2.err : Int) = 0) = false := decide_eq_false (by omega)
      simp (disch := first | omega | (simp only [lnx]; omega)) only [stdh, stdx, ↓reduceIte, seval, hld, encM, ela, elb, List.getElem?_set_self, hd]
      rw [hend, if_neg he] at h4
      have hSe : stS ys VF m0 (j + 1) = S := by rw [hS, lastS, ← h4]
      rw [hSe] at he ⊢
      exact bare_ice _ ((hk.trans (keeps_append _ _)).set (n := H0.length) (Nat.le_refl _) _) (hR he)
   ·rw [List.filter_cons_of_neg (by simpa using hs)] at h3
    simp (disch := first | omega | (simp only [lnx]; omega)) only [stdh, stdx, ↓reduceIte, seval, hld, l5, hs]
    rw [hcast]
    exact rdec_loop hb hlen hS K Q hK hR _ (i + 1) j H rfl (by omega) h3 h4 h5 hk e0 e1 (fun f hf => hpc f (List.mem_cons_of_mem _ hf))
  ·simp (disch := first | omega | (simp only [lnx]; omega)) only [stdh, stdx, ↓reduceIte, seval]
   have hn : (fieldsOf k).drop i = [] := List.drop_eq_nil_of_le (by omega)
   rw [hn, List.filter_nil] at h3
   have hjl : VF.length - j = 0 := by
    have := congrArg List.length h3
    rw [List.length_drop] at this; simpa using this
   rw [hjl] at h4
   have : stS ys VF m0 j = S := by rw [hS, lastS, ← h4, endS]
   rw [this] at h5 e1 ⊢
   exact hK h5 _ _ hk e0 e1 rfl rfl rfl rfl rfl
 termination_by z => z
set_option maxRecDepth 10000 in
set_option maxHeartbeats 8000000 in
/-- The document's decoder is the program's. -/
theorem rdecode_ok (H : AHeap) {k v : Int} {ys : List Nat} {t : Bool} (hb : ∀ b ∈ ys, b < 256) (hlen : ys.length ≤ 1000000) (Q : AVal → AHeap → Prop) (h : Q (.tup [.agg (encM (decM k v ys).1), .int .i64 ((decM k v ys).2 : Nat)]) H) : FunOK Try.prog F.cuneiformref18_Decode [.int .i64 k, .int .i64 v, nums .u8 t ys] H Q := by
 refine fun_iced cuneiformref18_Decode_code fun hcl => ?_
 refine fun_V 60 cuneiformref18_Decode_code rfl ?_
 have hbare : ∀ H' (e : Nat), Keeps H H' → decM k v ys = (mg0, e) → IceQ H Q (.tup [bareV, .int .i64 (e : Nat)]) H' := fun H' e hk he => by
  rw [he] at h
  exact bare_ice e hk h
 by_cases hv : v ≠ 1 ∧ v ≠ 2
 ·simp (disch := first | omega | (simp only [lnx]; omega)) only [stdh, stdx, ↓reduceIte, seval, cuneiformref18_Decode, cuneiformref18_Decode.body, hv.1, hv.2]
  exact hbare _ 10 (keeps_append _ _) (by rw [decM, if_pos hv])
 have hvb : (v = 1) ∨ (v ≠ 1 ∧ v = 2) := by omega
 obtain ⟨m0, hm0e⟩ : ∃ m0 : Mg, m0 = { mg0 with k := k } := ⟨_, rfl⟩
 have hm0 : m0.small := by rw [hm0e]; exact ⟨Nat.zero_le _, Nat.zero_le _⟩
 have hfl := fieldsOf_len k
 rcases hvb with hv1 | ⟨hv1, hv2⟩
 case' inl =>
  have hd : decide (v = 1) = true := decide_eq_true hv1
  simp (disch := first | omega | (simp only [lnx]; omega)) only [stdh, stdx, ↓reduceIte, seval, cuneiformref18_Decode, cuneiformref18_Decode.body, hd]
 case' inr =>
  have hd1 : decide (v = 1) = false := decide_eq_false hv1
  have hd2 : decide (v = 2) = true := decide_eq_true hv2
  simp (disch := first | omega | (simp only [lnx]; omega)) only [stdh, stdx, ↓reduceIte, seval, cuneiformref18_Decode, cuneiformref18_Decode.body, hd1, hd2]
 all_goals
  refine callK_fn (rall16_ok _ _ _ ?_)
  refine runL_V 60 ?_
  by_cases hfs : fieldsOf k = []
  ·rw [hfs]
   simp (disch := first | omega | (simp only [lnx]; omega)) only [stdh, stdx, ↓reduceIte, seval]
   exact hbare _ 9 (keeps_append _ _) (by rw [decM, if_neg hv, if_pos hfs])
  have hl0 : decide (((fieldsOf k).length : Int) = 0) = false := decide_eq_false (fun hh => hfs (List.eq_nil_of_length_eq_zero (by omega)))
  simp (disch := first | omega | (simp only [lnx]; omega)) only [stdh, stdx, ↓reduceIte, seval, hl0]
  have hm4 : (H ++ [ABlk.cells [.int .i64 0, .int .i64 0, .int .i64 0, .int .i64 0, .int .i64 0, .int .i64 0, .int .i64 0, .nils, .nils, .str ⟨#[]⟩, .str ⟨#[]⟩] T.cuneiformref17_M, ABlk.cells [.int .i64 k, .int .i64 0, .int .i64 0, .int .i64 0, .int .i64 0, .int .i64 0, .int .i64 0, .nils, .nils, .str ⟨#[]⟩, .str ⟨#[]⟩] T.cuneiformref17_M])[H.length + 1]? = some (ABlk.cells [.int .i64 k, .int .i64 0, .int .i64 0, .int .i64 0, .int .i64 0, .int .i64 0, .int .i64 0, .nils, .nils, .str ⟨#[]⟩, .str ⟨#[]⟩] T.cuneiformref17_M) := at_k
  refine run_told hm4 (cs' := encM m0) (by rw [hm0e]; exact sees_bare k) ?_
  have hdec : decM k v ys = if (lastS ys (versionFields k v) m0).2.err ≠ 0 then (mg0, (lastS ys (versionFields k v) m0).2.err) else if (lastS ys (versionFields k v) m0).2.a < ys.length then (mg0, 3) else (projectM (lastS ys (versionFields k v) m0).1 v, 0) := by
   rw [hm0e, decM, if_neg hv, if_neg hfs]
  have hsm : (lastS ys (versionFields k v) m0).1.small := stS_small hm0 _
  have hp0 : ∀ f ∈ (fieldsOf k).drop 0, (f.sort = 3 → (stS ys (versionFields k v) m0 0).1.p = []) ∧ (f.sort = 4 → (stS ys (versionFields k v) m0 0).1.c = []) := fun f hf => by
   rw [stS, hm0e]; exact ⟨fun _ => rfl, fun _ => rfl⟩
  refine rdec_loop (v := v) (VF := versionFields k v) (m0 := m0) hb hlen rfl _ Q ?_ (fun he => ?_) _ 0 0 _ rfl (Nat.zero_le _) rfl rfl rfl ((keeps_append _ _).set (n := H.length + 1) (by omega) _) ?_ ?_ hp0
  ·intro he r H' kp z0 z1 r1 r2 r6 r9 r10
   rw [if_neg (by omega)] at hdec
   generalize lastS ys (versionFields k v) m0 = S at *
   have z0' : H'[H.length]? = some (ABlk.cells [.int .i64 0, .int .i64 0, .int .i64 0, .int .i64 0, .int .i64 0, .int .i64 0, .int .i64 0, .nils, .nils, .str ⟨#[]⟩, .str ⟨#[]⟩] T.cuneiformref17_M) := z0
   have z1' : H'[H.length + 1]? = some (ABlk.cells [.int .i64 S.1.k, .int .i64 S.1.n0, .int .i64 S.1.n1, .int .i64 S.1.n2, .int .i64 S.1.n3, .int .i64 S.1.n4, .int .i64 S.1.n5, recs encP false S.1.p, ints false S.1.c, .str S.1.t, .str S.1.g] T.cuneiformref17_M) := z1
   have hlt := (List.getElem?_eq_some_iff.1 z0).1
   refine run_V0 60 ?_
   by_cases ha : S.2.a < ys.length
   ·rw [if_pos ha] at hdec
    simp (disch := first | omega | (simp only [lnx]; omega)) only [stdh, stdx, ↓reduceIte, seval, r1, r2, r6, r9, r10, ha, z0', List.getElem?_set_self]
    exact hbare _ 3 (kp.set (Nat.le_refl _) _) hdec
   ·rw [if_neg ha] at hdec
    simp (disch := first | omega | (simp only [lnx]; omega)) only [stdh, stdx, ↓reduceIte, seval, r1, r2, r6, r9, r10, ha, z0', z1']
    refine callK_fn (rproject_ok _ S.1 v _ ?_)
    rw [hdec] at h
    generalize projectM S.1 v = X at *
    refine runL_V 60 ?_
    simp (disch := first | omega | (simp only [lnx]; omega)) only [stdh, stdx, ↓reduceIte, seval, z0', encM, List.getElem?_set_self]
    exact ice_keeps (kp.set (Nat.le_refl _) _) ⟨closeds_encM _, trivial, trivial⟩ h
  ·rw [if_pos he] at hdec
   rw [hdec] at h
   exact h
  ·rw [List.getElem?_set_ne (by omega)]; exact at_0
  ·rw [List.getElem?_set_self (by simp)]; rfl
theorem known19_ok (H : AHeap) (Q : AVal → AHeap → Prop) (h : Q (.bool true) H) : FunOK Try.prog F.cuneiformlaw19_known [] H Q := fun_reck codes_ok 100000 (.bool true) (by kernel_rfl) rfl rfl H Q h
theorem is1_ok (H : AHeap) (Q : AVal → AHeap → Prop) (h : Q (.bool true) H) : FunOK Try.prog F.schema_is [.int .i64 1] H Q := fun_reck codes_ok 10000 (.bool true) (by kernel_rfl) rfl rfl H Q h
theorem is2_ok (H : AHeap) (Q : AVal → AHeap → Prop) (h : Q (.bool true) H) : FunOK Try.prog F.schema_is [.int .i64 2] H Q := fun_reck codes_ok 10000 (.bool true) (by kernel_rfl) rfl rfl H Q h
theorem is_ok (H : AHeap) {v : Int} (hv : v = 1 ∨ v = 2) (Q : AVal → AHeap → Prop) (h : Q (.bool true) H) : FunOK Try.prog F.schema_is [.int .i64 v] H Q := by
 rcases hv with rfl | rfl
 ·exact is1_ok H Q h
 ·exact is2_ok H Q h
theorem fld_len {ys : List Nat} {s : RD} {most : Int} : (s.fld ys most).1.length ≤ ys.length := by
 unfold RD.fld lensR
 by_cases h1 : s.e ≠ 0
 ·rw [if_pos h1]; simp
 rw [if_neg h1]
 by_cases h2 : (fieldSpec most (ys.drop s.a)).2.2 ≠ 0
 ·rw [if_pos h2]; simp
 rw [if_neg h2]
 have := (fieldSpec_le (most := most) (zs := ys.drop s.a)).2
 rw [List.length_drop] at this
 show (fieldSpec most (ys.drop s.a)).2.1.length ≤ _
 omega
theorem textOf_size (xs : List Nat) : (textOf xs).size = xs.length := by simp [textOf, ByteArray.size]
theorem field_tg {ys : List Nat} {s : RD} {m : Mg} {f : Fld} (h : m.t.size ≤ ys.length ∧ m.g.size ≤ ys.length) : (s.field ys m f).1.t.size ≤ ys.length ∧ (s.field ys m f).1.g.size ≤ ys.length := by
 have hp : ∀ j v, (m.put j v).t = m.t ∧ (m.put j v).g = m.g := fun j v => by
  unfold Mg.put
  repeat' split
  all_goals exact ⟨rfl, rfl⟩
 unfold RD.field
 repeat' split
 ·exact ⟨by rw [(hp _ _).1]; exact h.1, by rw [(hp _ _).2]; exact h.2⟩
 ·exact ⟨by rw [(hp _ _).1]; exact h.1, by rw [(hp _ _).2]; exact h.2⟩
 ·exact h
 ·exact h
 ·exact ⟨by rw [textOf_size]; exact fld_len, h.2⟩
 ·exact ⟨h.1, by rw [textOf_size]; exact fld_len⟩
theorem stS_tg {ys : List Nat} {L : List Fld} {m0 : Mg} (h : m0.t.size ≤ ys.length ∧ m0.g.size ≤ ys.length) : ∀ j, (stS ys L m0 j).1.t.size ≤ ys.length ∧ (stS ys L m0 j).1.g.size ≤ ys.length
 | 0 => h
 | j + 1 => field_tg (stS_tg h j)
theorem dec_fine2 {k v : Int} {ys : List Nat} (hl : ys.length ≤ 1000000) : (decM k v ys).1.fine2 ∧ (decM k v ys).1.small := by
 have h0 : mg0.fine2 ∧ mg0.small := ⟨⟨by decide, by decide, by decide, by decide⟩, by decide, by decide⟩
 unfold decM
 split
 ·exact h0
 split
 ·exact h0
 split
 ·exact h0
 split
 ·exact h0
 ·have h1 : (lastS ys (versionFields k v) { mg0 with k := k }).1.small := stS_small ⟨Nat.zero_le _, Nat.zero_le _⟩ _
  have h2 := stS_tg (ys := ys) (L := versionFields k v) (m0 := { mg0 with k := k }) ⟨Nat.zero_le _, Nat.zero_le _⟩ (endS ys (versionFields k v) { mg0 with k := k } (versionFields k v).length 0)
  have hf : (lastS ys (versionFields k v) { mg0 with k := k }).1.fine2 := by
   have a := h1.p
   have b := h1.c
   have c := h2.1
   have d := h2.2
   exact ⟨by omega, by omega, Nat.lt_of_le_of_lt c (by omega), Nat.lt_of_le_of_lt d (by omega)⟩
  exact ⟨projectM_fine2 hf v, projectM_small h1 v⟩
def turnM (k f t : Int) (ys : List Nat) : List Nat × Bool × Int :=
 if (decM k f ys).2 ≠ 0 then ([], false, ((decM k f ys).2 : Nat)) else (encB (decM k f ys).1 t, decide (projectM (decM k f ys).1 t = (decM k f ys).1), bcheckE (decM k f ys).1 t)
set_option maxRecDepth 10000 in
set_option maxHeartbeats 4000000 in
theorem turn_ok (H : AHeap) {k f t : Int} (hf : f = 1 ∨ f = 2) (ht : t = 1 ∨ t = 2) {ys : List Nat} {tt : Bool} (hb : ∀ b ∈ ys, b < 256) (hlen : ys.length ≤ 1000000) (Q : AVal → AHeap → Prop) (h : Q (.tup [nums .u8 false (turnM k f t ys).1, .bool (turnM k f t ys).2.1, .int .i64 (turnM k f t ys).2.2]) H) : FunOK Try.prog F.schema_Turn [.int .i64 k, .int .i64 f, .int .i64 t, nums .u8 tt ys] H Q := by
 refine fun_iced schema_Turn_code fun _ => ?_
 refine fun_V 60 schema_Turn_code rfl ?_
 simp (disch := first | omega | (simp only [lnx]; omega)) only [stdh, stdx, ↓reduceIte, seval, schema_Turn, schema_Turn.body]
 refine callK_fn (is_ok _ hf _ ?_)
 refine runL_V 60 ?_
 simp (disch := first | omega | (simp only [lnx]; omega)) only [stdh, stdx, ↓reduceIte, seval]
 refine callK_fn (is_ok _ ht _ ?_)
 refine runL_V 60 ?_
 simp (disch := first | omega | (simp only [lnx]; omega)) only [stdh, stdx, ↓reduceIte, seval]
 refine callK_fn (decode_ok _ hb hlen _ ?_)
 obtain ⟨f2, fs⟩ := dec_fine2 (k := k) (v := f) hlen
 unfold turnM at h
 generalize decM k f ys = d at *
 obtain ⟨m, e⟩ := d
 refine runL_V 60 ?_
 by_cases he : e = 0
 ·subst he
  rw [if_neg (by simp)] at h
  simp (disch := first | omega | (simp only [lnx]; omega)) only [stdh, stdx, ↓reduceIte, seval, encM]
  refine callK_fn (encode_ok _ m t f2.fine _ ?_)
  refine runL_V 60 ?_
  simp (disch := first | omega | (simp only [lnx]; omega)) only [stdh, stdx, ↓reduceIte, seval, encM, schema_Turn.d0]
  refine callD_fn (project_ok _ m t fs _ ?_)
  refine ⟨by simp (disch := first | omega | (simp only [lnx]; omega)) only [stdh, stdx, ↓reduceIte, seval, encM], ?_⟩
  refine runD_V 60 ?_
  simp (disch := first | omega | (simp only [lnx]; omega)) only [stdh, stdx, ↓reduceIte, seval, encM]
  refine callD_fn (same_ok _ (projectM m t) m (projectM_small fs t).fits _ ?_)
  refine ⟨by simp (disch := first | omega | (simp only [lnx]; omega)) only [stdh, stdx, ↓reduceIte, seval, encM], ?_⟩
  refine runD_V 60 ?_
  simp (disch := first | omega | (simp only [lnx]; omega)) only [stdh, stdx, ↓reduceIte, seval, encM]
  exact ice_none ⟨closed_nums _ _ _, trivial, trivial, trivial⟩ h
 ·have hd : decide ((e : Int) = 0) = false := decide_eq_false (by omega)
  rw [if_pos he] at h
  simp (disch := first | omega | (simp only [lnx]; omega)) only [stdh, stdx, ↓reduceIte, seval, encM, hd]
  exact ice_sees ⟨trivial, trivial, trivial, trivial⟩ (Sees.tup (.cons (Sees.nils false) (.cons (.refl _) (.cons (.refl _) .nil)))) h
end Go.Proofs.Ytgjldipoagkncaa

namespace Go.Proofs.Ytgjldipoagkncaa
open Go Go.Am
end Go.Proofs.Ytgjldipoagkncaa
