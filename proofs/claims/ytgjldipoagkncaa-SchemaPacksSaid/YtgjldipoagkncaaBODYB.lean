/-
  Lemmas on the way to the statements of this seat. By an AI agent. No person has read it.
-/
import Derived.Test.YtgjldipoagkncaaAm6
import Derived.Test.YtgjldipoagkncaaCode
set_option linter.unusedSimpArgs false
set_option linter.unusedVariables false

namespace Go.Am
open Go
end Go.Am

namespace Go.Am
open Go
def shMsg : Sh := .struct [.int .i64, .arr 6 .i64, .slice (.struct [.int .i64, .int .i64]), .slice (.int .i64), .str, .str]
end Go.Am

namespace Go.Proofs.Ytgjldipoagkncaa
open Go Go.Am
structure Fld where
 name : ByteArray
 sort : Int
 place : Int
 least : Int
 most : Int
 since : Int
 absent : Int
 deriving DecidableEq
def fld0 : Fld := ⟨⟨#[]⟩, 0, 0, 0, 0, 0, 0⟩
instance : Inhabited Fld := ⟨fld0⟩
def encF (f : Fld) : List AVal := [.str f.name, .int .i64 f.sort, .int .i64 f.place, .int .i64 f.least, .int .i64 f.most, .int .i64 f.since, .int .i64 f.absent]
theorem encF_len (f : Fld) : (encF f).length = 7 := rfl
abbrev fRobot : Fld := ⟨⟨#[114, 111, 98, 111, 116]⟩, 1, 0, 0, 65535, 1, 0⟩
def fieldsOf (k : Int) : List Fld :=
 if k = 1 then [fRobot, ⟨⟨#[115, 112, 101, 101, 100]⟩, 1, 1, 1, 5000, 1, 0⟩, ⟨⟨#[97, 99, 99, 101, 108]⟩, 1, 2, 1, 10000, 2, 500⟩, ⟨⟨#[112, 97, 116, 104]⟩, 3, -1, 1, 16, 1, 0⟩, ⟨⟨#[116, 97, 103]⟩, 6, -1, 0, 16, 2, 0⟩]
 else if k = 2 then [fRobot, ⟨⟨#[114, 101, 97, 115, 111, 110]⟩, 1, 1, 0, 15, 1, 0⟩, ⟨⟨#[122, 111, 110, 101]⟩, 1, 2, 0, 4095, 2, 0⟩]
 else if k = 3 then [fRobot, ⟨⟨#[122, 111, 110, 101]⟩, 1, 1, 0, 4095, 1, 0⟩, ⟨⟨#[108, 101, 97, 115, 101]⟩, 1, 2, 1, 255, 2, 1⟩, ⟨⟨#[99, 101, 108, 108, 115]⟩, 4, -1, 1, 32, 1, 0⟩]
 else if k = 4 then [fRobot, ⟨⟨#[120]⟩, 2, 1, -1000000, 1000000, 1, 0⟩, ⟨⟨#[121]⟩, 2, 2, -1000000, 1000000, 1, 0⟩, ⟨⟨#[104, 101, 97, 100, 105, 110, 103]⟩, 1, 3, 0, 35999, 1, 0⟩, ⟨⟨#[98, 97, 116, 116, 101, 114, 121]⟩, 1, 4, 0, 1000, 1, 0⟩, ⟨⟨#[115, 117, 114, 101]⟩, 1, 5, 0, 100, 2, 100⟩]
 else if k = 5 then [fRobot, ⟨⟨#[99, 111, 100, 101]⟩, 1, 1, 1, 9999, 1, 0⟩, ⟨⟨#[115, 101, 118, 101, 114, 105, 116, 121]⟩, 1, 2, 0, 4, 1, 0⟩, ⟨⟨#[112, 97, 114, 116]⟩, 1, 3, 0, 255, 2, 0⟩, ⟨⟨#[116, 105, 109, 101, 115]⟩, 1, 4, 1, 1000000, 2, 1⟩, ⟨⟨#[116, 101, 120, 116]⟩, 5, -1, 0, 64, 1, 0⟩]
 else []
theorem of_ok (H : AHeap) (k : Int) (Q : AVal → AHeap → Prop) (h : Q (recs encF false (fieldsOf k)) H) : FunOK Try.prog F.field_Of [.int .i64 k] H Q := by
 by_cases h1 : k = 1
 ·subst h1; exact fun_reckI codes_ok 10000 _ (by kernel_rfl) rfl H Q h
 by_cases h2 : k = 2
 ·subst h2; exact fun_reckI codes_ok 10000 _ (by kernel_rfl) rfl H Q h
 by_cases h3 : k = 3
 ·subst h3; exact fun_reckI codes_ok 10000 _ (by kernel_rfl) rfl H Q h
 by_cases h4 : k = 4
 ·subst h4; exact fun_reckI codes_ok 10000 _ (by kernel_rfl) rfl H Q h
 by_cases h5 : k = 5
 ·subst h5; exact fun_reckI codes_ok 10000 _ (by kernel_rfl) rfl H Q h
 refine fun_iced field_Of_code fun _ => ?_
 refine fun_V 200 field_Of_code rfl ?_
 simp (disch := first | omega | (simp only [lnx]; omega)) only [stdh, stdx, ↓reduceIte, seval, field_Of, field_Of.body, h1, h2, h3, h4, h5]
 have : fieldsOf k = [] := by simp [fieldsOf, h1, h2, h3, h4, h5]
 rw [this] at h
 exact ice_nils (Keeps.refl _) h
theorem rall16_ok (H : AHeap) (k : Int) (Q : AVal → AHeap → Prop) (h : Q (recs encF false (fieldsOf k)) H) : FunOK Try.prog F.cuneiformref16_All [.int .i64 k] H Q := by
 by_cases h1 : k = 1
 ·subst h1; exact fun_reckI codes_ok 10000 _ (by kernel_rfl) rfl H Q h
 by_cases h2 : k = 2
 ·subst h2; exact fun_reckI codes_ok 10000 _ (by kernel_rfl) rfl H Q h
 by_cases h3 : k = 3
 ·subst h3; exact fun_reckI codes_ok 10000 _ (by kernel_rfl) rfl H Q h
 by_cases h4 : k = 4
 ·subst h4; exact fun_reckI codes_ok 10000 _ (by kernel_rfl) rfl H Q h
 by_cases h5 : k = 5
 ·subst h5; exact fun_reckI codes_ok 10000 _ (by kernel_rfl) rfl H Q h
 refine fun_iced cuneiformref16_All_code fun _ => ?_
 refine fun_V 200 cuneiformref16_All_code rfl ?_
 simp (disch := first | omega | (simp only [lnx]; omega)) only [stdh, stdx, ↓reduceIte, seval, cuneiformref16_All, cuneiformref16_All.body, h1, h2, h3, h4, h5]
 refine loop_V 200 cuneiformref16_All.b0.eq_1 ?_
 simp (disch := first | omega | (simp only [lnx]; omega)) only [stdh, stdx, ↓reduceIte, seval]
 refine run_V0 40 ?_
 simp (disch := first | omega | (simp only [lnx]; omega)) only [stdh, stdx, ↓reduceIte, seval]
 have : fieldsOf k = [] := by simp [fieldsOf, h1, h2, h3, h4, h5]
 rw [this] at h
 exact ice_nils (keeps_append _ _) h
def versionFields (k v : Int) : List Fld := (fieldsOf k).filter fun f => decide (f.since ≤ v)
def fldArgs (L : List Fld) (j : Nat) : List AVal := [.agg (encF (L.getD j fld0))]
theorem fieldsOf_le (k : Int) : (fieldsOf k).length ≤ 6 := by
 unfold fieldsOf
 split
 ·simp
 split
 ·simp
 split
 ·simp
 split
 ·simp
 split <;> simp
abbrev fall1C : Ctx := ⟨F.field_All_1, 22, [], none⟩
theorem fall1_loop {n : Nat} {v : Int} {l : List Fld} (hlen : l.length ≤ 6) {L : List Fld} {I : Bool → Nat → List Nat → AHeap → Prop} (hI : Fed Try.prog n (fldArgs L) L.length I)
  (K : List AItem) (Q : AVal → AHeap → Prop) {H0 : AHeap} {fp0 : List Nat}
  (hQ : ∀ b j fp H r, H0.length ≤ H.length → (∀ m, m < H0.length → m ∉ fp0 → H[m]? = H0[m]?) → (b = true → j = L.length) → I b j fp H → Run Try.prog fall1C K r H Q) :
  ∀ (m i j : Nat) (H : AHeap) (fp : List Nat), l.length - i = m → i ≤ l.length → j ≤ L.length → L.drop j = (l.drop i).filter (fun f => decide (f.since ≤ v)) → Touches fp0 H0 fp H → I true j fp H →
  Rounds Try.prog fall1C field_All_1.b0 [.inBlock 0] (.inScope :: K) [(0, .yld n), (2, cell (.int .i64 v)), (7, recs encF false l), (8, .int .i64 l.length), (9, .int .i64 i)] H Q
 | m, i, j, H, fp, h1, h2, h3, h4, ht, hi => by
  refine loop_V 100 field_All_1.b0.eq_1 ?_
  by_cases hil : i < l.length
  ·have hd : l.drop i = l.getD i fld0 :: l.drop (i + 1) := by
    rw [List.drop_eq_getElem_cons hil]; simp [hil]
   rw [hd, List.filter_cons] at h4
   have hld : ∀ H, loadA H (some 7) (.sptr (recs encF false l) (i * 7)) = some (True, .agg (encF (l.getD i fld0))) := fun H => load_recs (enc := encF) (t := false) encF_len hil
   generalize hx : l.getD i fld0 = x at *
   by_cases hs : x.since ≤ v
   ·have hs' : ¬ v < x.since := by omega
    rw [if_pos (by simpa using hs)] at h4
    have hj : j < L.length := by
     refine Classical.byContradiction fun hn => ?_
     rw [List.drop_eq_nil_of_le (by omega : L.length ≤ j)] at h4
     cases h4
    have hdj := List.drop_eq_getElem_cons hj
    rw [hdj] at h4
    obtain ⟨h5, h6⟩ := List.cons.inj h4
    have hargs : fldArgs L j = [.agg (encF x)] := by
     simp [fldArgs, List.getD_eq_getElem?_getD, hj, h5]
    simp (disch := first | omega | (simp only [lnx]; omega)) only [stdh, stdx, ↓reduceIte, seval, hld, encF, hs']
    have hk1 : Touches fp0 H0 fp (H ++ [ABlk.cells (encF x) T.field_Field]) := ht.trans ⟨by simp, fun m hm => .inl hm, fun m hm _ => List.getElem?_append_left hm⟩
    have hi1 : I true j fp (H ++ [ABlk.cells (encF x) T.field_Field]) := (hI.foot true j).stable _ _ _ hi (by simp) fun m hm => List.getElem?_append_left ((hI.foot true j).lt _ _ hi m hm)
    have hstep := hI.step j fp _ hj hi1
    rw [hargs] at hstep
    refine CallV.mono hstep fun av H' hh => ?_
    obtain ⟨fp', ht', hh⟩ := hh
    have ht2 : Touches fp0 H0 fp' H' := hk1.trans ht'
    refine runL_V 40 ?_
    rcases hh with ⟨rfl, hi'⟩ | ⟨rfl, hi'⟩
    ·simp (disch := first | omega | (simp only [lnx]; omega)) only [stdh, stdx, ↓reduceIte, seval]
     exact fall1_loop hlen hI K Q hQ _ (i + 1) (j + 1) H' fp' rfl (by omega) (by omega) h6 ht2 hi'
    ·simp (disch := first | omega | (simp only [lnx]; omega)) only [stdh, stdx, ↓reduceIte, seval]
     refine run_inScope ?_
     exact hQ false _ fp' H' _ ht2.le ht2.kept (fun hh => by cases hh) hi'
   ·have hs' : v < x.since := by omega
    rw [if_neg (by simpa using hs)] at h4
    simp (disch := first | omega | (simp only [lnx]; omega)) only [stdh, stdx, ↓reduceIte, seval, hld, encF, hs']
    have hk1 : Touches fp0 H0 fp (H ++ [ABlk.cells (encF x) T.field_Field]) := ht.trans ⟨by simp, fun m hm => .inl hm, fun m hm _ => List.getElem?_append_left hm⟩
    have hi1 : I true j fp (H ++ [ABlk.cells (encF x) T.field_Field]) := (hI.foot true j).stable _ _ _ hi (by simp) fun m hm => List.getElem?_append_left ((hI.foot true j).lt _ _ hi m hm)
    exact fall1_loop hlen hI K Q hQ _ (i + 1) j _ fp rfl (by omega) h3 h4 hk1 hi1
  ·rw [List.drop_eq_nil_of_le (by omega : l.length ≤ i)] at h4
   have hjl : j = L.length := by
    have := congrArg List.length h4
    simp only [List.length_drop, List.filter_nil, List.length_nil] at this; omega
   simp (disch := first | omega | (simp only [lnx]; omega)) only [stdh, stdx, ↓reduceIte, seval]
   refine run_inScope ?_
   exact hQ true j fp H _ ht.le ht.kept (fun _ => hjl) hi
 termination_by m => m
theorem fall1_iter {H : AHeap} {n : Nat} {k v : Int} : Iter Try.prog F.field_All_1 [.yld n, cell (.int .i64 k), cell (.int .i64 v)] n (fldArgs (versionFields k v)) (versionFields k v).length [] H := by
 intro I hI fp hi hown
 refine fun_V 100 field_All_1_code rfl ?_
 simp (disch := first | omega | (simp only [lnx]; omega)) only [stdh, stdx, ↓reduceIte, seval, field_All_1, field_All_1.body]
 refine callK_fn (of_ok _ _ _ ?_)
 refine runL_V 100 ?_
 simp (disch := first | omega | (simp only [lnx]; omega)) only [stdh, stdx, ↓reduceIte, seval]
 refine fall1_loop (fieldsOf_le k) hI _ _ ?_ _ 0 0 H fp rfl (by omega) (by omega) rfl (Touches.refl _ _) hi
 intro b j fp' H' r h1 h2 h3 h4
 exact run_fin rfl rfl trivial ⟨b, j, fp', h1, h2, h3, h4⟩
theorem fall_ok (H : AHeap) (k v : Int) (Q : AVal → AHeap → Prop) (h : Q (.fn F.field_All_1 [] [cell (.int .i64 k), cell (.int .i64 v)]) H) : FunOK Try.prog F.field_All [.int .i64 k, .int .i64 v] H Q := by
 refine fun_iced field_All_code fun _ => ?_
 refine fun_V 40 field_All_code rfl ?_
 simp (disch := first | omega | (simp only [lnx]; omega)) only [stdh, stdx, ↓reduceIte, seval, field_All, field_All.body]
 exact ice_clo2 trivial trivial h
end Go.Proofs.Ytgjldipoagkncaa

namespace Go.Proofs.Ytgjldipoagkncaa
open Go Go.Am
end Go.Proofs.Ytgjldipoagkncaa

namespace Go.Proofs.Ytgjldipoagkncaa
open Go Go.Am
structure Mg where
 k : Int
 n0 : Int
 n1 : Int
 n2 : Int
 n3 : Int
 n4 : Int
 n5 : Int
 p : List (Int × Int)
 c : List Int
 t : ByteArray
 g : ByteArray
 deriving DecidableEq
def encP (x : Int × Int) : List AVal := [.int .i64 x.1, .int .i64 x.2]
theorem encP_len (x : Int × Int) : (encP x).length = 2 := rfl
theorem closeds_encP {L : Nat} (x : Int × Int) : closeds L (encP x) := ⟨trivial, trivial, trivial⟩
abbrev pts (l : List (Int × Int)) : AVal := recs encP false l
def encM (m : Mg) : List AVal := [.int .i64 m.k, .int .i64 m.n0, .int .i64 m.n1, .int .i64 m.n2, .int .i64 m.n3, .int .i64 m.n4, .int .i64 m.n5, recs encP false m.p, ints false m.c, .str m.t, .str m.g]
theorem closed_pts {L : Nat} (t : Bool) (l : List (Int × Int)) : closed L (recs encP t l) := closed_recs t l fun x _ => closeds_encP x
theorem closeds_encM {L : Nat} (m : Mg) : closeds L (encM m) := ⟨trivial, trivial, trivial, trivial, trivial, trivial, trivial, closed_pts _ _, closed_ints _ _, trivial, trivial, trivial⟩
def mg0 : Mg := ⟨0, 0, 0, 0, 0, 0, 0, [], [], ⟨#[]⟩, ⟨#[]⟩⟩
structure Mg.small (m : Mg) : Prop where
 p : m.p.length ≤ 1000
 c : m.c.length ≤ 1000
theorem cloneP_ok (H : AHeap) (xs : List (Int × Int)) (hx : xs.length ≤ 1000) (Q : AVal → AHeap → Prop) (h : Q (pts xs) H) : FunOK Try.prog F.slices_Clone_msg_Point_msg_Point [pts xs] H Q := by
 refine fun_iced slices_Clone_msg_Point_msg_Point_code fun _ => ?_
 refine fun_V 8 slices_Clone_msg_Point_msg_Point_code rfl ?_
 simp (disch := first | omega | (simp only [lnx]; omega)) only [stdh, stdx, ↓reduceIte, seval, slices_Clone_msg_Point_msg_Point, slices_Clone_msg_Point_msg_Point.body]
 refine runL_isnil (cs := xs.flatMap encP) (n := xs.length) (t := false) rfl rfl fun b hb => ?_
 refine runL_V 60 ?_
 cases b
 ·have hl := flatMap_length encP_len xs
  obtain ⟨p, a1, hp⟩ := Own.append3 (H := H ++ [ABlk.vec [] T.msg_Point 2]) (a := .slc H.length 0 0 2) (x := pts xs) (w := 2) (el := T.msg_Point) (B := 0) (n := 0) (cs := []) (k := xs.length) (ys := xs.flatMap encP) ⟨rfl, .inr ⟨_, Nat.zero_le _, rfl, at_0⟩⟩ 16 rfl rfl hl (by omega) (by omega) (by omega) (by simp [encP, AVal.cellish])
  simp (disch := first | omega | (simp only [lnx]; omega)) only [stdh, stdx, ↓reduceIte, seval, a1, hp, killA, set_0]
  refine ice_own (w := 2) (n := xs.length) (el := T.msg_Point) (cs := xs.flatMap encP) (keeps_append _ _) ⟨hl, .inr ⟨H.length + 1, by omega, by simp, by simp⟩⟩ (by exact closed_pts false xs) h
 ·simp (disch := first | omega | (simp only [lnx]; omega)) only [stdh, stdx, ↓reduceIte, seval]
  refine ice_nils (Keeps.refl _) ?_
  have : xs = [] := by simpa using (hb rfl).2
  subst this
  exact h
theorem cloneI_ok (H : AHeap) (xs : List Int) (hx : xs.length ≤ 1000) (Q : AVal → AHeap → Prop) (h : Q (ints false xs) H) : FunOK Try.prog F.slices_Clone_int_int [ints false xs] H Q := by
 refine fun_iced slices_Clone_int_int_code fun _ => ?_
 refine fun_V 8 slices_Clone_int_int_code rfl ?_
 simp (disch := first | omega | (simp only [lnx]; omega)) only [stdh, stdx, ↓reduceIte, seval, slices_Clone_int_int, slices_Clone_int_int.body]
 refine runL_isnil (cs := xs.map fun n : Int => AVal.int .i64 n) (n := xs.length) (t := false) rfl rfl fun b hb => ?_
 refine runL_V 60 ?_
 cases b
 ·have hl : (xs.map fun n : Int => AVal.int .i64 n).length = xs.length * 1 := by simp
  obtain ⟨p, a1, hp⟩ := Own.append3 (H := H ++ [ABlk.vec [] T.int 1]) (a := .slc H.length 0 0 1) (x := ints false xs) (w := 1) (el := T.int) (B := 0) (n := 0) (cs := []) (k := xs.length) (ys := xs.map fun n : Int => AVal.int .i64 n) ⟨rfl, .inr ⟨_, Nat.zero_le _, rfl, at_0⟩⟩ 8 rfl rfl hl (by omega) (by omega) (by omega) (by simp [AVal.cellish])
  simp (disch := first | omega | (simp only [lnx]; omega)) only [stdh, stdx, ↓reduceIte, seval, a1, hp, killA, set_0]
  refine ice_own (w := 1) (n := xs.length) (el := T.int) (cs := xs.map fun n : Int => AVal.int .i64 n) (keeps_append _ _) ⟨hl, .inr ⟨H.length + 1, by omega, by simp, by simp⟩⟩ (by exact closed_ints false xs) h
 ·simp (disch := first | omega | (simp only [lnx]; omega)) only [stdh, stdx, ↓reduceIte, seval]
  refine ice_nils (Keeps.refl _) ?_
  have : xs = [] := by simpa using (hb rfl).2
  subst this
  exact h
theorem copy_ok (H : AHeap) (m : Mg) (hm : m.small) (Q : AVal → AHeap → Prop) (h : Q (.agg (encM m)) H) : FunOK Try.prog F.msg_Copy [.agg (encM m)] H Q := by
 refine fun_iced msg_Copy_code fun _ => ?_
 refine fun_V 60 msg_Copy_code rfl ?_
 simp (disch := first | omega | (simp only [lnx]; omega)) only [stdh, stdx, ↓reduceIte, seval, msg_Copy, msg_Copy.body, msg_Copy.d0, encM]
 refine callD_fn (cloneP_ok _ _ hm.p _ ?_)
 refine ⟨by simp (disch := first | omega | (simp only [lnx]; omega)) only [stdh, stdx, ↓reduceIte, seval], ?_⟩
 refine runD_V 60 ?_
 simp (disch := first | omega | (simp only [lnx]; omega)) only [stdh, stdx, ↓reduceIte, seval]
 refine callD_fn (cloneI_ok _ _ hm.c _ ?_)
 refine ⟨by simp (disch := first | omega | (simp only [lnx]; omega)) only [stdh, stdx, ↓reduceIte, seval], ?_⟩
 refine runD_V 60 ?_
 simp (disch := first | omega | (simp only [lnx]; omega)) only [stdh, stdx, ↓reduceIte, seval]
 exact ice_none (closeds_encM m) h
abbrev eqIC : Ctx := ⟨F.slices_Equal_int_int, 26, [.tmp 4], none⟩
theorem take_step {α : Type} [Inhabited α] {xs ys : List α} {i : Nat} (h1 : i < xs.length) (h2 : i < ys.length) (h : xs.take i = ys.take i) (h3 : xs.getD i default = ys.getD i default) : xs.take (i + 1) = ys.take (i + 1) := by
 rw [List.take_add_one, List.take_add_one, h, List.getElem?_eq_getElem h1, List.getElem?_eq_getElem h2]
 simp [h1, h2] at h3
 simp [h3]
theorem take_ne {α : Type} [Inhabited α] {xs ys : List α} {i : Nat} (h3 : xs.getD i default ≠ ys.getD i default) : xs ≠ ys := by
 intro h; subst h; exact h3 rfl
theorem eqI_loop {xs ys : List Int} (hl : xs.length = ys.length) (hb : xs.length ≤ 9223372036854775807) {t1 t2 : Bool} (K : List AItem) (H : AHeap) (Q : AVal → AHeap → Prop) (hK : xs = ys → ∀ r, Run Try.prog eqIC K r H Q) (hR : xs ≠ ys → Q (.bool false) H) :
  ∀ (m i : Nat), xs.length - i = m → i ≤ xs.length → xs.take i = ys.take i →
  Rounds Try.prog eqIC slices_Equal_int_int.b1 [.inBlock 0] K [(0, ints t1 xs), (1, ints t2 ys), (12, .int .i64 (xs.length : Nat)), (13, .int .i64 (i : Nat))] H Q
 | m, i, h1, h2, h3 => by
  refine loop_V 100 slices_Equal_int_int.b1.eq_1 ?_
  by_cases hi : i < xs.length
  ·by_cases he : xs.getD i 0 = ys.getD i 0
   ·simp (disch := first | omega | (simp only [lnx]; omega)) only [stdh, stdx, ↓reduceIte, seval, slices_Equal_int_int.d0, he]
    rw [show (i : Int) + 1 = ((i + 1 : Nat) : Int) by omega]
    exact eqI_loop hl hb K H Q hK hR _ (i + 1) rfl (by omega) (take_step hi (by omega) h3 he)
   ·simp (disch := first | omega | (simp only [lnx]; omega)) only [stdh, stdx, ↓reduceIte, seval, slices_Equal_int_int.d0, he]
    exact hR (take_ne he)
  ·simp (disch := first | omega | (simp only [lnx]; omega)) only [stdh, stdx, ↓reduceIte, seval]
   refine hK ?_ _
   rw [List.take_of_length_le (by omega), List.take_of_length_le (by omega)] at h3
   exact h3
 termination_by m => m
theorem eqI_ok (H : AHeap) (xs ys : List Int) {t1 t2 : Bool} (hx : xs.length ≤ 9223372036854775807) (Q : AVal → AHeap → Prop) (h : Q (.bool (decide (xs = ys))) H) : FunOK Try.prog F.slices_Equal_int_int [ints t1 xs, ints t2 ys] H Q := by
 refine fun_V 100 slices_Equal_int_int_code rfl ?_
 by_cases hl : xs.length = ys.length
 ·have hl' : (xs.length : Int) = (ys.length : Int) := by omega
  simp (disch := first | omega | (simp only [lnx]; omega)) only [stdh, stdx, ↓reduceIte, seval, slices_Equal_int_int, slices_Equal_int_int.body, hl']
  rw [← hl']
  refine eqI_loop hl hx _ H Q ?_ ?_ _ 0 rfl (by omega) rfl
  ·intro he r
   refine run_V0 40 ?_
   rw [decide_eq_true he] at h
   simp (disch := first | omega | (simp only [lnx]; omega)) only [stdh, stdx, ↓reduceIte, seval]
   exact h
  ·intro he
   rw [decide_eq_false he] at h
   exact h
 ·have hl' : ¬ (xs.length : Int) = (ys.length : Int) := by omega
  simp (disch := first | omega | (simp only [lnx]; omega)) only [stdh, stdx, ↓reduceIte, seval, slices_Equal_int_int, slices_Equal_int_int.body, hl']
  rw [decide_eq_false (fun he => hl (by rw [he]))] at h
  exact h
abbrev eqPC : Ctx := ⟨F.slices_Equal_msg_Point_msg_Point, 26, [.tmp 4], none⟩
theorem eqP_loop {xs ys : List (Int × Int)} (hl : xs.length = ys.length) (hb : xs.length ≤ 9223372036854775807) {t1 t2 : Bool} (K : List AItem) (H : AHeap) (Q : AVal → AHeap → Prop) (hK : xs = ys → ∀ r, Run Try.prog eqPC K r H Q) (hR : xs ≠ ys → Q (.bool false) H) :
  ∀ (m i : Nat), xs.length - i = m → i ≤ xs.length → xs.take i = ys.take i →
  Rounds Try.prog eqPC slices_Equal_msg_Point_msg_Point.b1 [.inBlock 0] K [(0, recs encP t1 xs), (1, recs encP t2 ys), (12, .int .i64 (xs.length : Nat)), (13, .int .i64 (i : Nat))] H Q
 | m, i, h1, h2, h3 => by
  refine loop_V 100 slices_Equal_msg_Point_msg_Point.b1.eq_1 ?_
  by_cases hi : i < xs.length
  ·have g1 : loadA H (some 2) (.sptr (recs encP t1 xs) (i * 2)) = some (True, .agg (encP (xs.getD i default))) := load_recs encP_len hi
   have g2 : loadA H (some 2) (.sptr (recs encP t2 ys) (i * 2)) = some (True, .agg (encP (ys.getD i default))) := load_recs encP_len (by omega)
   have hs := fun he => take_step (xs := xs) (ys := ys) hi (by omega) h3 he
   have hn := take_ne (xs := xs) (ys := ys) (i := i)
   generalize xs.getD i default = x at *
   generalize ys.getD i default = y at *
   obtain ⟨x1, x2⟩ := x
   obtain ⟨y1, y2⟩ := y
   by_cases he : x1 = y1
   ·by_cases he2 : x2 = y2
    ·subst he; subst he2
     simp (disch := first | omega | (simp only [lnx]; omega)) only [stdh, stdx, ↓reduceIte, seval, slices_Equal_msg_Point_msg_Point.d0, g1, g2, encP]
     rw [show (i : Int) + 1 = ((i + 1 : Nat) : Int) by omega]
     exact eqP_loop hl hb K H Q hK hR _ (i + 1) rfl (by omega) (hs rfl)
    ·simp (disch := first | omega | (simp only [lnx]; omega)) only [stdh, stdx, ↓reduceIte, seval, slices_Equal_msg_Point_msg_Point.d0, g1, g2, encP, he2]
     exact hR (hn fun hh => he2 (by cases hh; rfl))
   ·simp (disch := first | omega | (simp only [lnx]; omega)) only [stdh, stdx, ↓reduceIte, seval, slices_Equal_msg_Point_msg_Point.d0, g1, g2, encP, he]
    exact hR (hn fun hh => he (by cases hh; rfl))
  ·simp (disch := first | omega | (simp only [lnx]; omega)) only [stdh, stdx, ↓reduceIte, seval]
   refine hK ?_ _
   rw [List.take_of_length_le (by omega), List.take_of_length_le (by omega)] at h3
   exact h3
 termination_by m => m
theorem eqP_ok (H : AHeap) (xs ys : List (Int × Int)) {t1 t2 : Bool} (hx : xs.length ≤ 9223372036854775807) (Q : AVal → AHeap → Prop) (h : Q (.bool (decide (xs = ys))) H) : FunOK Try.prog F.slices_Equal_msg_Point_msg_Point [recs encP t1 xs, recs encP t2 ys] H Q := by
 refine fun_V 100 slices_Equal_msg_Point_msg_Point_code rfl ?_
 by_cases hl : xs.length = ys.length
 ·have hl' : (xs.length : Int) = (ys.length : Int) := by omega
  simp (disch := first | omega | (simp only [lnx]; omega)) only [stdh, stdx, ↓reduceIte, seval, slices_Equal_msg_Point_msg_Point, slices_Equal_msg_Point_msg_Point.body, hl']
  rw [← hl']
  refine eqP_loop hl hx _ H Q ?_ ?_ _ 0 rfl (by omega) rfl
  ·intro he r
   refine run_V0 40 ?_
   rw [decide_eq_true he] at h
   simp (disch := first | omega | (simp only [lnx]; omega)) only [stdh, stdx, ↓reduceIte, seval]
   exact h
  ·intro he
   rw [decide_eq_false he] at h
   exact h
 ·have hl' : ¬ (xs.length : Int) = (ys.length : Int) := by omega
  simp (disch := first | omega | (simp only [lnx]; omega)) only [stdh, stdx, ↓reduceIte, seval, slices_Equal_msg_Point_msg_Point, slices_Equal_msg_Point_msg_Point.body, hl']
  rw [decide_eq_false (fun he => hl (by rw [he]))] at h
  exact h
def Mg.fits (m : Mg) : Prop := m.p.length ≤ 9223372036854775807 ∧ m.c.length ≤ 9223372036854775807
theorem Mg.small.fits {m : Mg} (h : m.small) : m.fits := ⟨by have := h.p; omega, by have := h.c; omega⟩
set_option maxHeartbeats 2000000 in
theorem same_ok (H : AHeap) (a b : Mg) (ha : a.fits) (Q : AVal → AHeap → Prop) (h : Q (.bool (decide (a = b))) H) : FunOK Try.prog F.msg_Same [.agg (encM a), .agg (encM b)] H Q := by
 refine fun_iced msg_Same_code fun _ => ?_
 refine fun_V 60 msg_Same_code rfl ?_
 obtain ⟨ak, a0, a1, a2, a3, a4, a5, ap, ac, at', ag⟩ := a
 obtain ⟨bk, b0, b1, b2, b3, b4, b5, bp, bc, bt, bg⟩ := b
 obtain ⟨hp, hc⟩ := ha
 simp only at hp hc
 have hne : ∀ (P : Prop), ¬ (⟨ak, a0, a1, a2, a3, a4, a5, ap, ac, at', ag⟩ : Mg) = ⟨bk, b0, b1, b2, b3, b4, b5, bp, bc, bt, bg⟩ → Q (.bool false) H := fun _ hn => by rw [decide_eq_false hn] at h; exact h
 by_cases hk : ak = bk
 case neg =>
  simp (disch := first | omega | (simp only [lnx]; omega)) only [stdh, stdx, ↓reduceIte, seval, msg_Same, msg_Same.body, encM, hk]
  exact ice_none trivial (hne True fun hh => hk (by cases hh; rfl))
 by_cases h0 : a0 = b0
 case neg =>
  simp (disch := first | omega | (simp only [lnx]; omega)) only [stdh, stdx, ↓reduceIte, seval, msg_Same, msg_Same.body, encM, hk, h0]
  exact ice_none trivial (hne True fun hh => h0 (by cases hh; rfl))
 by_cases h1 : a1 = b1
 case neg =>
  simp (disch := first | omega | (simp only [lnx]; omega)) only [stdh, stdx, ↓reduceIte, seval, msg_Same, msg_Same.body, encM, hk, h0, h1]
  exact ice_none trivial (hne True fun hh => h1 (by cases hh; rfl))
 by_cases h2 : a2 = b2
 case neg =>
  simp (disch := first | omega | (simp only [lnx]; omega)) only [stdh, stdx, ↓reduceIte, seval, msg_Same, msg_Same.body, encM, hk, h0, h1, h2]
  exact ice_none trivial (hne True fun hh => h2 (by cases hh; rfl))
 by_cases h3 : a3 = b3
 case neg =>
  simp (disch := first | omega | (simp only [lnx]; omega)) only [stdh, stdx, ↓reduceIte, seval, msg_Same, msg_Same.body, encM, hk, h0, h1, h2, h3]
  exact ice_none trivial (hne True fun hh => h3 (by cases hh; rfl))
 by_cases h4 : a4 = b4
 case neg =>
  simp (disch := first | omega | (simp only [lnx]; omega)) only [stdh, stdx, ↓reduceIte, seval, msg_Same, msg_Same.body, encM, hk, h0, h1, h2, h3, h4]
  exact ice_none trivial (hne True fun hh => h4 (by cases hh; rfl))
 by_cases h5 : a5 = b5
 case neg =>
  simp (disch := first | omega | (simp only [lnx]; omega)) only [stdh, stdx, ↓reduceIte, seval, msg_Same, msg_Same.body, encM, hk, h0, h1, h2, h3, h4, h5]
  exact ice_none trivial (hne True fun hh => h5 (by cases hh; rfl))
 simp (disch := first | omega | (simp only [lnx]; omega)) only [stdh, stdx, ↓reduceIte, seval, msg_Same, msg_Same.body, encM, hk, h0, h1, h2, h3, h4, h5]
 refine callK_fn (eqP_ok _ _ _ hp _ ?_)
 refine runL_V 60 ?_
 by_cases h6 : ap = bp
 case neg =>
  simp (disch := first | omega | (simp only [lnx]; omega)) only [stdh, stdx, ↓reduceIte, seval, h6]
  exact ice_none trivial (hne True fun hh => h6 (by cases hh; rfl))
 simp (disch := first | omega | (simp only [lnx]; omega)) only [stdh, stdx, ↓reduceIte, seval, h6]
 refine callK_fn (eqI_ok _ _ _ hc _ ?_)
 refine runL_V 60 ?_
 by_cases h7 : ac = bc
 case neg =>
  simp (disch := first | omega | (simp only [lnx]; omega)) only [stdh, stdx, ↓reduceIte, seval, h7]
  exact ice_none trivial (hne True fun hh => h7 (by cases hh; rfl))
 by_cases h8 : at' = bt
 case neg =>
  simp (disch := first | omega | (simp only [lnx]; omega)) only [stdh, stdx, ↓reduceIte, seval, h7, h8]
  exact ice_none trivial (hne True fun hh => h8 (by cases hh; rfl))
 by_cases h9 : ag = bg
 case neg =>
  simp (disch := first | omega | (simp only [lnx]; omega)) only [stdh, stdx, ↓reduceIte, seval, h7, h8, h9]
  exact ice_none trivial (hne True fun hh => h9 (by cases hh; rfl))
 simp (disch := first | omega | (simp only [lnx]; omega)) only [stdh, stdx, ↓reduceIte, seval, h7, h8, h9]
 refine ice_none trivial ?_
 rw [decide_eq_true (by rw [hk, h0, h1, h2, h3, h4, h5, h6, h7, h8, h9])] at h
 exact h
def manyE (n : Nat) (f : Fld) : Int := if (n : Int) < f.least then 13 else if f.most < (n : Int) then 6 else 0
theorem many_ok (H : AHeap) (n : Nat) (f : Fld) (Q : AVal → AHeap → Prop) (h : Q (.int .i64 (manyE n f)) H) : FunOK Try.prog F.msg_many [.int .i64 (n : Nat), .agg (encF f)] H Q := by
 refine fun_iced msg_many_code fun _ => ?_
 refine fun_V 60 msg_many_code rfl ?_
 unfold manyE at h
 by_cases h1 : (n : Int) < f.least
 ·rw [if_pos h1] at h
  simp (disch := first | omega | (simp only [lnx]; omega)) only [stdh, stdx, ↓reduceIte, seval, msg_many, msg_many.body, encF, h1]
  exact ice_none trivial h
 ·rw [if_neg h1] at h
  by_cases h2 : f.most < (n : Int)
  ·rw [if_pos h2] at h
   simp (disch := first | omega | (simp only [lnx]; omega)) only [stdh, stdx, ↓reduceIte, seval, msg_many, msg_many.body, encF, h1, h2]
   exact ice_none trivial h
  ·rw [if_neg h2] at h
   simp (disch := first | omega | (simp only [lnx]; omega)) only [stdh, stdx, ↓reduceIte, seval, msg_many, msg_many.body, encF, h1, h2]
   exact ice_none trivial h
def farP (x : Int × Int) : Bool := decide (1000000 < x.1 ∨ 1000000 < x.2 ∨ x.1 < -1000000 ∨ x.2 < -1000000)
def pathE (l : List (Int × Int)) (f : Fld) : Int := if manyE l.length f ≠ 0 then manyE l.length f else if l.any farP then 5 else 0
abbrev pathC : Ctx := ⟨F.msg_path, 36, [.tmp 4], none⟩
theorem path_loop {l : List (Int × Int)} (hb : l.length ≤ 9223372036854775807) {t : Bool} (K : List AItem) (Q : AVal → AHeap → Prop) {H0 : AHeap} (hK : l.any farP = false → ∀ r H, Keeps H0 H → Run Try.prog pathC K r H (IceQ H0 Q)) (hR : l.any farP = true → Q (.int .i64 5) H0) :
  ∀ (m i : Nat) (H : AHeap), l.length - i = m → i ≤ l.length → l.any farP = (l.drop i).any farP → Keeps H0 H →
  Rounds Try.prog pathC msg_path.b0 [.inBlock 0] K [(15, recs encP t l), (16, .int .i64 (l.length : Nat)), (17, .int .i64 (i : Nat))] H (IceQ H0 Q)
 | m, i, H, h1, h2, h3, hk => by
  refine loop_V 100 msg_path.b0.eq_1 ?_
  by_cases hi : i < l.length
  ·have g1 : loadA H (some 2) (.sptr (recs encP t l) (i * 2)) = some (True, .agg (encP (l.getD i default))) := load_recs encP_len hi
   have hd : l.drop i = l.getD i default :: l.drop (i + 1) := by rw [List.drop_eq_getElem_cons hi]; simp [hi]
   rw [hd, List.any_cons] at h3
   generalize l.getD i default = x at *
   obtain ⟨x1, x2⟩ := x
   have e0 : ∀ y : Int, (if y > x1 then y else x1) = max x1 y := fun y => by omega
   by_cases hf : farP (x1, x2) = true
   ·rw [hf, Bool.true_or] at h3
    by_cases q1 : (1000000 : Int) < (if x1 < x2 then x2 else x1)
    ·simp (disch := first | omega | (simp only [lnx]; omega)) only [stdh, stdx, ↓reduceIte, seval, g1, encP, q1, gt_iff_lt]
     exact ice_keeps (hk.push _) trivial (hR h3)
    ·have q2 : (if x2 < x1 then x2 else x1) < (-1000000 : Int) := by
      have := of_decide_eq_true hf
      simp only at this
      repeat' split
      all_goals (split at q1 <;> omega)
     simp (disch := first | omega | (simp only [lnx]; omega)) only [stdh, stdx, ↓reduceIte, seval, g1, encP, q1, q2, gt_iff_lt]
     exact ice_keeps (hk.push _) trivial (hR h3)
   ·have hf' : farP (x1, x2) = false := by simpa using hf
    rw [hf', Bool.false_or] at h3
    have hf2 := of_decide_eq_false hf'
    simp only at hf2
    have q1 : ¬ (1000000 : Int) < (if x1 < x2 then x2 else x1) := by split <;> omega
    have q2 : ¬ (if x2 < x1 then x2 else x1) < (-1000000 : Int) := by split <;> omega
    simp (disch := first | omega | (simp only [lnx]; omega)) only [stdh, stdx, ↓reduceIte, seval, g1, encP, q1, q2, gt_iff_lt]
    rw [show (i : Int) + 1 = ((i + 1 : Nat) : Int) by omega]
    exact path_loop hb K Q hK hR _ (i + 1) _ rfl (by omega) h3 (hk.push _)
  ·simp (disch := first | omega | (simp only [lnx]; omega)) only [stdh, stdx, ↓reduceIte, seval]
   rw [List.drop_eq_nil_of_le (by omega : l.length ≤ i)] at h3
   exact hK h3 _ _ hk
 termination_by m => m
theorem path_ok (H : AHeap) (l : List (Int × Int)) (f : Fld) {t : Bool} (hb : l.length ≤ 9223372036854775807) (Q : AVal → AHeap → Prop) (h : Q (.int .i64 (pathE l f)) H) : FunOK Try.prog F.msg_path [recs encP t l, .agg (encF f)] H Q := by
 refine fun_iced msg_path_code fun _ => ?_
 refine fun_V 60 msg_path_code rfl ?_
 simp (disch := first | omega | (simp only [lnx]; omega)) only [stdh, stdx, ↓reduceIte, seval, msg_path, msg_path.body, encF]
 refine callK_fn (many_ok _ _ f _ ?_)
 refine runL_V 60 ?_
 unfold pathE at h
 by_cases h1 : manyE l.length f = 0
 ·rw [if_neg (by simpa using h1)] at h
  simp (disch := first | omega | (simp only [lnx]; omega)) only [stdh, stdx, ↓reduceIte, seval, h1]
  refine path_loop hb _ Q ?_ ?_ _ 0 _ rfl (by omega) rfl (keeps_append _ _)
  ·intro ha r H' hk
   refine run_V0 40 ?_
   rw [ha] at h
   simp (disch := first | omega | (simp only [lnx]; omega)) only [stdh, stdx, ↓reduceIte, seval]
   exact ice_keeps hk trivial (by simpa using h)
  ·intro ha
   rw [ha] at h
   simpa using h
 ·rw [if_pos (by simpa using h1)] at h
  simp (disch := first | omega | (simp only [lnx]; omega)) only [stdh, stdx, ↓reduceIte, seval, h1]
  exact ice_none trivial h
def cellsGo : Int → List Int → Int
 | _, [] => 0
 | last, c :: l => if c < 0 ∨ 65535 < c then 5 else if c ≤ last then 3 else cellsGo c l
def cellsE (l : List Int) (f : Fld) : Int := if manyE l.length f ≠ 0 then manyE l.length f else cellsGo (-1) l
abbrev cellsC : Ctx := ⟨F.msg_cells, 35, [.tmp 4], none⟩
theorem cells_loop {l : List Int} (hb : l.length ≤ 9223372036854775807) {t : Bool} (K : List AItem) (H : AHeap) (Q : AVal → AHeap → Prop) (hK : cellsGo (-1) l = 0 → ∀ r, Run Try.prog cellsC K r H Q) (hR : Q (.int .i64 (cellsGo (-1) l)) H) :
  ∀ (m i : Nat) (last : Int), l.length - i = m → i ≤ l.length → cellsGo (-1) l = cellsGo last (l.drop i) →
  Rounds Try.prog cellsC msg_cells.b0 [.inBlock 0] K [(6, .int .i64 last), (16, ints t l), (17, .int .i64 (l.length : Nat)), (18, .int .i64 (i : Nat))] H Q
 | m, i, last, h1, h2, h3 => by
  refine loop_V 100 msg_cells.b0.eq_1 ?_
  by_cases hi : i < l.length
  ·have hd : l.drop i = l.getD i 0 :: l.drop (i + 1) := by rw [List.drop_eq_getElem_cons hi]; simp [hi]
   rw [hd, cellsGo] at h3
   by_cases q1 : l.getD i 0 < 0
   ·rw [if_pos (.inl q1)] at h3
    rw [h3] at hR
    simp (disch := first | omega | (simp only [lnx]; omega)) only [stdh, stdx, ↓reduceIte, seval, q1]
    exact hR
   by_cases q2 : (65535 : Int) < l.getD i 0
   ·rw [if_pos (.inr q2)] at h3
    rw [h3] at hR
    simp (disch := first | omega | (simp only [lnx]; omega)) only [stdh, stdx, ↓reduceIte, seval, q1, q2]
    exact hR
   rw [if_neg (by omega)] at h3
   by_cases q3 : l.getD i 0 ≤ last
   ·rw [if_pos q3] at h3
    rw [h3] at hR
    simp (disch := first | omega | (simp only [lnx]; omega)) only [stdh, stdx, ↓reduceIte, seval, q1, q2, q3]
    exact hR
   ·rw [if_neg q3] at h3
    simp (disch := first | omega | (simp only [lnx]; omega)) only [stdh, stdx, ↓reduceIte, seval, q1, q2, q3]
    rw [show (i : Int) + 1 = ((i + 1 : Nat) : Int) by omega]
    exact cells_loop hb K H Q hK hR _ (i + 1) _ rfl (by omega) h3
  ·simp (disch := first | omega | (simp only [lnx]; omega)) only [stdh, stdx, ↓reduceIte, seval]
   rw [List.drop_eq_nil_of_le (by omega : l.length ≤ i), cellsGo] at h3
   exact hK h3 _
 termination_by m => m
theorem cells_ok (H : AHeap) (l : List Int) (f : Fld) {t : Bool} (hb : l.length ≤ 9223372036854775807) (Q : AVal → AHeap → Prop) (h : Q (.int .i64 (cellsE l f)) H) : FunOK Try.prog F.msg_cells [ints t l, .agg (encF f)] H Q := by
 refine fun_iced msg_cells_code fun _ => ?_
 refine fun_V 60 msg_cells_code rfl ?_
 simp (disch := first | omega | (simp only [lnx]; omega)) only [stdh, stdx, ↓reduceIte, seval, msg_cells, msg_cells.body, encF]
 refine callK_fn (many_ok _ _ f _ ?_)
 refine runL_V 60 ?_
 unfold cellsE at h
 by_cases h1 : manyE l.length f = 0
 ·rw [if_neg (by simpa using h1)] at h
  simp (disch := first | omega | (simp only [lnx]; omega)) only [stdh, stdx, ↓reduceIte, seval, h1]
  refine cells_loop hb _ _ _ ?_ ?_ _ 0 _ rfl (by omega) rfl
  ·intro ha r
   refine run_V0 40 ?_
   rw [ha] at h
   simp (disch := first | omega | (simp only [lnx]; omega)) only [stdh, stdx, ↓reduceIte, seval]
   exact ice_none trivial h
  ·exact ice_none trivial h
 ·rw [if_pos (by simpa using h1)] at h
  simp (disch := first | omega | (simp only [lnx]; omega)) only [stdh, stdx, ↓reduceIte, seval, h1]
  exact ice_none trivial h
def badB (n : Nat) : Bool := decide (n < 32 ∨ 126 < n)
def textE (s : ByteArray) (f : Fld) : Int := if manyE s.size f ≠ 0 then manyE s.size f else if (bytesOf s).any badB then 19 else 0
theorem bytesOf_len (s : ByteArray) : (bytesOf s).length = s.size := by simp [bytesOf]
theorem bytesOf_lt (s : ByteArray) : ∀ x ∈ bytesOf s, x < 256 := by
 intro x hx
 obtain ⟨b, _, rfl⟩ := List.mem_map.1 hx
 exact b.toNat_lt
abbrev textC : Ctx := ⟨F.msg_text, 29, [.tmp 4], none⟩
theorem text_loop {l : List Nat} (hb : l.length ≤ 9223372036854775807) {t : Bool} (K : List AItem) (H : AHeap) (Q : AVal → AHeap → Prop) (hK : l.any badB = false → ∀ r, Run Try.prog textC K r H Q) (hR : l.any badB = true → Q (.int .i64 19) H) :
  ∀ (m i : Nat), l.length - i = m → i ≤ l.length → l.any badB = (l.drop i).any badB →
  Rounds Try.prog textC msg_text.b0 [.inBlock 0] K [(16, nums .u8 t l), (17, .int .i64 (l.length : Nat)), (18, .int .i64 (i : Nat))] H Q
 | m, i, h1, h2, h3 => by
  refine loop_V 100 msg_text.b0.eq_1 ?_
  by_cases hi : i < l.length
  ·have hd : l.drop i = l.getD i 0 :: l.drop (i + 1) := by rw [List.drop_eq_getElem_cons hi]; simp [hi]
   rw [hd, List.any_cons] at h3
   by_cases q1 : ((l.getD i 0 : Nat) : Int) < 32
   ·rw [show badB (l.getD i 0) = true from decide_eq_true (.inl (by omega)), Bool.true_or] at h3
    simp (disch := first | omega | (simp only [lnx]; omega)) only [stdh, stdx, ↓reduceIte, seval, q1]
    exact hR h3
   by_cases q2 : (126 : Int) < ((l.getD i 0 : Nat) : Int)
   ·rw [show badB (l.getD i 0) = true from decide_eq_true (.inr (by omega)), Bool.true_or] at h3
    simp (disch := first | omega | (simp only [lnx]; omega)) only [stdh, stdx, ↓reduceIte, seval, q1, q2]
    exact hR h3
   rw [show badB (l.getD i 0) = false from decide_eq_false (by omega), Bool.false_or] at h3
   simp (disch := first | omega | (simp only [lnx]; omega)) only [stdh, stdx, ↓reduceIte, seval, q1, q2]
   rw [show (i : Int) + 1 = ((i + 1 : Nat) : Int) by omega]
   exact text_loop hb K H Q hK hR _ (i + 1) rfl (by omega) h3
  ·simp (disch := first | omega | (simp only [lnx]; omega)) only [stdh, stdx, ↓reduceIte, seval]
   rw [List.drop_eq_nil_of_le (by omega : l.length ≤ i)] at h3
   exact hK h3 _
 termination_by m => m
theorem text_ok (H : AHeap) (s : ByteArray) (f : Fld) (hb : s.size ≤ 9223372036854775807) (Q : AVal → AHeap → Prop) (h : Q (.int .i64 (textE s f)) H) : FunOK Try.prog F.msg_text [.str s, .agg (encF f)] H Q := by
 refine fun_iced msg_text_code fun _ => ?_
 refine fun_V 60 msg_text_code rfl ?_
 simp (disch := first | omega | (simp only [lnx]; omega)) only [stdh, stdx, ↓reduceIte, seval, msg_text, msg_text.body, encF]
 refine callK_fn (many_ok _ _ f _ ?_)
 refine runL_V 60 ?_
 unfold textE at h
 by_cases h1 : manyE s.size f = 0
 ·rw [if_neg (by simpa using h1)] at h
  simp (disch := first | omega | (simp only [lnx]; omega)) only [stdh, stdx, ↓reduceIte, seval, h1]
  refine text_loop (by rw [bytesOf_len]; exact hb) _ _ _ ?_ ?_ _ 0 rfl (by omega) rfl
  ·intro ha r
   refine run_V0 40 ?_
   rw [ha] at h
   simp (disch := first | omega | (simp only [lnx]; omega)) only [stdh, stdx, ↓reduceIte, seval]
   exact ice_none trivial (by simpa using h)
  ·intro ha
   rw [ha] at h
   exact ice_none trivial (by simpa using h)
 ·rw [if_pos (by simpa using h1)] at h
  simp (disch := first | omega | (simp only [lnx]; omega)) only [stdh, stdx, ↓reduceIte, seval, h1]
  exact ice_none trivial h
def Mg.num (m : Mg) (j : Int) : Int := if j = 0 then m.n0 else if j = 1 then m.n1 else if j = 2 then m.n2 else if j = 3 then m.n3 else if j = 4 then m.n4 else m.n5
def Mg.put (m : Mg) (j v : Int) : Mg := if j = 0 then { m with n0 := v } else if j = 1 then { m with n1 := v } else if j = 2 then { m with n2 := v } else if j = 3 then { m with n3 := v } else if j = 4 then { m with n4 := v } else { m with n5 := v }
def Fld.ok (f : Fld) : Prop := f.sort = 3 ∨ f.sort = 4 ∨ f.sort = 5 ∨ f.sort = 6 ∨ f.place = 0 ∨ f.place = 1 ∨ f.place = 2 ∨ f.place = 3 ∨ f.place = 4 ∨ f.place = 5
instance (f : Fld) : Decidable f.ok := by unfold Fld.ok; infer_instance
theorem fieldsOf_ok {k : Int} : ∀ f ∈ fieldsOf k, f.ok := by
 unfold fieldsOf
 split
 ·decide +kernel
 split
 ·decide +kernel
 split
 ·decide +kernel
 split
 ·decide +kernel
 split
 ·decide +kernel
 ·simp
def Mg.fine (m : Mg) : Prop := m.p.length ≤ 9223372036854775807 ∧ m.c.length ≤ 9223372036854775807 ∧ m.t.size ≤ 9223372036854775807 ∧ m.g.size ≤ 9223372036854775807
def wrongE (m : Mg) (f : Fld) : Int :=
 if f.sort = 3 then pathE m.p f else if f.sort = 4 then cellsE m.c f else if f.sort = 5 then textE m.t f else if f.sort = 6 then textE m.g f
 else if m.num f.place < f.least ∨ f.most < m.num f.place then 5 else 0
def withoutM (m : Mg) (f : Fld) : Mg :=
 if f.sort = 3 then { m with p := [] } else if f.sort = 4 then { m with c := [] } else if f.sort = 5 then { m with t := ⟨#[]⟩ } else if f.sort = 6 then { m with g := ⟨#[]⟩ }
 else m.put f.place 0
theorem ice_sees {H L : AHeap} {Q : AVal → AHeap → Prop} {av av' : AVal} (ha : closed H.length av) (hs : Sees av av') (hq : Q av' H) : IceQ H Q av (H ++ L) :=
 ⟨keeps_append _ _, [], av', by simp, by rw [mv_id (L := H.length) (fun n h => toF_low h) av ha]; exact hs, hq⟩
set_option maxHeartbeats 2000000 in
theorem wrong_ok (H : AHeap) (m : Mg) (f : Fld) (hf : f.ok) (hm : m.fine) (Q : AVal → AHeap → Prop) (h : Q (.int .i64 (wrongE m f)) H) : FunOK Try.prog F.msg_wrong [.agg (encM m), .agg (encF f)] H Q := by
 refine fun_iced msg_wrong_code fun _ => ?_
 refine fun_V 100 msg_wrong_code rfl ?_
 obtain ⟨hp, hc, ht, hg⟩ := hm
 unfold wrongE at h
 by_cases s3 : f.sort = 3
 ·rw [if_pos s3] at h
  simp (disch := first | omega | (simp only [lnx]; omega)) only [stdh, stdx, ↓reduceIte, seval, msg_wrong, msg_wrong.body, encF, encM, s3]
  rw [← s3]
  refine callK_fn (path_ok _ _ f hp _ ?_)
  refine runL_V 60 ?_
  simp (disch := first | omega | (simp only [lnx]; omega)) only [stdh, stdx, ↓reduceIte, seval]
  exact ice_none trivial h
 rw [if_neg s3] at h
 by_cases s4 : f.sort = 4
 ·rw [if_pos s4] at h
  simp (disch := first | omega | (simp only [lnx]; omega)) only [stdh, stdx, ↓reduceIte, seval, msg_wrong, msg_wrong.body, encF, encM, s4]
  rw [← s4]
  refine callK_fn (cells_ok _ _ f hc _ ?_)
  refine runL_V 60 ?_
  simp (disch := first | omega | (simp only [lnx]; omega)) only [stdh, stdx, ↓reduceIte, seval]
  exact ice_none trivial h
 rw [if_neg s4] at h
 by_cases s5 : f.sort = 5
 ·rw [if_pos s5] at h
  simp (disch := first | omega | (simp only [lnx]; omega)) only [stdh, stdx, ↓reduceIte, seval, msg_wrong, msg_wrong.body, encF, encM, s5]
  rw [← s5]
  refine callK_fn (text_ok _ _ f ht _ ?_)
  refine runL_V 60 ?_
  simp (disch := first | omega | (simp only [lnx]; omega)) only [stdh, stdx, ↓reduceIte, seval]
  exact ice_none trivial h
 rw [if_neg s5] at h
 by_cases s6 : f.sort = 6
 ·rw [if_pos s6] at h
  simp (disch := first | omega | (simp only [lnx]; omega)) only [stdh, stdx, ↓reduceIte, seval, msg_wrong, msg_wrong.body, encF, encM, s6]
  rw [← s6]
  refine callK_fn (text_ok _ _ f hg _ ?_)
  refine runL_V 60 ?_
  simp (disch := first | omega | (simp only [lnx]; omega)) only [stdh, stdx, ↓reduceIte, seval]
  exact ice_none trivial h
 rw [if_neg s6] at h
 have hq : ∀ x, x = m.num f.place → (x < f.least ∨ f.most < x → Q (.int .i64 5) H) ∧ (¬ (x < f.least ∨ f.most < x) → Q (.int .i64 0) H) := by
  rintro x rfl
  exact ⟨fun hh => by rw [if_pos hh] at h; exact h, fun hh => by rw [if_neg hh] at h; exact h⟩
 rcases hf with h3 | h3 | h3 | h3 | h3 | h3 | h3 | h3 | h3 | h3
 ·exact absurd h3 s3
 ·exact absurd h3 s4
 ·exact absurd h3 s5
 ·exact absurd h3 s6
 ·obtain ⟨hq1, hq2⟩ := hq _ rfl
  simp only [h3, Mg.num, if_true, Int.reduceEq, if_false] at hq1 hq2
  by_cases q1 : m.n0 < f.least
  ·simp (disch := first | omega | (simp only [lnx]; omega)) only [stdh, stdx, ↓reduceIte, seval, msg_wrong, msg_wrong.body, encF, encM, s3, s4, s5, s6, h3, q1]
   exact ice_none trivial (hq1 (.inl q1))
  by_cases q2 : f.most < m.n0
  ·simp (disch := first | omega | (simp only [lnx]; omega)) only [stdh, stdx, ↓reduceIte, seval, msg_wrong, msg_wrong.body, encF, encM, s3, s4, s5, s6, h3, q1, q2]
   exact ice_none trivial (hq1 (.inr q2))
  ·simp (disch := first | omega | (simp only [lnx]; omega)) only [stdh, stdx, ↓reduceIte, seval, msg_wrong, msg_wrong.body, encF, encM, s3, s4, s5, s6, h3, q1, q2]
   exact ice_none trivial (hq2 (by omega))
 ·obtain ⟨hq1, hq2⟩ := hq _ rfl
  simp only [h3, Mg.num, if_true, Int.reduceEq, if_false] at hq1 hq2
  by_cases q1 : m.n1 < f.least
  ·simp (disch := first | omega | (simp only [lnx]; omega)) only [stdh, stdx, ↓reduceIte, seval, msg_wrong, msg_wrong.body, encF, encM, s3, s4, s5, s6, h3, q1]
   exact ice_none trivial (hq1 (.inl q1))
  by_cases q2 : f.most < m.n1
  ·simp (disch := first | omega | (simp only [lnx]; omega)) only [stdh, stdx, ↓reduceIte, seval, msg_wrong, msg_wrong.body, encF, encM, s3, s4, s5, s6, h3, q1, q2]
   exact ice_none trivial (hq1 (.inr q2))
  ·simp (disch := first | omega | (simp only [lnx]; omega)) only [stdh, stdx, ↓reduceIte, seval, msg_wrong, msg_wrong.body, encF, encM, s3, s4, s5, s6, h3, q1, q2]
   exact ice_none trivial (hq2 (by omega))
 ·obtain ⟨hq1, hq2⟩ := hq _ rfl
  simp only [h3, Mg.num, if_true, Int.reduceEq, if_false] at hq1 hq2
  by_cases q1 : m.n2 < f.least
  ·simp (disch := first | omega | (simp only [lnx]; omega)) only [stdh, stdx, ↓reduceIte, seval, msg_wrong, msg_wrong.body, encF, encM, s3, s4, s5, s6, h3, q1]
   exact ice_none trivial (hq1 (.inl q1))
  by_cases q2 : f.most < m.n2
  ·simp (disch := first | omega | (simp only [lnx]; omega)) only [stdh, stdx, ↓reduceIte, seval, msg_wrong, msg_wrong.body, encF, encM, s3, s4, s5, s6, h3, q1, q2]
   exact ice_none trivial (hq1 (.inr q2))
  ·simp (disch := first | omega | (simp only [lnx]; omega)) only [stdh, stdx, ↓reduceIte, seval, msg_wrong, msg_wrong.body, encF, encM, s3, s4, s5, s6, h3, q1, q2]
   exact ice_none trivial (hq2 (by omega))
 ·obtain ⟨hq1, hq2⟩ := hq _ rfl
  simp only [h3, Mg.num, if_true, Int.reduceEq, if_false] at hq1 hq2
  by_cases q1 : m.n3 < f.least
  ·simp (disch := first | omega | (simp only [lnx]; omega)) only [stdh, stdx, ↓reduceIte, seval, msg_wrong, msg_wrong.body, encF, encM, s3, s4, s5, s6, h3, q1]
   exact ice_none trivial (hq1 (.inl q1))
  by_cases q2 : f.most < m.n3
  ·simp (disch := first | omega | (simp only [lnx]; omega)) only [stdh, stdx, ↓reduceIte, seval, msg_wrong, msg_wrong.body, encF, encM, s3, s4, s5, s6, h3, q1, q2]
   exact ice_none trivial (hq1 (.inr q2))
  ·simp (disch := first | omega | (simp only [lnx]; omega)) only [stdh, stdx, ↓reduceIte, seval, msg_wrong, msg_wrong.body, encF, encM, s3, s4, s5, s6, h3, q1, q2]
   exact ice_none trivial (hq2 (by omega))
 ·obtain ⟨hq1, hq2⟩ := hq _ rfl
  simp only [h3, Mg.num, if_true, Int.reduceEq, if_false] at hq1 hq2
  by_cases q1 : m.n4 < f.least
  ·simp (disch := first | omega | (simp only [lnx]; omega)) only [stdh, stdx, ↓reduceIte, seval, msg_wrong, msg_wrong.body, encF, encM, s3, s4, s5, s6, h3, q1]
   exact ice_none trivial (hq1 (.inl q1))
  by_cases q2 : f.most < m.n4
  ·simp (disch := first | omega | (simp only [lnx]; omega)) only [stdh, stdx, ↓reduceIte, seval, msg_wrong, msg_wrong.body, encF, encM, s3, s4, s5, s6, h3, q1, q2]
   exact ice_none trivial (hq1 (.inr q2))
  ·simp (disch := first | omega | (simp only [lnx]; omega)) only [stdh, stdx, ↓reduceIte, seval, msg_wrong, msg_wrong.body, encF, encM, s3, s4, s5, s6, h3, q1, q2]
   exact ice_none trivial (hq2 (by omega))
 ·obtain ⟨hq1, hq2⟩ := hq _ rfl
  simp only [h3, Mg.num, if_true, Int.reduceEq, if_false] at hq1 hq2
  by_cases q1 : m.n5 < f.least
  ·simp (disch := first | omega | (simp only [lnx]; omega)) only [stdh, stdx, ↓reduceIte, seval, msg_wrong, msg_wrong.body, encF, encM, s3, s4, s5, s6, h3, q1]
   exact ice_none trivial (hq1 (.inl q1))
  by_cases q2 : f.most < m.n5
  ·simp (disch := first | omega | (simp only [lnx]; omega)) only [stdh, stdx, ↓reduceIte, seval, msg_wrong, msg_wrong.body, encF, encM, s3, s4, s5, s6, h3, q1, q2]
   exact ice_none trivial (hq1 (.inr q2))
  ·simp (disch := first | omega | (simp only [lnx]; omega)) only [stdh, stdx, ↓reduceIte, seval, msg_wrong, msg_wrong.body, encF, encM, s3, s4, s5, s6, h3, q1, q2]
   exact ice_none trivial (hq2 (by omega))
set_option maxHeartbeats 2000000 in
theorem without_ok (H : AHeap) (m : Mg) (f : Fld) (hf : f.ok) (Q : AVal → AHeap → Prop) (h : Q (.agg (encM (withoutM m f))) H) : FunOK Try.prog F.msg_without [.agg (encM m), .agg (encF f)] H Q := by
 refine fun_iced msg_without_code fun hcl => ?_
 refine fun_V 60 msg_without_code rfl ?_
 unfold withoutM at h
 have hcm := closeds_encM (L := H.length) m
 by_cases s3 : f.sort = 3
 ·rw [if_pos s3] at h
  simp (disch := first | omega | (simp only [lnx]; omega)) only [stdh, stdx, ↓reduceIte, seval, msg_without, msg_without.body, encF, encM, s3]
  refine ice_sees (av' := .agg (encM { m with p := [] })) ?_ ?_ h
  ·exact ⟨trivial, trivial, trivial, trivial, trivial, trivial, trivial, trivial, closed_ints _ _, trivial, trivial, trivial⟩
  ·exact Sees.agg (.cons (.refl _) (.cons (.refl _) (.cons (.refl _) (.cons (.refl _) (.cons (.refl _) (.cons (.refl _) (.cons (.refl _) (.cons (.nils _) (.refl _)))))))))
 rw [if_neg s3] at h
 by_cases s4 : f.sort = 4
 ·rw [if_pos s4] at h
  simp (disch := first | omega | (simp only [lnx]; omega)) only [stdh, stdx, ↓reduceIte, seval, msg_without, msg_without.body, encF, encM, s4]
  refine ice_sees (av' := .agg (encM { m with c := [] })) ?_ ?_ h
  ·exact ⟨trivial, trivial, trivial, trivial, trivial, trivial, trivial, closed_pts _ _, trivial, trivial, trivial, trivial⟩
  ·exact Sees.agg (.cons (.refl _) (.cons (.refl _) (.cons (.refl _) (.cons (.refl _) (.cons (.refl _) (.cons (.refl _) (.cons (.refl _) (.cons (.refl _) (.cons (.nils _) (.refl _))))))))))
 rw [if_neg s4] at h
 by_cases s5 : f.sort = 5
 ·rw [if_pos s5] at h
  simp (disch := first | omega | (simp only [lnx]; omega)) only [stdh, stdx, ↓reduceIte, seval, msg_without, msg_without.body, encF, encM, s5]
  exact ice_none (closeds_encM { m with t := ⟨#[]⟩ }) h
 rw [if_neg s5] at h
 by_cases s6 : f.sort = 6
 ·rw [if_pos s6] at h
  simp (disch := first | omega | (simp only [lnx]; omega)) only [stdh, stdx, ↓reduceIte, seval, msg_without, msg_without.body, encF, encM, s6]
  exact ice_none (closeds_encM { m with g := ⟨#[]⟩ }) h
 rw [if_neg s6] at h
 rcases hf with h3 | h3 | h3 | h3 | h3 | h3 | h3 | h3 | h3 | h3
 ·exact absurd h3 s3
 ·exact absurd h3 s4
 ·exact absurd h3 s5
 ·exact absurd h3 s6
 all_goals
  simp only [h3, Mg.put, if_true, Int.reduceEq, if_false] at h
  simp (disch := first | omega | (simp only [lnx]; omega)) only [stdh, stdx, ↓reduceIte, seval, msg_without, msg_without.body, encF, encM, s3, s4, s5, s6, h3]
  exact ice_none (closeds_encM _) h
def Fld.ok2 (f : Fld) : Prop := f.ok ∧ (f.place = -1 ∨ f.place = 0 ∨ f.place = 1 ∨ f.place = 2 ∨ f.place = 3 ∨ f.place = 4 ∨ f.place = 5)
instance (f : Fld) : Decidable f.ok2 := by unfold Fld.ok2; infer_instance
theorem fieldsOf_ok2 {k : Int} : ∀ f ∈ fieldsOf k, f.ok2 := by
 unfold fieldsOf
 split
 ·decide +kernel
 split
 ·decide +kernel
 split
 ·decide +kernel
 split
 ·decide +kernel
 split
 ·decide +kernel
 ·simp
theorem getD_mem {l : List Fld} {i : Nat} (h : i < l.length) : l.getD i fld0 ∈ l := by
 simp [h]
theorem drop_getF {l : List Fld} {i : Nat} (h : i < l.length) : l.drop i = l.getD i fld0 :: l.drop (i + 1) := by
 rw [List.drop_eq_getElem_cons h]; simp [h]
theorem fieldsOf_len (k : Int) : (fieldsOf k).length ≤ 6 := by
 unfold fieldsOf
 split
 ·simp
 split
 ·simp
 split
 ·simp
 split
 ·simp
 split <;> simp
def chkGo (m : Mg) : List Fld → Int → Mg → Int × Mg
 | [], e, left => (e, left)
 | f :: fs, e, left => if wrongE m f = 0 then chkGo m fs 0 (withoutM left f) else (wrongE m f, left)
def checkM (m : Mg) : Int :=
 if (chkGo m (fieldsOf m.k) 9 m).1 = 0 ∧ (chkGo m (fieldsOf m.k) 9 m).2 ≠ { mg0 with k := m.k } then 3 else (chkGo m (fieldsOf m.k) 9 m).1
theorem without_fits {m : Mg} (h : m.fits) (f : Fld) : (withoutM m f).fits := by
 obtain ⟨h1, h2⟩ := h
 unfold withoutM Mg.put
 repeat' split
 all_goals exact ⟨by first | exact h1 | simp, by first | exact h2 | simp⟩
theorem chkGo_fits {m : Mg} : ∀ (fs : List Fld) (e : Int) (left : Mg), left.fits → (chkGo m fs e left).2.fits
 | [], e, left, h => h
 | f :: fs, e, left, h => by
  unfold chkGo
  split
  ·exact chkGo_fits fs _ _ (without_fits h f)
  ·exact h
abbrev checkC : Ctx := ⟨F.msg_Check, 36, [.tmp 2], none⟩
set_option maxHeartbeats 1000000 in
theorem check_loop {m : Mg} {l : List Fld} (hlen : l.length ≤ 6) (hok : ∀ f ∈ l, f.ok) (hm : m.fine) (e0 : Int) (left0 : Mg) (K : List AItem) (Q : AVal → AHeap → Prop) {H0 : AHeap} {c : Nat} (hc : H0.length ≤ c)
  (hQ : ∀ H r, Keeps H0 H → H[c]? = some (.cells (encM m) T.msg_Msg) → H[c + 1]? = some (.cells (encM (chkGo m l e0 left0).2) T.msg_Msg) → rget r 1 = .ptr c 0 → rget r 3 = .int .i64 (chkGo m l e0 left0).1 → rget r 4 = .ptr (c + 1) 0 → Run Try.prog checkC K r H Q) :
  ∀ (n i : Nat) (H : AHeap) (e : Int) (left : Mg), l.length - i = n → i ≤ l.length → chkGo m l e0 left0 = chkGo m (l.drop i) e left → Keeps H0 H → H[c]? = some (.cells (encM m) T.msg_Msg) → H[c + 1]? = some (.cells (encM left) T.msg_Msg) →
  Rounds Try.prog checkC msg_Check.b1 [.inBlock 0] K [(1, .ptr c 0), (3, .int .i64 e), (4, .ptr (c + 1) 0), (10, recs encF false l), (11, .int .i64 l.length), (12, .int .i64 i)] H Q
 | n, i, H, e, left, h1, h2, h4, hk, hh1, hh2 => by
  refine loop_V 100 msg_Check.b1.eq_1 ?_
  have hcl : c + 1 < H.length := (List.getElem?_eq_some_iff.1 hh2).1
  by_cases hil : i < l.length
  ·rw [drop_getF hil, chkGo] at h4
   have hld : ∀ H, loadA H (some 7) (.sptr (recs encF false l) (i * 7)) = some (True, .agg (encF (l.getD i fld0))) := fun H => load_recs (enc := encF) (t := false) encF_len hil
   have hfo := hok _ (getD_mem hil)
   generalize hx : l.getD i fld0 = x at *
   have e1 : H[c]? = some (ABlk.cells [.int .i64 m.k, .int .i64 m.n0, .int .i64 m.n1, .int .i64 m.n2, .int .i64 m.n3, .int .i64 m.n4, .int .i64 m.n5, recs encP false m.p, ints false m.c, .str m.t, .str m.g] T.msg_Msg) := hh1
   have e2 : H[c + 1]? = some (ABlk.cells [.int .i64 left.k, .int .i64 left.n0, .int .i64 left.n1, .int .i64 left.n2, .int .i64 left.n3, .int .i64 left.n4, .int .i64 left.n5, recs encP false left.p, ints false left.c, .str left.t, .str left.g] T.msg_Msg) := hh2
   simp (disch := first | omega | (simp only [lnx]; omega)) only [stdh, stdx, ↓reduceIte, seval, hld, encF, at_low, e1]
   refine callK_fn (wrong_ok _ m x hfo hm _ ?_)
   refine runL_V 100 ?_
   by_cases hw : wrongE m x = 0
   ·rw [if_pos hw] at h4
    simp (disch := first | omega | (simp only [lnx]; omega)) only [stdh, stdx, ↓reduceIte, seval, hw, at_low, e1, e2]
    refine callK_fn (without_ok _ left x hfo _ ?_)
    refine runL_V 100 ?_
    generalize hy : withoutM left x = y at *
    simp (disch := first | omega | (simp only [lnx]; omega)) only [stdh, stdx, ↓reduceIte, seval, at_low, e2, set_low, encM]
    refine check_loop hlen hok hm e0 left0 K Q hc hQ _ (i + 1) _ _ y rfl (by omega) h4 ((hk.set (by omega) _).push _) ?_ ?_
    ·rw [List.getElem?_append_left (by simp; omega), List.getElem?_set_ne (by omega)]; exact hh1
    ·rw [List.getElem?_append_left (by simp; omega), List.getElem?_set_self (by omega)]; rfl
   ·rw [if_neg hw] at h4
    simp (disch := first | omega | (simp only [lnx]; omega)) only [stdh, stdx, ↓reduceIte, seval, hw, at_low, e1, e2]
    rw [h4] at hQ
    exact hQ _ _ (hk.push _) (by rw [List.getElem?_append_left (by omega)]; exact hh1) (by rw [List.getElem?_append_left (by omega)]; exact hh2) rfl rfl rfl
  ·rw [List.drop_eq_nil_of_le (by omega : l.length ≤ i), chkGo] at h4
   simp (disch := first | omega | (simp only [lnx]; omega)) only [stdh, stdx, ↓reduceIte, seval]
   rw [h4] at hQ
   exact hQ H _ hk hh1 hh2 rfl rfl rfl
 termination_by n => n
theorem sees_bare (k : Int) : SeesL [.int .i64 k, .int .i64 0, .int .i64 0, .int .i64 0, .int .i64 0, .int .i64 0, .int .i64 0, .nils, .nils, .str ⟨#[]⟩, .str ⟨#[]⟩] (encM { mg0 with k := k }) :=
 .cons (.refl _) (.cons (.refl _) (.cons (.refl _) (.cons (.refl _) (.cons (.refl _) (.cons (.refl _) (.cons (.refl _) (.cons (.nils _) (.cons (.nils _) (.refl _)))))))))
theorem check_ok (H : AHeap) (m : Mg) (hm : m.fine) (Q : AVal → AHeap → Prop) (h : Q (.int .i64 (checkM m)) H) : FunOK Try.prog F.msg_Check [.agg (encM m)] H Q := by
 refine fun_iced msg_Check_code fun _ => ?_
 refine fun_V 100 msg_Check_code rfl ?_
 simp (disch := first | omega | (simp only [lnx]; omega)) only [stdh, stdx, ↓reduceIte, seval, msg_Check, msg_Check.body, msg_Check.d0, encM]
 refine callK_fn (of_ok _ _ _ ?_)
 refine runL_V 100 ?_
 simp (disch := first | omega | (simp only [lnx]; omega)) only [stdh, stdx, ↓reduceIte, seval]
 refine check_loop (fieldsOf_len m.k) (fun f hf => fieldsOf_ok f hf) hm 9 m _ _ (H0 := H) (c := H.length) (by omega) ?_ _ 0 _ _ m rfl (by omega) rfl (keeps_append _ _) at_0 at_k
 intro H' r hk e1 e2 r1 r3 r4
 refine run_V0 100 ?_
 have hf := chkGo_fits (m := m) (fieldsOf m.k) 9 m ⟨hm.1, hm.2.1⟩
 unfold checkM at h
 generalize chkGo m (fieldsOf m.k) 9 m = R at *
 obtain ⟨e, left⟩ := R
 simp only at h e2 r3 hf
 by_cases he : e = 0
 ·simp (disch := first | omega | (simp only [lnx]; omega)) only [stdh, stdx, ↓reduceIte, seval, r1, r3, r4, he, e1, e2, encM]
  refine callK_fn (fun_sees (.cons (.refl _) (.cons (.agg (sees_bare m.k)) .nil)) (same_ok _ left _ hf _ ?_))
  refine runL_V 100 ?_
  by_cases hs : left = { mg0 with k := m.k }
  ·rw [if_neg (by simp [hs])] at h
   simp (disch := first | omega | (simp only [lnx]; omega)) only [stdh, stdx, ↓reduceIte, seval, hs, r3]
   exact ice_keeps hk trivial h
  ·rw [if_pos ⟨he, hs⟩] at h
   simp (disch := first | omega | (simp only [lnx]; omega)) only [stdh, stdx, ↓reduceIte, seval, hs]
   exact ice_keeps hk trivial h
 ·rw [if_neg (by simp [he])] at h
  simp (disch := first | omega | (simp only [lnx]; omega)) only [stdh, stdx, ↓reduceIte, seval, r1, r3, r4, he, e1, e2, encM]
  exact ice_keeps hk trivial h
def projF (m : Mg) (f : Fld) : Mg := if f.place = -1 then withoutM m f else (withoutM m f).put f.place f.absent
def projGo (v : Int) : List Fld → Mg → Mg
 | [], m => m
 | f :: fs, m => projGo v fs (if v ≠ 1 ∨ f.since = 1 then m else projF m f)
def projectM (m : Mg) (v : Int) : Mg := projGo v (fieldsOf m.k) m
abbrev projC : Ctx := ⟨F.msg_Project, 38, [.cell 4 (some 11)], none⟩
def mgz : List AVal := [.int .i64 0, .int .i64 0, .int .i64 0, .int .i64 0, .int .i64 0, .int .i64 0, .int .i64 0, .nils, .nils, .str ⟨#[]⟩, .str ⟨#[]⟩]
set_option maxHeartbeats 2000000 in
theorem proj_loop {v : Int} {l : List Fld} (hlen : l.length ≤ 6) (hok : ∀ f ∈ l, f.ok2) (m0 : Mg) (K : List AItem) (Q : AVal → AHeap → Prop) {H0 : AHeap} {c : Nat} (hc : H0.length ≤ c)
  (hQ : ∀ H r, Keeps H0 H → H[c]? = some (.cells (encM (projGo v l m0)) T.msg_Msg) → H[c + 1]? = some (.cells mgz T.msg_Msg) → rget r 2 = .ptr c 0 → rget r 4 = .ptr (c + 1) 0 → Run Try.prog projC K r H Q) :
  ∀ (n i : Nat) (H : AHeap) (m : Mg), l.length - i = n → i ≤ l.length → projGo v l m0 = projGo v (l.drop i) m → Keeps H0 H → H[c]? = some (.cells (encM m) T.msg_Msg) → H[c + 1]? = some (.cells mgz T.msg_Msg) →
  Rounds Try.prog projC msg_Project.b0 [.inBlock 0] K [(1, .int .i64 v), (2, .ptr c 0), (4, .ptr (c + 1) 0), (11, recs encF false l), (12, .int .i64 l.length), (13, .int .i64 i)] H Q
 | n, i, H, m, h1, h2, h4, hk, hh1, hh2 => by
  refine loop_V 100 msg_Project.b0.eq_1 ?_
  have hcl : c + 1 < H.length := (List.getElem?_eq_some_iff.1 hh2).1
  by_cases hil : i < l.length
  ·rw [drop_getF hil, projGo] at h4
   have hld : ∀ H, loadA H (some 7) (.sptr (recs encF false l) (i * 7)) = some (True, .agg (encF (l.getD i fld0))) := fun H => load_recs (enc := encF) (t := false) encF_len hil
   have hfo := hok _ (getD_mem hil)
   generalize hx : l.getD i fld0 = x at *
   have e1 : H[c]? = some (ABlk.cells [.int .i64 m.k, .int .i64 m.n0, .int .i64 m.n1, .int .i64 m.n2, .int .i64 m.n3, .int .i64 m.n4, .int .i64 m.n5, recs encP false m.p, ints false m.c, .str m.t, .str m.g] T.msg_Msg) := hh1
   by_cases hv : v = 1
   ·have hd1 : decide (v = 1) = true := decide_eq_true hv
    by_cases hs : x.since = 1
    ·rw [if_pos (.inr hs)] at h4
     simp (disch := first | omega | (simp only [lnx]; omega)) only [stdh, stdx, ↓reduceIte, seval, hld, encF, hs, hd1]
     exact proj_loop hlen hok m0 K Q hc hQ _ (i + 1) _ m rfl (by omega) h4 (hk.push _) (by rw [List.getElem?_append_left (by omega)]; exact hh1) (by rw [List.getElem?_append_left (by omega)]; exact hh2)
    ·rw [if_neg (by omega)] at h4
     simp (disch := first | omega | (simp only [lnx]; omega)) only [stdh, stdx, ↓reduceIte, seval, hld, encF, hs, hd1, at_low, e1]
     refine callK_fn (without_ok _ m x hfo.1 _ ?_)
     refine runL_V 100 ?_
     unfold projF at h4
     generalize hy : withoutM m x = y at *
     have hgo : ∀ y' B, projGo v l m0 = projGo v (l.drop (i + 1)) y' → Rounds Try.prog projC msg_Project.b0 [.inBlock 0] K [(1, .int .i64 v), (2, .ptr c 0), (4, .ptr (c + 1) 0), (11, recs encF false l), (12, .int .i64 l.length), (13, .int .i64 (i + 1 : Nat))] (H.set c (.cells (encM y') T.msg_Msg) ++ [B]) Q := fun y' B h5 =>
      proj_loop hlen hok m0 K Q hc hQ _ (i + 1) _ y' rfl (by omega) h5 ((hk.set (by omega) _).push _) (by rw [List.getElem?_append_left (by simp; omega), List.getElem?_set_self (by omega)]) (by rw [List.getElem?_append_left (by simp; omega), List.getElem?_set_ne (by omega)]; exact hh2)
     obtain ⟨hfo1, p | p | p | p | p | p | p⟩ := hfo
     ·rw [if_pos p] at h4
      simp (disch := first | omega | (simp only [lnx]; omega)) only [stdh, stdx, ↓reduceIte, seval, at_low, set_low, e1, encM, p, at_0s, encF]
      exact hgo y _ h4
     all_goals
      rw [if_neg (by omega), p] at h4
      simp (disch := first | omega | (simp only [lnx]; omega)) only [stdh, stdx, ↓reduceIte, seval, at_low, set_low, e1, encM, p, List.set_set, at_0s, encF, List.getElem?_set_self]
      exact hgo _ _ h4
   ·rw [if_pos (.inl hv)] at h4
    simp (disch := first | omega | (simp only [lnx]; omega)) only [stdh, stdx, ↓reduceIte, seval, hld, encF, hv]
    exact proj_loop hlen hok m0 K Q hc hQ _ (i + 1) _ m rfl (by omega) h4 (hk.push _) (by rw [List.getElem?_append_left (by omega)]; exact hh1) (by rw [List.getElem?_append_left (by omega)]; exact hh2)
  ·rw [List.drop_eq_nil_of_le (by omega : l.length ≤ i), projGo] at h4
   simp (disch := first | omega | (simp only [lnx]; omega)) only [stdh, stdx, ↓reduceIte, seval]
   rw [h4] at hQ
   exact hQ H _ hk hh1 hh2 rfl rfl
 termination_by n => n
theorem project_ok (H : AHeap) (m : Mg) (v : Int) (hm : m.small) (Q : AVal → AHeap → Prop) (h : Q (.agg (encM (projectM m v))) H) : FunOK Try.prog F.msg_Project [.agg (encM m), .int .i64 v] H Q := by
 refine fun_iced msg_Project_code fun _ => ?_
 refine fun_V 100 msg_Project_code rfl ?_
 simp (disch := first | omega | (simp only [lnx]; omega)) only [stdh, stdx, ↓reduceIte, seval, msg_Project, msg_Project.body, encM]
 refine callK_fn (copy_ok _ m hm _ ?_)
 refine runL_V 100 ?_
 simp (disch := first | omega | (simp only [lnx]; omega)) only [stdh, stdx, ↓reduceIte, seval, encM]
 refine callK_fn (of_ok _ _ _ ?_)
 refine runL_V 100 ?_
 simp (disch := first | omega | (simp only [lnx]; omega)) only [stdh, stdx, ↓reduceIte, seval]
 refine proj_loop (fieldsOf_len m.k) (fun f hf => fieldsOf_ok2 f hf) m _ _ (H0 := H) (c := H.length) (by omega) ?_ _ 0 _ m rfl (by omega) rfl (keeps_append _ _) at_0 at_k
 intro H' r hk e1 e2 r2 r4
 refine run_V0 100 ?_
 unfold projectM at h
 generalize projGo v (fieldsOf m.k) m = y at *
 have hl : H.length + 1 < H'.length := (List.getElem?_eq_some_iff.1 e2).1
 simp (disch := first | omega | (simp only [lnx]; omega)) only [stdh, stdx, ↓reduceIte, seval, r2, r4, e1, e2, encM, mgz, List.getElem?_set_self]
 exact ice_keeps (hk.set (by omega) _) (closeds_encM y) h
end Go.Proofs.Ytgjldipoagkncaa

namespace Go.Proofs.Ytgjldipoagkncaa
open Go Go.Am
end Go.Proofs.Ytgjldipoagkncaa

namespace Go.Proofs.Ytgjldipoagkncaa
open Go Go.Am
abbrev rintC : Ctx := ⟨F.cuneiformref01_Ints, 26, [.tmp 4], none⟩
theorem rints_loop {xs ys : List Int} (hl : xs.length = ys.length) (hb : xs.length < 9223372036854775807) {t1 t2 : Bool} (K : List AItem) (H : AHeap) (Q : AVal → AHeap → Prop) (hK : xs = ys → ∀ r, Run Try.prog rintC K r H Q) (hR : xs ≠ ys → Q (.bool false) H) :
  ∀ (m i : Nat), xs.length - i = m → i ≤ xs.length → xs.take i = ys.take i →
  Rounds Try.prog rintC cuneiformref01_Ints.b1 [.inBlock 0] K [(0, ints t1 xs), (1, ints t2 ys), (5, .int .i64 (i : Nat))] H Q
 | m, i, h1, h2, h3 => by
  refine loop_V 100 cuneiformref01_Ints.b1.eq_1 ?_
  by_cases hi : i < xs.length
  ·by_cases he : xs.getD i 0 = ys.getD i 0
   ·simp (disch := first | omega | (simp only [lnx]; omega)) only [stdh, stdx, ↓reduceIte, seval, cuneiformref01_Ints.d0, he]
    rw [show (i : Int) + 1 = ((i + 1 : Nat) : Int) by omega]
    exact rints_loop hl hb K H Q hK hR _ (i + 1) rfl (by omega) (take_step hi (by omega) h3 he)
   ·simp (disch := first | omega | (simp only [lnx]; omega)) only [stdh, stdx, ↓reduceIte, seval, cuneiformref01_Ints.d0, he]
    exact hR (take_ne he)
  ·simp (disch := first | omega | (simp only [lnx]; omega)) only [stdh, stdx, ↓reduceIte, seval]
   refine hK ?_ _
   rw [List.take_of_length_le (by omega), List.take_of_length_le (by omega)] at h3
   exact h3
 termination_by m => m
theorem rints_ok (H : AHeap) (xs ys : List Int) {t1 t2 : Bool} (hx : xs.length < 9223372036854775807) (Q : AVal → AHeap → Prop) (h : Q (.bool (decide (xs = ys))) H) : FunOK Try.prog F.cuneiformref01_Ints [ints t1 xs, ints t2 ys] H Q := by
 refine fun_V 100 cuneiformref01_Ints_code rfl ?_
 by_cases hl : xs.length = ys.length
 ·have hl' : (xs.length : Int) = (ys.length : Int) := by omega
  simp (disch := first | omega | (simp only [lnx]; omega)) only [stdh, stdx, ↓reduceIte, seval, cuneiformref01_Ints, cuneiformref01_Ints.body, hl']
  refine rints_loop hl hx _ H Q ?_ ?_ _ 0 rfl (by omega) rfl
  ·intro he r
   refine run_V0 40 ?_
   rw [decide_eq_true he] at h
   simp (disch := first | omega | (simp only [lnx]; omega)) only [stdh, stdx, ↓reduceIte, seval]
   exact h
  ·intro he
   rw [decide_eq_false he] at h
   exact h
 ·have hl' : ¬ (xs.length : Int) = (ys.length : Int) := by omega
  simp (disch := first | omega | (simp only [lnx]; omega)) only [stdh, stdx, ↓reduceIte, seval, cuneiformref01_Ints, cuneiformref01_Ints.body, hl']
  rw [decide_eq_false (fun he => hl (by rw [he]))] at h
  exact h
abbrev rsameC : Ctx := ⟨F.cuneiformref17_Same, 67, [.tmp 4], none⟩
theorem rsame_loop {a b : Mg} (hl : a.p.length = b.p.length) (hb : a.p.length < 9223372036854775807) (K : List AItem) (H : AHeap) (Q : AVal → AHeap → Prop) {c : Nat} (e1 : H[c]? = some (.cells (encM a) T.cuneiformref17_M)) (e2 : H[c + 1]? = some (.cells (encM b) T.cuneiformref17_M)) (hK : a.p = b.p → ∀ r, Run Try.prog rsameC K r H Q) (hR : a.p ≠ b.p → Q (.bool false) H) :
  ∀ (m i : Nat), a.p.length - i = m → i ≤ a.p.length → a.p.take i = b.p.take i →
  Rounds Try.prog rsameC cuneiformref17_Same.b1 [.inBlock 0] K [(2, .ptr c 0), (3, .ptr (c + 1) 0), (5, .int .i64 (i : Nat))] H Q
 | m, i, h1, h2, h3 => by
  refine loop_V 100 cuneiformref17_Same.b1.eq_1 ?_
  by_cases hi : i < a.p.length
  ·have g1 : loadA H (some 2) (.sptr (recs encP false a.p) (i * 2)) = some (True, .agg (encP (a.p.getD i default))) := load_recs encP_len hi
   have g2 : loadA H (some 2) (.sptr (recs encP false b.p) (i * 2)) = some (True, .agg (encP (b.p.getD i default))) := load_recs encP_len (by omega)
   have hs := fun he => take_step (xs := a.p) (ys := b.p) hi (by omega) h3 he
   have hn := take_ne (xs := a.p) (ys := b.p) (i := i)
   generalize a.p.getD i default = x at *
   generalize b.p.getD i default = y at *
   obtain ⟨x1, x2⟩ := x
   obtain ⟨y1, y2⟩ := y
   by_cases he : x1 = y1
   ·by_cases he2 : x2 = y2
    ·subst he; subst he2
     simp (disch := first | omega | (simp only [lnx]; omega)) only [stdh, stdx, ↓reduceIte, seval, cuneiformref17_Same.d0, g1, g2, e1, e2, encM, encP]
     rw [show (i : Int) + 1 = ((i + 1 : Nat) : Int) by omega]
     exact rsame_loop hl hb K H Q e1 e2 hK hR _ (i + 1) rfl (by omega) (hs rfl)
    ·simp (disch := first | omega | (simp only [lnx]; omega)) only [stdh, stdx, ↓reduceIte, seval, cuneiformref17_Same.d0, g1, g2, e1, e2, encM, encP, he2]
     exact hR (hn fun hh => he2 (by cases hh; rfl))
   ·simp (disch := first | omega | (simp only [lnx]; omega)) only [stdh, stdx, ↓reduceIte, seval, cuneiformref17_Same.d0, g1, g2, e1, e2, encM, encP, he]
    exact hR (hn fun hh => he (by cases hh; rfl))
  ·simp (disch := first | omega | (simp only [lnx]; omega)) only [stdh, stdx, ↓reduceIte, seval, e1, encM]
   refine hK ?_ _
   rw [List.take_of_length_le (by omega), List.take_of_length_le (by omega)] at h3
   exact h3
 termination_by m => m
def Mg.fit2 (m : Mg) : Prop := m.p.length < 9223372036854775807 ∧ m.c.length < 9223372036854775807
theorem Mg.small.fit2 {m : Mg} (h : m.small) : m.fit2 := ⟨by have := h.p; omega, by have := h.c; omega⟩
set_option maxHeartbeats 2000000 in
theorem rsame_ok (H : AHeap) (a b : Mg) (ha : a.fit2) (Q : AVal → AHeap → Prop) (h : Q (.bool (decide (a = b))) H) : FunOK Try.prog F.cuneiformref17_Same [.agg (encM a), .agg (encM b)] H Q := by
 refine fun_iced cuneiformref17_Same_code fun _ => ?_
 refine fun_V 60 cuneiformref17_Same_code rfl ?_
 obtain ⟨hp, hc⟩ := ha
 have hne : a ≠ b → IceQ H Q (.bool false) (H ++ [.cells (encM a) T.cuneiformref17_M, .cells (encM b) T.cuneiformref17_M]) := fun hn => ice_none trivial (by rw [decide_eq_false hn] at h; exact h)
 by_cases hk : a.k = b.k
 case neg =>
  simp (disch := first | omega | (simp only [lnx]; omega)) only [stdh, stdx, ↓reduceIte, seval, cuneiformref17_Same, cuneiformref17_Same.body, encM, hk]
  exact hne fun hh => hk (by rw [hh])
 by_cases h0 : a.n0 = b.n0
 case neg =>
  simp (disch := first | omega | (simp only [lnx]; omega)) only [stdh, stdx, ↓reduceIte, seval, cuneiformref17_Same, cuneiformref17_Same.body, encM, hk, h0]
  exact ice_none trivial (by rw [decide_eq_false (fun hh => h0 (by rw [hh]))] at h; exact h)
 by_cases h1 : a.n1 = b.n1
 case neg =>
  simp (disch := first | omega | (simp only [lnx]; omega)) only [stdh, stdx, ↓reduceIte, seval, cuneiformref17_Same, cuneiformref17_Same.body, encM, hk, h0, h1]
  exact ice_none trivial (by rw [decide_eq_false (fun hh => h1 (by rw [hh]))] at h; exact h)
 by_cases h2 : a.n2 = b.n2
 case neg =>
  simp (disch := first | omega | (simp only [lnx]; omega)) only [stdh, stdx, ↓reduceIte, seval, cuneiformref17_Same, cuneiformref17_Same.body, encM, hk, h0, h1, h2]
  exact ice_none trivial (by rw [decide_eq_false (fun hh => h2 (by rw [hh]))] at h; exact h)
 by_cases h3 : a.n3 = b.n3
 case neg =>
  simp (disch := first | omega | (simp only [lnx]; omega)) only [stdh, stdx, ↓reduceIte, seval, cuneiformref17_Same, cuneiformref17_Same.body, encM, hk, h0, h1, h2, h3]
  exact ice_none trivial (by rw [decide_eq_false (fun hh => h3 (by rw [hh]))] at h; exact h)
 by_cases h4 : a.n4 = b.n4
 case neg =>
  simp (disch := first | omega | (simp only [lnx]; omega)) only [stdh, stdx, ↓reduceIte, seval, cuneiformref17_Same, cuneiformref17_Same.body, encM, hk, h0, h1, h2, h3, h4]
  exact ice_none trivial (by rw [decide_eq_false (fun hh => h4 (by rw [hh]))] at h; exact h)
 by_cases h5 : a.n5 = b.n5
 case neg =>
  simp (disch := first | omega | (simp only [lnx]; omega)) only [stdh, stdx, ↓reduceIte, seval, cuneiformref17_Same, cuneiformref17_Same.body, encM, hk, h0, h1, h2, h3, h4, h5]
  exact ice_none trivial (by rw [decide_eq_false (fun hh => h5 (by rw [hh]))] at h; exact h)
 by_cases h6 : a.p.length = b.p.length
 case neg =>
  have h6' : ¬ (a.p.length : Int) = (b.p.length : Int) := by omega
  simp (disch := first | omega | (simp only [lnx]; omega)) only [stdh, stdx, ↓reduceIte, seval, cuneiformref17_Same, cuneiformref17_Same.body, encM, hk, h0, h1, h2, h3, h4, h5, h6']
  exact ice_none trivial (by rw [decide_eq_false (fun hh => h6 (by rw [hh]))] at h; exact h)
 have h6' : decide ((a.p.length : Int) = (b.p.length : Int)) = true := decide_eq_true (by omega)
 simp (disch := first | omega | (simp only [lnx]; omega)) only [stdh, stdx, ↓reduceIte, seval, cuneiformref17_Same, cuneiformref17_Same.body, encM, hk, h0, h1, h2, h3, h4, h5, h6']
 refine callK_fn (rints_ok _ _ _ hc _ ?_)
 refine runL_V 60 ?_
 by_cases h7 : a.c = b.c
 case neg =>
  simp (disch := first | omega | (simp only [lnx]; omega)) only [stdh, stdx, ↓reduceIte, seval, h7]
  exact ice_none trivial (by rw [decide_eq_false (fun hh => h7 (by rw [hh]))] at h; exact h)
 by_cases h8 : a.t = b.t
 case neg =>
  simp (disch := first | omega | (simp only [lnx]; omega)) only [stdh, stdx, ↓reduceIte, seval, h7, h8]
  exact ice_none trivial (by rw [decide_eq_false (fun hh => h8 (by rw [hh]))] at h; exact h)
 by_cases h9 : a.g = b.g
 case neg =>
  simp (disch := first | omega | (simp only [lnx]; omega)) only [stdh, stdx, ↓reduceIte, seval, h7, h8, h9]
  exact ice_none trivial (by rw [decide_eq_false (fun hh => h9 (by rw [hh]))] at h; exact h)
 have d7 : decide (a.c = b.c) = true := decide_eq_true h7
 have d8 : decide (a.t = b.t) = true := decide_eq_true h8
 have d9 : decide (a.g = b.g) = true := decide_eq_true h9
 simp (disch := first | omega | (simp only [lnx]; omega)) only [stdh, stdx, ↓reduceIte, seval, d7, d8, d9]
 refine rsame_loop (a := a) (b := b) (c := H.length) h6 hp _ _ _ ?_ ?_ ?_ ?_ _ 0 rfl (by omega) rfl
 ·rw [at_0]; simp [encM, hk, h0, h1, h2, h3, h4, h5]
 ·rw [at_k]; rfl
 ·intro hpp r
  refine run_V0 40 ?_
  simp (disch := first | omega | (simp only [lnx]; omega)) only [stdh, stdx, ↓reduceIte, seval]
  refine ice_none trivial ?_
  rw [decide_eq_true (by obtain ⟨ak, a0, a1, a2, a3, a4, a5, ap, ac, at', ag⟩ := a; simp only at hk h0 h1 h2 h3 h4 h5 hpp h7 h8 h9; simp only [hk, h0, h1, h2, h3, h4, h5, hpp, h7, h8, h9])] at h
  exact h
 ·intro hpp
  refine ice_none trivial ?_
  rw [decide_eq_false (fun hh => hpp (by rw [hh]))] at h
  exact h
def rpathE (l : List (Int × Int)) : Int := if l.length = 0 then 13 else if 16 < l.length then 6 else if l.any farP then 5 else 0
abbrev rpathC : Ctx := ⟨F.cuneiformref17_path, 37, [.tmp 2], none⟩
set_option maxHeartbeats 1000000 in
theorem rpath_loop {l : List (Int × Int)} (hb : l.length ≤ 16) {t : Bool} (K : List AItem) (H : AHeap) (Q : AVal → AHeap → Prop) (hK : l.any farP = false → ∀ r, Run Try.prog rpathC K r H Q) (hR : l.any farP = true → Q (.int .i64 5) H) :
  ∀ (m i : Nat), l.length - i = m → i ≤ l.length → l.any farP = (l.drop i).any farP →
  Rounds Try.prog rpathC cuneiformref17_path.b1 [.inBlock 0] K [(0, recs encP t l), (3, .int .i64 (i : Nat))] H Q
 | m, i, h1, h2, h3 => by
  refine loop_V 100 cuneiformref17_path.b1.eq_1 ?_
  by_cases hi : i < l.length
  ·have g0 : loadA H none (.sptr (recs encP t l) (i * 2 + 0)) = some (True, ((encP (l.getD i default)).getD 0 .junk)) := load_rec1 (o := 0) encP_len hi (by omega)
   have g1 : loadA H none (.sptr (recs encP t l) (i * 2 + 1)) = some (True, ((encP (l.getD i default)).getD 1 .junk)) := load_rec1 encP_len hi (by omega)
   have hd : l.drop i = l.getD i default :: l.drop (i + 1) := by rw [List.drop_eq_getElem_cons hi]; simp [hi]
   rw [hd, List.any_cons] at h3
   generalize l.getD i default = x at *
   obtain ⟨x1, x2⟩ := x
   have hfar : farP (x1, x2) = decide (1000000 < x1 ∨ 1000000 < x2 ∨ x1 < -1000000 ∨ x2 < -1000000) := rfl
   simp (disch := first | omega | (simp only [lnx]; omega)) only [stdh, stdx, ↓reduceIte, seval]
   refine loop_V 100 cuneiformref17_path.b0.eq_1 ?_
   by_cases q1 : x1 < -1000000
   ·rw [hfar, decide_eq_true (.inr (.inr (.inl q1))), Bool.true_or] at h3
    simp (disch := first | omega | (simp only [lnx]; omega)) only [stdh, stdx, ↓reduceIte, seval, g0, encP, q1]
    exact hR h3
   by_cases q2 : (1000000 : Int) < x1
   ·rw [hfar, decide_eq_true (.inl q2), Bool.true_or] at h3
    simp (disch := first | omega | (simp only [lnx]; omega)) only [stdh, stdx, ↓reduceIte, seval, g0, encP, q1, q2]
    exact hR h3
   simp (disch := first | omega | (simp only [lnx]; omega)) only [stdh, stdx, ↓reduceIte, seval, g0, encP, q1, q2, Int.reduceAdd]
   refine loop_V 100 cuneiformref17_path.b0.eq_1 ?_
   by_cases q3 : x2 < -1000000
   ·rw [hfar, decide_eq_true (.inr (.inr (.inr q3))), Bool.true_or] at h3
    simp (disch := first | omega | (simp only [lnx]; omega)) only [stdh, stdx, ↓reduceIte, seval, g1, encP, q3]
    exact hR h3
   by_cases q4 : (1000000 : Int) < x2
   ·rw [hfar, decide_eq_true (.inr (.inl q4)), Bool.true_or] at h3
    simp (disch := first | omega | (simp only [lnx]; omega)) only [stdh, stdx, ↓reduceIte, seval, g1, encP, q3, q4]
    exact hR h3
   simp (disch := first | omega | (simp only [lnx]; omega)) only [stdh, stdx, ↓reduceIte, seval, g1, encP, q3, q4, Int.reduceAdd]
   refine loop_V 100 cuneiformref17_path.b0.eq_1 ?_
   rw [hfar, decide_eq_false (by omega), Bool.false_or] at h3
   simp (disch := first | omega | (simp only [lnx]; omega)) only [stdh, stdx, ↓reduceIte, seval]
   refine run_VT 100 [_, _, _, _] K rfl ?_
   simp (disch := first | omega | (simp only [lnx]; omega)) only [stdh, stdx, ↓reduceIte, seval]
   rw [show (i : Int) + 1 = ((i + 1 : Nat) : Int) by omega]
   exact rpath_loop hb K H Q hK hR _ (i + 1) rfl (by omega) h3
  ·simp (disch := first | omega | (simp only [lnx]; omega)) only [stdh, stdx, ↓reduceIte, seval]
   rw [List.drop_eq_nil_of_le (by omega : l.length ≤ i)] at h3
   exact hK h3 _
 termination_by m => m
theorem rpath_ok (H : AHeap) (l : List (Int × Int)) {t : Bool} (Q : AVal → AHeap → Prop) (h : Q (.int .i64 (rpathE l)) H) : FunOK Try.prog F.cuneiformref17_path [recs encP t l] H Q := by
 refine fun_V 100 cuneiformref17_path_code rfl ?_
 unfold rpathE at h
 by_cases h1 : l.length = 0
 ·rw [if_pos h1] at h
  have h1' : (l.length : Int) = 0 := by omega
  simp (disch := first | omega | (simp only [lnx]; omega)) only [stdh, stdx, ↓reduceIte, seval, cuneiformref17_path, cuneiformref17_path.body, h1']
  exact h
 rw [if_neg h1] at h
 have h1' : ¬ (l.length : Int) = 0 := by omega
 by_cases h2 : 16 < l.length
 ·rw [if_pos h2] at h
  have h2' : (16 : Int) < l.length := by omega
  simp (disch := first | omega | (simp only [lnx]; omega)) only [stdh, stdx, ↓reduceIte, seval, cuneiformref17_path, cuneiformref17_path.body, h1', h2']
  exact h
 rw [if_neg h2] at h
 simp (disch := first | omega | (simp only [lnx]; omega)) only [stdh, stdx, ↓reduceIte, seval, cuneiformref17_path, cuneiformref17_path.body, h1']
 refine rpath_loop (by omega) _ _ _ ?_ ?_ _ 0 rfl (by omega) rfl
 ·intro ha r
  refine run_V0 40 ?_
  rw [ha] at h
  simp (disch := first | omega | (simp only [lnx]; omega)) only [stdh, stdx, ↓reduceIte, seval]
  simpa using h
 ·intro ha
  rw [ha] at h
  simpa using h
def rcellsE (l : List Int) : Int := if l.length = 0 then 13 else if 32 < l.length then 6 else cellsGo (-1) l
abbrev rcellsC : Ctx := ⟨F.cuneiformref17_cells, 42, [.tmp 2], none⟩
set_option maxHeartbeats 1000000 in
theorem rcells_loop {l : List Int} (hb : l.length ≤ 32) {t : Bool} (K : List AItem) (H : AHeap) (Q : AVal → AHeap → Prop) (hK : cellsGo (-1) l = 0 → ∀ r, Run Try.prog rcellsC K r H Q) (hR : Q (.int .i64 (cellsGo (-1) l)) H) :
  ∀ (m i : Nat) (last : Int), l.length - i = m → i ≤ l.length → ((i = 0 ∧ last = -1) ∨ (0 < i ∧ last = l.getD (i - 1) 0)) → cellsGo (-1) l = cellsGo last (l.drop i) →
  Rounds Try.prog rcellsC cuneiformref17_cells.b1 [.inBlock 0] K [(0, ints t l), (3, .int .i64 (i : Nat))] H Q
 | m, i, last, h1, h2, hl, h3 => by
  refine loop_V 100 cuneiformref17_cells.b1.eq_1 ?_
  by_cases hi : i < l.length
  ·have hd : l.drop i = l.getD i 0 :: l.drop (i + 1) := by rw [List.drop_eq_getElem_cons hi]; simp [hi]
   rw [hd, cellsGo] at h3
   by_cases q1 : l.getD i 0 < 0
   ·rw [if_pos (.inl q1)] at h3
    rw [h3] at hR
    simp (disch := first | omega | (simp only [lnx]; omega)) only [stdh, stdx, ↓reduceIte, seval, q1]
    exact hR
   by_cases q2 : (65535 : Int) < l.getD i 0
   ·rw [if_pos (.inr q2)] at h3
    rw [h3] at hR
    simp (disch := first | omega | (simp only [lnx]; omega)) only [stdh, stdx, ↓reduceIte, seval, q1, q2]
    exact hR
   rw [if_neg (by omega)] at h3
   rcases hl with ⟨h0, hl⟩ | ⟨h0, hl⟩
   ·rw [if_neg (by omega)] at h3
    have h0' : ¬ (0 : Int) < (i : Int) := by omega
    simp (disch := first | omega | (simp only [lnx]; omega)) only [stdh, stdx, ↓reduceIte, seval, q1, q2, h0', cuneiformref17_cells.d0]
    rw [show (i : Int) + 1 = ((i + 1 : Nat) : Int) by omega]
    exact rcells_loop hb K H Q hK hR _ (i + 1) _ rfl (by omega) (.inr ⟨by omega, rfl⟩) h3
   ·have h0' : (0 : Int) < (i : Int) := by omega
    obtain ⟨j, rfl⟩ : ∃ j, i = j + 1 := ⟨i - 1, by omega⟩
    have hj : ((j + 1 : Nat) : Int) - 1 = (j : Nat) := by omega
    simp only [Nat.add_sub_cancel] at hl
    by_cases q3 : l.getD (j + 1) 0 ≤ last
    ·rw [if_pos q3] at h3
     rw [h3] at hR
     rw [hl] at q3
     simp (disch := first | omega | (simp only [lnx]; omega)) only [stdh, stdx, ↓reduceIte, seval, q1, q2, q3, h0', hj, cuneiformref17_cells.d0]
     try exact hR
    ·rw [if_neg q3] at h3
     rw [hl] at q3
     simp (disch := first | omega | (simp only [lnx]; omega)) only [stdh, stdx, ↓reduceIte, seval, q1, q2, q3, h0', hj, cuneiformref17_cells.d0]
     rw [show ((j + 1 : Nat) : Int) + 1 = ((j + 1 + 1 : Nat) : Int) by omega]
     exact rcells_loop hb K H Q hK hR _ (j + 1 + 1) _ rfl (by omega) (.inr ⟨by omega, rfl⟩) h3
  ·simp (disch := first | omega | (simp only [lnx]; omega)) only [stdh, stdx, ↓reduceIte, seval]
   rw [List.drop_eq_nil_of_le (by omega : l.length ≤ i), cellsGo] at h3
   exact hK h3 _
 termination_by m => m
theorem rcells_ok (H : AHeap) (l : List Int) {t : Bool} (Q : AVal → AHeap → Prop) (h : Q (.int .i64 (rcellsE l)) H) : FunOK Try.prog F.cuneiformref17_cells [ints t l] H Q := by
 refine fun_V 100 cuneiformref17_cells_code rfl ?_
 unfold rcellsE at h
 by_cases h1 : l.length = 0
 ·rw [if_pos h1] at h
  have h1' : (l.length : Int) = 0 := by omega
  simp (disch := first | omega | (simp only [lnx]; omega)) only [stdh, stdx, ↓reduceIte, seval, cuneiformref17_cells, cuneiformref17_cells.body, h1']
  exact h
 rw [if_neg h1] at h
 have h1' : ¬ (l.length : Int) = 0 := by omega
 by_cases h2 : 32 < l.length
 ·rw [if_pos h2] at h
  have h2' : (32 : Int) < l.length := by omega
  simp (disch := first | omega | (simp only [lnx]; omega)) only [stdh, stdx, ↓reduceIte, seval, cuneiformref17_cells, cuneiformref17_cells.body, h1', h2']
  exact h
 rw [if_neg h2] at h
 simp (disch := first | omega | (simp only [lnx]; omega)) only [stdh, stdx, ↓reduceIte, seval, cuneiformref17_cells, cuneiformref17_cells.body, h1']
 refine rcells_loop (by omega) _ _ _ ?_ h _ 0 _ rfl (by omega) (.inl ⟨rfl, rfl⟩) rfl
 intro ha r
 refine run_V0 40 ?_
 rw [ha] at h
 simp (disch := first | omega | (simp only [lnx]; omega)) only [stdh, stdx, ↓reduceIte, seval]
 exact h
theorem get_byte {s : ByteArray} {i : Nat} (hi : i < s.size) : ((s.get! i).toNat : Int) = (((bytesOf s).getD i 0 : Nat) : Int) := by
 have h1 : s.get! i = s.data[i]! := rfl
 have h2 : i < s.data.size := hi
 have h3 : i < s.data.toList.length := by simpa using hi
 rw [h1, bytesOf, List.getD_eq_getElem?_getD, List.getElem?_map, List.getElem?_eq_getElem h3]
 rw [getElem!_pos s.data i h2]
 simp
def rtextE (s : ByteArray) (most : Int) : Int := if most < (s.size : Int) then 6 else if (bytesOf s).any badB then 19 else 0
abbrev rtextC : Ctx := ⟨F.cuneiformref17_text, 26, [.tmp 4], none⟩
theorem rtext_loop {s : ByteArray} (hb : s.size < 9223372036854775807) (K : List AItem) (H : AHeap) (Q : AVal → AHeap → Prop) (hK : (bytesOf s).any badB = false → ∀ r, Run Try.prog rtextC K r H Q) (hR : (bytesOf s).any badB = true → Q (.int .i64 19) H) :
  ∀ (m i : Nat), s.size - i = m → i ≤ s.size → (bytesOf s).any badB = ((bytesOf s).drop i).any badB →
  Rounds Try.prog rtextC cuneiformref17_text.b0 [.inBlock 0] K [(0, .str s), (5, .int .i64 (i : Nat))] H Q
 | m, i, h1, h2, h3 => by
  refine loop_V 100 cuneiformref17_text.b0.eq_1 ?_
  have hlen := bytesOf_len s
  by_cases hi : i < s.size
  ·have hd : (bytesOf s).drop i = (bytesOf s).getD i 0 :: (bytesOf s).drop (i + 1) := by rw [List.drop_eq_getElem_cons (by omega)]; simp [show i < (bytesOf s).length by omega]
   rw [hd, List.any_cons] at h3
   have hg := get_byte hi
   by_cases q1 : (((bytesOf s).getD i 0 : Nat) : Int) < 32
   ·rw [show badB ((bytesOf s).getD i 0) = true from decide_eq_true (.inl (by omega)), Bool.true_or] at h3
    simp (disch := first | omega | (simp only [lnx]; omega)) only [stdh, stdx, ↓reduceIte, seval, hg, q1]
    exact hR h3
   by_cases q2 : (126 : Int) < (((bytesOf s).getD i 0 : Nat) : Int)
   ·rw [show badB ((bytesOf s).getD i 0) = true from decide_eq_true (.inr (by omega)), Bool.true_or] at h3
    simp (disch := first | omega | (simp only [lnx]; omega)) only [stdh, stdx, ↓reduceIte, seval, hg, q1, q2]
    exact hR h3
   rw [show badB ((bytesOf s).getD i 0) = false from decide_eq_false (by omega), Bool.false_or] at h3
   simp (disch := first | omega | (simp only [lnx]; omega)) only [stdh, stdx, ↓reduceIte, seval, hg, q1, q2]
   rw [show (i : Int) + 1 = ((i + 1 : Nat) : Int) by omega]
   exact rtext_loop hb K H Q hK hR _ (i + 1) rfl (by omega) h3
  ·simp (disch := first | omega | (simp only [lnx]; omega)) only [stdh, stdx, ↓reduceIte, seval]
   rw [List.drop_eq_nil_of_le (by omega)] at h3
   exact hK h3 _
 termination_by m => m
theorem rtext_ok (H : AHeap) (s : ByteArray) (most : Int) (hb : s.size < 9223372036854775807) (Q : AVal → AHeap → Prop) (h : Q (.int .i64 (rtextE s most)) H) : FunOK Try.prog F.cuneiformref17_text [.str s, .int .i64 most] H Q := by
 refine fun_V 100 cuneiformref17_text_code rfl ?_
 unfold rtextE at h
 by_cases h1 : most < (s.size : Int)
 ·rw [if_pos h1] at h
  simp (disch := first | omega | (simp only [lnx]; omega)) only [stdh, stdx, ↓reduceIte, seval, cuneiformref17_text, cuneiformref17_text.body, h1]
  exact h
 rw [if_neg h1] at h
 simp (disch := first | omega | (simp only [lnx]; omega)) only [stdh, stdx, ↓reduceIte, seval, cuneiformref17_text, cuneiformref17_text.body, h1]
 refine rtext_loop hb _ _ _ ?_ ?_ _ 0 rfl (by omega) rfl
 ·intro ha r
  refine run_V0 40 ?_
  rw [ha] at h
  simp (disch := first | omega | (simp only [lnx]; omega)) only [stdh, stdx, ↓reduceIte, seval]
  simpa using h
 ·intro ha
  rw [ha] at h
  simpa using h
structure RS where
 a0 : Bool
 a1 : Bool
 a2 : Bool
 a3 : Bool
 a4 : Bool
 a5 : Bool
 a6 : Bool
 b0 : Bool
 b1 : Bool
 b2 : Bool
 b3 : Bool
 b4 : Bool
 b5 : Bool
 deriving DecidableEq
def rs0 : RS := ⟨false, false, false, false, false, false, false, false, false, false, false, false, false⟩
def RS.has (s : RS) : List AVal := [.bool s.a0, .bool s.a1, .bool s.a2, .bool s.a3, .bool s.a4, .bool s.a5, .bool s.a6]
def RS.num (s : RS) : List AVal := [.bool s.b0, .bool s.b1, .bool s.b2, .bool s.b3, .bool s.b4, .bool s.b5]
def RS.sort (s : RS) (j : Int) : RS := if j = 1 then { s with a1 := true } else if j = 2 then { s with a2 := true } else if j = 3 then { s with a3 := true } else if j = 4 then { s with a4 := true } else if j = 5 then { s with a5 := true } else if j = 6 then { s with a6 := true } else s
def RS.plc (s : RS) (j : Int) : RS := if j = 0 then { s with b0 := true } else if j = 1 then { s with b1 := true } else if j = 2 then { s with b2 := true } else if j = 3 then { s with b3 := true } else if j = 4 then { s with b4 := true } else if j = 5 then { s with b5 := true } else s
def RS.add (s : RS) (f : Fld) : RS := if f.sort = 1 ∨ f.sort = 2 then (s.sort f.sort).plc f.place else s.sort f.sort
def rwrongE (m : Mg) (f : Fld) : Int :=
 if f.sort = 3 then rpathE m.p else if f.sort = 4 then rcellsE m.c else if f.sort = 5 then rtextE m.t 64 else if f.sort = 6 then rtextE m.g 16
 else if m.num f.place < f.least ∨ f.most < m.num f.place then 5 else 0
def rgo (m : Mg) : List Fld → Int
 | [] => 0
 | f :: fs => if rwrongE m f = 0 then rgo m fs else rwrongE m f
def Fld.ok3 (f : Fld) : Prop := (f.place = -1 ∧ (f.sort = 3 ∨ f.sort = 4 ∨ f.sort = 5 ∨ f.sort = 6)) ∨ ((f.sort = 1 ∨ f.sort = 2) ∧ (f.place = 0 ∨ f.place = 1 ∨ f.place = 2 ∨ f.place = 3 ∨ f.place = 4 ∨ f.place = 5))
instance (f : Fld) : Decidable f.ok3 := by unfold Fld.ok3; infer_instance
theorem fieldsOf_ok3 {k : Int} : ∀ f ∈ fieldsOf k, f.ok3 := by
 unfold fieldsOf
 split
 ·decide +kernel
 split
 ·decide +kernel
 split
 ·decide +kernel
 split
 ·decide +kernel
 split
 ·decide +kernel
 ·simp
abbrev rchkC : Ctx := ⟨F.cuneiformref17_Check, 146, [.tmp 2], none⟩
def Mg.fine2 (m : Mg) : Prop := m.p.length < 9223372036854775807 ∧ m.c.length < 9223372036854775807 ∧ m.t.size < 9223372036854775807 ∧ m.g.size < 9223372036854775807
set_option maxRecDepth 10000 in
set_option maxHeartbeats 4000000 in
theorem rcheck_loop {m : Mg} (hm : m.fine2) {l : List Fld} (hlen : l.length ≤ 6) (hok : ∀ f ∈ l, f.ok3) (K : List AItem) (Q : AVal → AHeap → Prop) {H0 : AHeap} {c : Nat} (hc : H0.length ≤ c) {sz : RS}
  (hK : rgo m l = 0 → ∀ r H, Keeps H0 H → H[c]? = some (.cells (encM m) T.cuneiformref17_M) → H[c + 1]? = some (.cells sz.has T.n7_bool) → H[c + 2]? = some (.cells sz.num T.n6_bool) → rget r 1 = .ptr c 0 → rget r 4 = .ptr (c + 1) 0 → rget r 5 = .ptr (c + 2) 0 → Run Try.prog rchkC K r H (IceQ H0 Q)) (hR : rgo m l ≠ 0 → Q (.int .i64 (rgo m l)) H0) :
  ∀ (n i : Nat) (s : RS) (H : AHeap), l.length - i = n → i ≤ l.length → rgo m l = rgo m (l.drop i) → sz = (l.drop i).foldl RS.add s → Keeps H0 H → H[c]? = some (.cells (encM m) T.cuneiformref17_M) → H[c + 1]? = some (.cells s.has T.n7_bool) → H[c + 2]? = some (.cells s.num T.n6_bool) →
  Rounds Try.prog rchkC cuneiformref17_Check.b1 [.inBlock 0] K [(1, .ptr c 0), (3, recs encF false l), (4, .ptr (c + 1) 0), (5, .ptr (c + 2) 0), (6, .int .i64 (i : Nat))] H (IceQ H0 Q)
 | n, i, s, H, h1, h2, h3, hs, hk, e0, e1, e2 => by
  refine loop_V 200 cuneiformref17_Check.b1.eq_1 ?_
  have hl : c + 2 < H.length := (List.getElem?_eq_some_iff.1 e2).1
  by_cases hi : i < l.length
  case neg =>
   rw [List.drop_eq_nil_of_le (by omega : l.length ≤ i)] at h3 hs
   subst hs
   simp (disch := first | omega | (simp only [lnx]; omega)) only [stdh, stdx, ↓reduceIte, seval]
   exact hK h3 _ _ hk e0 e1 e2 rfl rfl rfl
  have hfo := hok _ (getD_mem hi)
  have hld : ∀ H o, o < 7 → loadA H none (.sptr (recs encF false l) (i * 7 + o)) = some (True, (encF (l.getD i fld0)).getD o .junk) := fun H o ho => load_rec1 (enc := encF) (t := false) encF_len hi ho
  rw [drop_getF hi, rgo] at h3
  rw [drop_getF hi, List.foldl_cons] at hs
  generalize hx : l.getD i fld0 = x at *
  have l1 : ∀ H, loadA H none (.sptr (recs encF false l) (i * 7 + 1)) = some (True, .int .i64 x.sort) := fun H => hld H 1 (by omega)
  have l2 : ∀ H, loadA H none (.sptr (recs encF false l) (i * 7 + 2)) = some (True, .int .i64 x.place) := fun H => hld H 2 (by omega)
  have l3 : ∀ H, loadA H none (.sptr (recs encF false l) (i * 7 + 3)) = some (True, .int .i64 x.least) := fun H => hld H 3 (by omega)
  have l4 : ∀ H, loadA H none (.sptr (recs encF false l) (i * 7 + 4)) = some (True, .int .i64 x.most) := fun H => hld H 4 (by omega)
  clear hld
  have hcast : (i : Int) + 1 = ((i + 1 : Nat) : Int) := by omega
  have hgo : ∀ s' H', sz = (l.drop (i + 1)).foldl RS.add s' → rgo m l = rgo m (l.drop (i + 1)) → Keeps H0 H' → H'[c]? = some (.cells (encM m) T.cuneiformref17_M) → H'[c + 1]? = some (.cells s'.has T.n7_bool) → H'[c + 2]? = some (.cells s'.num T.n6_bool) →
    Rounds Try.prog rchkC cuneiformref17_Check.b1 [.inBlock 0] K [(1, .ptr c 0), (3, recs encF false l), (4, .ptr (c + 1) 0), (5, .ptr (c + 2) 0), (6, .int .i64 (i + 1 : Nat))] H' (IceQ H0 Q) :=
   fun s' H' a1 a2 a3 a4 a5 a6 => rcheck_loop hm hlen hok K Q hc hK hR _ (i + 1) s' H' rfl (by omega) a2 a1 a3 a4 a5 a6
  obtain ⟨g0, g1, g2, g3⟩ := hm
  rcases hfo with ⟨hp, hf | hf | hf | hf⟩ | ⟨hf, hp⟩
  ·have ha : s.add x = { s with a3 := true } := by simp [RS.add, RS.sort, hf]
   have hw : rwrongE m x = rpathE m.p := by simp [rwrongE, hf]
   rw [ha] at hs
   simp (disch := first | omega | (simp only [lnx]; omega)) only [stdh, stdx, ↓reduceIte, seval, l1, hf, e1, RS.has, List.getElem?_set_ne, e0, encM]
   refine callK_fn (rpath_ok _ _ _ ?_)
   refine runL_V 60 ?_
   rw [hw] at h3
   by_cases he : rpathE m.p = 0
   ·rw [if_pos he] at h3
    simp (disch := first | omega | (simp only [lnx]; omega)) only [stdh, stdx, ↓reduceIte, seval, he]
    rw [hcast]
    refine hgo _ _ hs h3 (hk.set (by omega) _) ?_ ?_ ?_
    ·rw [List.getElem?_set_ne (by omega)]; exact e0
    ·rw [List.getElem?_set_self (by omega)]; rfl
    ·rw [List.getElem?_set_ne (by omega)]; exact e2
   ·rw [if_neg he] at h3
    simp (disch := first | omega | (simp only [lnx]; omega)) only [stdh, stdx, ↓reduceIte, seval, he]
    refine ice_keeps (hk.set (by omega) _) trivial ?_
    rw [h3] at hR
    exact hR he
  ·have ha : s.add x = { s with a4 := true } := by simp [RS.add, RS.sort, hf]
   have hw : rwrongE m x = rcellsE m.c := by simp [rwrongE, hf]
   rw [ha] at hs
   simp (disch := first | omega | (simp only [lnx]; omega)) only [stdh, stdx, ↓reduceIte, seval, l1, hf, e1, RS.has, List.getElem?_set_ne, e0, encM]
   refine callK_fn (rcells_ok _ _ _ ?_)
   refine runL_V 60 ?_
   rw [hw] at h3
   by_cases he : rcellsE m.c = 0
   ·rw [if_pos he] at h3
    simp (disch := first | omega | (simp only [lnx]; omega)) only [stdh, stdx, ↓reduceIte, seval, he]
    rw [hcast]
    refine hgo _ _ hs h3 (hk.set (by omega) _) ?_ ?_ ?_
    ·rw [List.getElem?_set_ne (by omega)]; exact e0
    ·rw [List.getElem?_set_self (by omega)]; rfl
    ·rw [List.getElem?_set_ne (by omega)]; exact e2
   ·rw [if_neg he] at h3
    simp (disch := first | omega | (simp only [lnx]; omega)) only [stdh, stdx, ↓reduceIte, seval, he]
    refine ice_keeps (hk.set (by omega) _) trivial ?_
    rw [h3] at hR
    exact hR he
  ·have ha : s.add x = { s with a5 := true } := by simp [RS.add, RS.sort, hf]
   have hw : rwrongE m x = rtextE m.t 64 := by simp [rwrongE, hf]
   rw [ha] at hs
   simp (disch := first | omega | (simp only [lnx]; omega)) only [stdh, stdx, ↓reduceIte, seval, l1, hf, e1, RS.has, List.getElem?_set_ne, e0, encM]
   refine callK_fn (rtext_ok _ _ _ g2 _ ?_)
   refine runL_V 60 ?_
   rw [hw] at h3
   by_cases he : rtextE m.t 64 = 0
   ·rw [if_pos he] at h3
    simp (disch := first | omega | (simp only [lnx]; omega)) only [stdh, stdx, ↓reduceIte, seval, he]
    rw [hcast]
    refine hgo _ _ hs h3 (hk.set (by omega) _) ?_ ?_ ?_
    ·rw [List.getElem?_set_ne (by omega)]; exact e0
    ·rw [List.getElem?_set_self (by omega)]; rfl
    ·rw [List.getElem?_set_ne (by omega)]; exact e2
   ·rw [if_neg he] at h3
    simp (disch := first | omega | (simp only [lnx]; omega)) only [stdh, stdx, ↓reduceIte, seval, he]
    refine ice_keeps (hk.set (by omega) _) trivial ?_
    rw [h3] at hR
    exact hR he
  ·have ha : s.add x = { s with a6 := true } := by simp [RS.add, RS.sort, hf]
   have hw : rwrongE m x = rtextE m.g 16 := by simp [rwrongE, hf]
   rw [ha] at hs
   simp (disch := first | omega | (simp only [lnx]; omega)) only [stdh, stdx, ↓reduceIte, seval, l1, hf, e1, RS.has, List.getElem?_set_ne, e0, encM]
   refine callK_fn (rtext_ok _ _ _ g3 _ ?_)
   refine runL_V 60 ?_
   rw [hw] at h3
   by_cases he : rtextE m.g 16 = 0
   ·rw [if_pos he] at h3
    simp (disch := first | omega | (simp only [lnx]; omega)) only [stdh, stdx, ↓reduceIte, seval, he]
    rw [hcast]
    refine hgo _ _ hs h3 (hk.set (by omega) _) ?_ ?_ ?_
    ·rw [List.getElem?_set_ne (by omega)]; exact e0
    ·rw [List.getElem?_set_self (by omega)]; rfl
    ·rw [List.getElem?_set_ne (by omega)]; exact e2
   ·rw [if_neg he] at h3
    simp (disch := first | omega | (simp only [lnx]; omega)) only [stdh, stdx, ↓reduceIte, seval, he]
    refine ice_keeps (hk.set (by omega) _) trivial ?_
    rw [h3] at hR
    exact hR he
  ·have hq : ∀ y, y = m.num x.place → (y < x.least ∨ x.most < y → rwrongE m x = 5) ∧ (¬ (y < x.least ∨ x.most < y) → rwrongE m x = 0) := by
    rintro y rfl
    have h34 : ¬ x.sort = 3 ∧ ¬ x.sort = 4 ∧ ¬ x.sort = 5 ∧ ¬ x.sort = 6 := by omega
    refine ⟨fun hh => ?_, fun hh => ?_⟩
    ·rw [rwrongE, if_neg h34.1, if_neg h34.2.1, if_neg h34.2.2.1, if_neg h34.2.2.2, if_pos hh]
    ·rw [rwrongE, if_neg h34.1, if_neg h34.2.1, if_neg h34.2.2.1, if_neg h34.2.2.2, if_neg hh]
   rcases hf with hf | hf
   ·rcases hp with hp | hp | hp | hp | hp | hp
    ·have ha : s.add x = { s with a1 := true, b0 := true } := by simp [RS.add, RS.sort, RS.plc, hf, hp]
     rw [ha] at hs
     have hq := hq m.n0 (by rw [hp]; rfl)
     have hfin : ∀ s' H', s' = { s with a1 := true, b0 := true } → H' = (H.set (c + 1) (.cells { s with a1 := true, b0 := true }.has T.n7_bool)).set (c + 2) (.cells { s with a1 := true, b0 := true }.num T.n6_bool) → H'[c]? = some (.cells (encM m) T.cuneiformref17_M) ∧ H'[c + 1]? = some (.cells s'.has T.n7_bool) ∧ H'[c + 2]? = some (.cells s'.num T.n6_bool) ∧ Keeps H0 H' := by
      rintro s' H' rfl rfl
      refine ⟨?_, ?_, ?_, (hk.set (by omega) _).set (by omega) _⟩
      ·rw [List.getElem?_set_ne (by omega), List.getElem?_set_ne (by omega)]; exact e0
      ·rw [List.getElem?_set_ne (by omega), List.getElem?_set_self (by omega)]
      ·rw [List.getElem?_set_self (by simp; omega)]
     obtain ⟨f0, f1, f2, f3⟩ := hfin _ _ rfl rfl
     by_cases q1 : m.n0 < x.least
     ·have hw := hq.1 (.inl q1)
      rw [hw, if_neg (by decide)] at h3
      rw [h3] at hR
      simp (disch := first | omega | (simp only [lnx]; omega)) only [stdh, stdx, ↓reduceIte, seval, l1, l2, l3, l4, hf, hp, e0, e1, e2, RS.has, RS.num, List.getElem?_set_ne, encM, cuneiformref17_Check.d0, q1]
      exact ice_keeps f3 trivial (hR (by decide))
     by_cases q2 : x.most < m.n0
     ·have hw := hq.1 (.inr q2)
      rw [hw, if_neg (by decide)] at h3
      rw [h3] at hR
      simp (disch := first | omega | (simp only [lnx]; omega)) only [stdh, stdx, ↓reduceIte, seval, l1, l2, l3, l4, hf, hp, e0, e1, e2, RS.has, RS.num, List.getElem?_set_ne, encM, cuneiformref17_Check.d0, q1, q2]
      exact ice_keeps f3 trivial (hR (by decide))
     ·have hw := hq.2 (by omega)
      rw [hw, if_pos rfl] at h3
      simp (disch := first | omega | (simp only [lnx]; omega)) only [stdh, stdx, ↓reduceIte, seval, l1, l2, l3, l4, hf, hp, e0, e1, e2, RS.has, RS.num, List.getElem?_set_ne, encM, cuneiformref17_Check.d0, q1, q2]
      rw [hcast]
      exact hgo _ _ hs h3 f3 f0 f1 f2
    ·have ha : s.add x = { s with a1 := true, b1 := true } := by simp [RS.add, RS.sort, RS.plc, hf, hp]
     rw [ha] at hs
     have hq := hq m.n1 (by rw [hp]; rfl)
     have hfin : ∀ s' H', s' = { s with a1 := true, b1 := true } → H' = (H.set (c + 1) (.cells { s with a1 := true, b1 := true }.has T.n7_bool)).set (c + 2) (.cells { s with a1 := true, b1 := true }.num T.n6_bool) → H'[c]? = some (.cells (encM m) T.cuneiformref17_M) ∧ H'[c + 1]? = some (.cells s'.has T.n7_bool) ∧ H'[c + 2]? = some (.cells s'.num T.n6_bool) ∧ Keeps H0 H' := by
      rintro s' H' rfl rfl
      refine ⟨?_, ?_, ?_, (hk.set (by omega) _).set (by omega) _⟩
      ·rw [List.getElem?_set_ne (by omega), List.getElem?_set_ne (by omega)]; exact e0
      ·rw [List.getElem?_set_ne (by omega), List.getElem?_set_self (by omega)]
      ·rw [List.getElem?_set_self (by simp; omega)]
     obtain ⟨f0, f1, f2, f3⟩ := hfin _ _ rfl rfl
     by_cases q1 : m.n1 < x.least
     ·have hw := hq.1 (.inl q1)
      rw [hw, if_neg (by decide)] at h3
      rw [h3] at hR
      simp (disch := first | omega | (simp only [lnx]; omega)) only [stdh, stdx, ↓reduceIte, seval, l1, l2, l3, l4, hf, hp, e0, e1, e2, RS.has, RS.num, List.getElem?_set_ne, encM, cuneiformref17_Check.d0, q1]
      exact ice_keeps f3 trivial (hR (by decide))
     by_cases q2 : x.most < m.n1
     ·have hw := hq.1 (.inr q2)
      rw [hw, if_neg (by decide)] at h3
      rw [h3] at hR
      simp (disch := first | omega | (simp only [lnx]; omega)) only [stdh, stdx, ↓reduceIte, seval, l1, l2, l3, l4, hf, hp, e0, e1, e2, RS.has, RS.num, List.getElem?_set_ne, encM, cuneiformref17_Check.d0, q1, q2]
      exact ice_keeps f3 trivial (hR (by decide))
     ·have hw := hq.2 (by omega)
      rw [hw, if_pos rfl] at h3
      simp (disch := first | omega | (simp only [lnx]; omega)) only [stdh, stdx, ↓reduceIte, seval, l1, l2, l3, l4, hf, hp, e0, e1, e2, RS.has, RS.num, List.getElem?_set_ne, encM, cuneiformref17_Check.d0, q1, q2]
      rw [hcast]
      exact hgo _ _ hs h3 f3 f0 f1 f2
    ·have ha : s.add x = { s with a1 := true, b2 := true } := by simp [RS.add, RS.sort, RS.plc, hf, hp]
     rw [ha] at hs
     have hq := hq m.n2 (by rw [hp]; rfl)
     have hfin : ∀ s' H', s' = { s with a1 := true, b2 := true } → H' = (H.set (c + 1) (.cells { s with a1 := true, b2 := true }.has T.n7_bool)).set (c + 2) (.cells { s with a1 := true, b2 := true }.num T.n6_bool) → H'[c]? = some (.cells (encM m) T.cuneiformref17_M) ∧ H'[c + 1]? = some (.cells s'.has T.n7_bool) ∧ H'[c + 2]? = some (.cells s'.num T.n6_bool) ∧ Keeps H0 H' := by
      rintro s' H' rfl rfl
      refine ⟨?_, ?_, ?_, (hk.set (by omega) _).set (by omega) _⟩
      ·rw [List.getElem?_set_ne (by omega), List.getElem?_set_ne (by omega)]; exact e0
      ·rw [List.getElem?_set_ne (by omega), List.getElem?_set_self (by omega)]
      ·rw [List.getElem?_set_self (by simp; omega)]
     obtain ⟨f0, f1, f2, f3⟩ := hfin _ _ rfl rfl
     by_cases q1 : m.n2 < x.least
     ·have hw := hq.1 (.inl q1)
      rw [hw, if_neg (by decide)] at h3
      rw [h3] at hR
      simp (disch := first | omega | (simp only [lnx]; omega)) only [stdh, stdx, ↓reduceIte, seval, l1, l2, l3, l4, hf, hp, e0, e1, e2, RS.has, RS.num, List.getElem?_set_ne, encM, cuneiformref17_Check.d0, q1]
      exact ice_keeps f3 trivial (hR (by decide))
     by_cases q2 : x.most < m.n2
     ·have hw := hq.1 (.inr q2)
      rw [hw, if_neg (by decide)] at h3
      rw [h3] at hR
      simp (disch := first | omega | (simp only [lnx]; omega)) only [stdh, stdx, ↓reduceIte, seval, l1, l2, l3, l4, hf, hp, e0, e1, e2, RS.has, RS.num, List.getElem?_set_ne, encM, cuneiformref17_Check.d0, q1, q2]
      exact ice_keeps f3 trivial (hR (by decide))
     ·have hw := hq.2 (by omega)
      rw [hw, if_pos rfl] at h3
      simp (disch := first | omega | (simp only [lnx]; omega)) only [stdh, stdx, ↓reduceIte, seval, l1, l2, l3, l4, hf, hp, e0, e1, e2, RS.has, RS.num, List.getElem?_set_ne, encM, cuneiformref17_Check.d0, q1, q2]
      rw [hcast]
      exact hgo _ _ hs h3 f3 f0 f1 f2
    ·have ha : s.add x = { s with a1 := true, b3 := true } := by simp [RS.add, RS.sort, RS.plc, hf, hp]
     rw [ha] at hs
     have hq := hq m.n3 (by rw [hp]; rfl)
     have hfin : ∀ s' H', s' = { s with a1 := true, b3 := true } → H' = (H.set (c + 1) (.cells { s with a1 := true, b3 := true }.has T.n7_bool)).set (c + 2) (.cells { s with a1 := true, b3 := true }.num T.n6_bool) → H'[c]? = some (.cells (encM m) T.cuneiformref17_M) ∧ H'[c + 1]? = some (.cells s'.has T.n7_bool) ∧ H'[c + 2]? = some (.cells s'.num T.n6_bool) ∧ Keeps H0 H' := by
      rintro s' H' rfl rfl
      refine ⟨?_, ?_, ?_, (hk.set (by omega) _).set (by omega) _⟩
      ·rw [List.getElem?_set_ne (by omega), List.getElem?_set_ne (by omega)]; exact e0
      ·rw [List.getElem?_set_ne (by omega), List.getElem?_set_self (by omega)]
      ·rw [List.getElem?_set_self (by simp; omega)]
     obtain ⟨f0, f1, f2, f3⟩ := hfin _ _ rfl rfl
     by_cases q1 : m.n3 < x.least
     ·have hw := hq.1 (.inl q1)
      rw [hw, if_neg (by decide)] at h3
      rw [h3] at hR
      simp (disch := first | omega | (simp only [lnx]; omega)) only [stdh, stdx, ↓reduceIte, seval, l1, l2, l3, l4, hf, hp, e0, e1, e2, RS.has, RS.num, List.getElem?_set_ne, encM, cuneiformref17_Check.d0, q1]
      exact ice_keeps f3 trivial (hR (by decide))
     by_cases q2 : x.most < m.n3
     ·have hw := hq.1 (.inr q2)
      rw [hw, if_neg (by decide)] at h3
      rw [h3] at hR
      simp (disch := first | omega | (simp only [lnx]; omega)) only [stdh, stdx, ↓reduceIte, seval, l1, l2, l3, l4, hf, hp, e0, e1, e2, RS.has, RS.num, List.getElem?_set_ne, encM, cuneiformref17_Check.d0, q1, q2]
      exact ice_keeps f3 trivial (hR (by decide))
     ·have hw := hq.2 (by omega)
      rw [hw, if_pos rfl] at h3
      simp (disch := first | omega | (simp only [lnx]; omega)) only [stdh, stdx, ↓reduceIte, seval, l1, l2, l3, l4, hf, hp, e0, e1, e2, RS.has, RS.num, List.getElem?_set_ne, encM, cuneiformref17_Check.d0, q1, q2]
      rw [hcast]
      exact hgo _ _ hs h3 f3 f0 f1 f2
    ·have ha : s.add x = { s with a1 := true, b4 := true } := by simp [RS.add, RS.sort, RS.plc, hf, hp]
     rw [ha] at hs
     have hq := hq m.n4 (by rw [hp]; rfl)
     have hfin : ∀ s' H', s' = { s with a1 := true, b4 := true } → H' = (H.set (c + 1) (.cells { s with a1 := true, b4 := true }.has T.n7_bool)).set (c + 2) (.cells { s with a1 := true, b4 := true }.num T.n6_bool) → H'[c]? = some (.cells (encM m) T.cuneiformref17_M) ∧ H'[c + 1]? = some (.cells s'.has T.n7_bool) ∧ H'[c + 2]? = some (.cells s'.num T.n6_bool) ∧ Keeps H0 H' := by
      rintro s' H' rfl rfl
      refine ⟨?_, ?_, ?_, (hk.set (by omega) _).set (by omega) _⟩
      ·rw [List.getElem?_set_ne (by omega), List.getElem?_set_ne (by omega)]; exact e0
      ·rw [List.getElem?_set_ne (by omega), List.getElem?_set_self (by omega)]
      ·rw [List.getElem?_set_self (by simp; omega)]
     obtain ⟨f0, f1, f2, f3⟩ := hfin _ _ rfl rfl
     by_cases q1 : m.n4 < x.least
     ·have hw := hq.1 (.inl q1)
      rw [hw, if_neg (by decide)] at h3
      rw [h3] at hR
      simp (disch := first | omega | (simp only [lnx]; omega)) only [stdh, stdx, ↓reduceIte, seval, l1, l2, l3, l4, hf, hp, e0, e1, e2, RS.has, RS.num, List.getElem?_set_ne, encM, cuneiformref17_Check.d0, q1]
      exact ice_keeps f3 trivial (hR (by decide))
     by_cases q2 : x.most < m.n4
     ·have hw := hq.1 (.inr q2)
      rw [hw, if_neg (by decide)] at h3
      rw [h3] at hR
      simp (disch := first | omega | (simp only [lnx]; omega)) only [stdh, stdx, ↓reduceIte, seval, l1, l2, l3, l4, hf, hp, e0, e1, e2, RS.has, RS.num, List.getElem?_set_ne, encM, cuneiformref17_Check.d0, q1, q2]
      exact ice_keeps f3 trivial (hR (by decide))
     ·have hw := hq.2 (by omega)
      rw [hw, if_pos rfl] at h3
      simp (disch := first | omega | (simp only [lnx]; omega)) only [stdh, stdx, ↓reduceIte, seval, l1, l2, l3, l4, hf, hp, e0, e1, e2, RS.has, RS.num, List.getElem?_set_ne, encM, cuneiformref17_Check.d0, q1, q2]
      rw [hcast]
      exact hgo _ _ hs h3 f3 f0 f1 f2
    ·have ha : s.add x = { s with a1 := true, b5 := true } := by simp [RS.add, RS.sort, RS.plc, hf, hp]
     rw [ha] at hs
     have hq := hq m.n5 (by rw [hp]; rfl)
     have hfin : ∀ s' H', s' = { s with a1 := true, b5 := true } → H' = (H.set (c + 1) (.cells { s with a1 := true, b5 := true }.has T.n7_bool)).set (c + 2) (.cells { s with a1 := true, b5 := true }.num T.n6_bool) → H'[c]? = some (.cells (encM m) T.cuneiformref17_M) ∧ H'[c + 1]? = some (.cells s'.has T.n7_bool) ∧ H'[c + 2]? = some (.cells s'.num T.n6_bool) ∧ Keeps H0 H' := by
      rintro s' H' rfl rfl
      refine ⟨?_, ?_, ?_, (hk.set (by omega) _).set (by omega) _⟩
      ·rw [List.getElem?_set_ne (by omega), List.getElem?_set_ne (by omega)]; exact e0
      ·rw [List.getElem?_set_ne (by omega), List.getElem?_set_self (by omega)]
      ·rw [List.getElem?_set_self (by simp; omega)]
     obtain ⟨f0, f1, f2, f3⟩ := hfin _ _ rfl rfl
     by_cases q1 : m.n5 < x.least
     ·have hw := hq.1 (.inl q1)
      rw [hw, if_neg (by decide)] at h3
      rw [h3] at hR
      simp (disch := first | omega | (simp only [lnx]; omega)) only [stdh, stdx, ↓reduceIte, seval, l1, l2, l3, l4, hf, hp, e0, e1, e2, RS.has, RS.num, List.getElem?_set_ne, encM, cuneiformref17_Check.d0, q1]
      exact ice_keeps f3 trivial (hR (by decide))
     by_cases q2 : x.most < m.n5
     ·have hw := hq.1 (.inr q2)
      rw [hw, if_neg (by decide)] at h3
      rw [h3] at hR
      simp (disch := first | omega | (simp only [lnx]; omega)) only [stdh, stdx, ↓reduceIte, seval, l1, l2, l3, l4, hf, hp, e0, e1, e2, RS.has, RS.num, List.getElem?_set_ne, encM, cuneiformref17_Check.d0, q1, q2]
      exact ice_keeps f3 trivial (hR (by decide))
     ·have hw := hq.2 (by omega)
      rw [hw, if_pos rfl] at h3
      simp (disch := first | omega | (simp only [lnx]; omega)) only [stdh, stdx, ↓reduceIte, seval, l1, l2, l3, l4, hf, hp, e0, e1, e2, RS.has, RS.num, List.getElem?_set_ne, encM, cuneiformref17_Check.d0, q1, q2]
      rw [hcast]
      exact hgo _ _ hs h3 f3 f0 f1 f2
   ·rcases hp with hp | hp | hp | hp | hp | hp
    ·have ha : s.add x = { s with a2 := true, b0 := true } := by simp [RS.add, RS.sort, RS.plc, hf, hp]
     rw [ha] at hs
     have hq := hq m.n0 (by rw [hp]; rfl)
     have hfin : ∀ s' H', s' = { s with a2 := true, b0 := true } → H' = (H.set (c + 1) (.cells { s with a2 := true, b0 := true }.has T.n7_bool)).set (c + 2) (.cells { s with a2 := true, b0 := true }.num T.n6_bool) → H'[c]? = some (.cells (encM m) T.cuneiformref17_M) ∧ H'[c + 1]? = some (.cells s'.has T.n7_bool) ∧ H'[c + 2]? = some (.cells s'.num T.n6_bool) ∧ Keeps H0 H' := by
      rintro s' H' rfl rfl
      refine ⟨?_, ?_, ?_, (hk.set (by omega) _).set (by omega) _⟩
      ·rw [List.getElem?_set_ne (by omega), List.getElem?_set_ne (by omega)]; exact e0
      ·rw [List.getElem?_set_ne (by omega), List.getElem?_set_self (by omega)]
      ·rw [List.getElem?_set_self (by simp; omega)]
     obtain ⟨f0, f1, f2, f3⟩ := hfin _ _ rfl rfl
     by_cases q1 : m.n0 < x.least
     ·have hw := hq.1 (.inl q1)
      rw [hw, if_neg (by decide)] at h3
      rw [h3] at hR
      simp (disch := first | omega | (simp only [lnx]; omega)) only [stdh, stdx, ↓reduceIte, seval, l1, l2, l3, l4, hf, hp, e0, e1, e2, RS.has, RS.num, List.getElem?_set_ne, encM, cuneiformref17_Check.d0, q1]
      exact ice_keeps f3 trivial (hR (by decide))
     by_cases q2 : x.most < m.n0
     ·have hw := hq.1 (.inr q2)
      rw [hw, if_neg (by decide)] at h3
      rw [h3] at hR
      simp (disch := first | omega | (simp only [lnx]; omega)) only [stdh, stdx, ↓reduceIte, seval, l1, l2, l3, l4, hf, hp, e0, e1, e2, RS.has, RS.num, List.getElem?_set_ne, encM, cuneiformref17_Check.d0, q1, q2]
      exact ice_keeps f3 trivial (hR (by decide))
     ·have hw := hq.2 (by omega)
      rw [hw, if_pos rfl] at h3
      simp (disch := first | omega | (simp only [lnx]; omega)) only [stdh, stdx, ↓reduceIte, seval, l1, l2, l3, l4, hf, hp, e0, e1, e2, RS.has, RS.num, List.getElem?_set_ne, encM, cuneiformref17_Check.d0, q1, q2]
      rw [hcast]
      exact hgo _ _ hs h3 f3 f0 f1 f2
    ·have ha : s.add x = { s with a2 := true, b1 := true } := by simp [RS.add, RS.sort, RS.plc, hf, hp]
     rw [ha] at hs
     have hq := hq m.n1 (by rw [hp]; rfl)
     have hfin : ∀ s' H', s' = { s with a2 := true, b1 := true } → H' = (H.set (c + 1) (.cells { s with a2 := true, b1 := true }.has T.n7_bool)).set (c + 2) (.cells { s with a2 := true, b1 := true }.num T.n6_bool) → H'[c]? = some (.cells (encM m) T.cuneiformref17_M) ∧ H'[c + 1]? = some (.cells s'.has T.n7_bool) ∧ H'[c + 2]? = some (.cells s'.num T.n6_bool) ∧ Keeps H0 H' := by
      rintro s' H' rfl rfl
      refine ⟨?_, ?_, ?_, (hk.set (by omega) _).set (by omega) _⟩
      ·rw [List.getElem?_set_ne (by omega), List.getElem?_set_ne (by omega)]; exact e0
      ·rw [List.getElem?_set_ne (by omega), List.getElem?_set_self (by omega)]
      ·rw [List.getElem?_set_self (by simp; omega)]
     obtain ⟨f0, f1, f2, f3⟩ := hfin _ _ rfl rfl
     by_cases q1 : m.n1 < x.least
     ·have hw := hq.1 (.inl q1)
      rw [hw, if_neg (by decide)] at h3
      rw [h3] at hR
      simp (disch := first | omega | (simp only [lnx]; omega)) only [stdh, stdx, ↓reduceIte, seval, l1, l2, l3, l4, hf, hp, e0, e1, e2, RS.has, RS.num, List.getElem?_set_ne, encM, cuneiformref17_Check.d0, q1]
      exact ice_keeps f3 trivial (hR (by decide))
     by_cases q2 : x.most < m.n1
     ·have hw := hq.1 (.inr q2)
      rw [hw, if_neg (by decide)] at h3
      rw [h3] at hR
      simp (disch := first | omega | (simp only [lnx]; omega)) only [stdh, stdx, ↓reduceIte, seval, l1, l2, l3, l4, hf, hp, e0, e1, e2, RS.has, RS.num, List.getElem?_set_ne, encM, cuneiformref17_Check.d0, q1, q2]
      exact ice_keeps f3 trivial (hR (by decide))
     ·have hw := hq.2 (by omega)
      rw [hw, if_pos rfl] at h3
      simp (disch := first | omega | (simp only [lnx]; omega)) only [stdh, stdx, ↓reduceIte, seval, l1, l2, l3, l4, hf, hp, e0, e1, e2, RS.has, RS.num, List.getElem?_set_ne, encM, cuneiformref17_Check.d0, q1, q2]
      rw [hcast]
      exact hgo _ _ hs h3 f3 f0 f1 f2
    ·have ha : s.add x = { s with a2 := true, b2 := true } := by simp [RS.add, RS.sort, RS.plc, hf, hp]
     rw [ha] at hs
     have hq := hq m.n2 (by rw [hp]; rfl)
     have hfin : ∀ s' H', s' = { s with a2 := true, b2 := true } → H' = (H.set (c + 1) (.cells { s with a2 := true, b2 := true }.has T.n7_bool)).set (c + 2) (.cells { s with a2 := true, b2 := true }.num T.n6_bool) → H'[c]? = some (.cells (encM m) T.cuneiformref17_M) ∧ H'[c + 1]? = some (.cells s'.has T.n7_bool) ∧ H'[c + 2]? = some (.cells s'.num T.n6_bool) ∧ Keeps H0 H' := by
      rintro s' H' rfl rfl
      refine ⟨?_, ?_, ?_, (hk.set (by omega) _).set (by omega) _⟩
      ·rw [List.getElem?_set_ne (by omega), List.getElem?_set_ne (by omega)]; exact e0
      ·rw [List.getElem?_set_ne (by omega), List.getElem?_set_self (by omega)]
      ·rw [List.getElem?_set_self (by simp; omega)]
     obtain ⟨f0, f1, f2, f3⟩ := hfin _ _ rfl rfl
     by_cases q1 : m.n2 < x.least
     ·have hw := hq.1 (.inl q1)
      rw [hw, if_neg (by decide)] at h3
      rw [h3] at hR
      simp (disch := first | omega | (simp only [lnx]; omega)) only [stdh, stdx, ↓reduceIte, seval, l1, l2, l3, l4, hf, hp, e0, e1, e2, RS.has, RS.num, List.getElem?_set_ne, encM, cuneiformref17_Check.d0, q1]
      exact ice_keeps f3 trivial (hR (by decide))
     by_cases q2 : x.most < m.n2
     ·have hw := hq.1 (.inr q2)
      rw [hw, if_neg (by decide)] at h3
      rw [h3] at hR
      simp (disch := first | omega | (simp only [lnx]; omega)) only [stdh, stdx, ↓reduceIte, seval, l1, l2, l3, l4, hf, hp, e0, e1, e2, RS.has, RS.num, List.getElem?_set_ne, encM, cuneiformref17_Check.d0, q1, q2]
      exact ice_keeps f3 trivial (hR (by decide))
     ·have hw := hq.2 (by omega)
      rw [hw, if_pos rfl] at h3
      simp (disch := first | omega | (simp only [lnx]; omega)) only [stdh, stdx, ↓reduceIte, seval, l1, l2, l3, l4, hf, hp, e0, e1, e2, RS.has, RS.num, List.getElem?_set_ne, encM, cuneiformref17_Check.d0, q1, q2]
      rw [hcast]
      exact hgo _ _ hs h3 f3 f0 f1 f2
    ·have ha : s.add x = { s with a2 := true, b3 := true } := by simp [RS.add, RS.sort, RS.plc, hf, hp]
     rw [ha] at hs
     have hq := hq m.n3 (by rw [hp]; rfl)
     have hfin : ∀ s' H', s' = { s with a2 := true, b3 := true } → H' = (H.set (c + 1) (.cells { s with a2 := true, b3 := true }.has T.n7_bool)).set (c + 2) (.cells { s with a2 := true, b3 := true }.num T.n6_bool) → H'[c]? = some (.cells (encM m) T.cuneiformref17_M) ∧ H'[c + 1]? = some (.cells s'.has T.n7_bool) ∧ H'[c + 2]? = some (.cells s'.num T.n6_bool) ∧ Keeps H0 H' := by
      rintro s' H' rfl rfl
      refine ⟨?_, ?_, ?_, (hk.set (by omega) _).set (by omega) _⟩
      ·rw [List.getElem?_set_ne (by omega), List.getElem?_set_ne (by omega)]; exact e0
      ·rw [List.getElem?_set_ne (by omega), List.getElem?_set_self (by omega)]
      ·rw [List.getElem?_set_self (by simp; omega)]
     obtain ⟨f0, f1, f2, f3⟩ := hfin _ _ rfl rfl
     by_cases q1 : m.n3 < x.least
     ·have hw := hq.1 (.inl q1)
      rw [hw, if_neg (by decide)] at h3
      rw [h3] at hR
      simp (disch := first | omega | (simp only [lnx]; omega)) only [stdh, stdx, ↓reduceIte, seval, l1, l2, l3, l4, hf, hp, e0, e1, e2, RS.has, RS.num, List.getElem?_set_ne, encM, cuneiformref17_Check.d0, q1]
      exact ice_keeps f3 trivial (hR (by decide))
     by_cases q2 : x.most < m.n3
     ·have hw := hq.1 (.inr q2)
      rw [hw, if_neg (by decide)] at h3
      rw [h3] at hR
      simp (disch := first | omega | (simp only [lnx]; omega)) only [stdh, stdx, ↓reduceIte, seval, l1, l2, l3, l4, hf, hp, e0, e1, e2, RS.has, RS.num, List.getElem?_set_ne, encM, cuneiformref17_Check.d0, q1, q2]
      exact ice_keeps f3 trivial (hR (by decide))
     ·have hw := hq.2 (by omega)
      rw [hw, if_pos rfl] at h3
      simp (disch := first | omega | (simp only [lnx]; omega)) only [stdh, stdx, ↓reduceIte, seval, l1, l2, l3, l4, hf, hp, e0, e1, e2, RS.has, RS.num, List.getElem?_set_ne, encM, cuneiformref17_Check.d0, q1, q2]
      rw [hcast]
      exact hgo _ _ hs h3 f3 f0 f1 f2
    ·have ha : s.add x = { s with a2 := true, b4 := true } := by simp [RS.add, RS.sort, RS.plc, hf, hp]
     rw [ha] at hs
     have hq := hq m.n4 (by rw [hp]; rfl)
     have hfin : ∀ s' H', s' = { s with a2 := true, b4 := true } → H' = (H.set (c + 1) (.cells { s with a2 := true, b4 := true }.has T.n7_bool)).set (c + 2) (.cells { s with a2 := true, b4 := true }.num T.n6_bool) → H'[c]? = some (.cells (encM m) T.cuneiformref17_M) ∧ H'[c + 1]? = some (.cells s'.has T.n7_bool) ∧ H'[c + 2]? = some (.cells s'.num T.n6_bool) ∧ Keeps H0 H' := by
      rintro s' H' rfl rfl
      refine ⟨?_, ?_, ?_, (hk.set (by omega) _).set (by omega) _⟩
      ·rw [List.getElem?_set_ne (by omega), List.getElem?_set_ne (by omega)]; exact e0
      ·rw [List.getElem?_set_ne (by omega), List.getElem?_set_self (by omega)]
      ·rw [List.getElem?_set_self (by simp; omega)]
     obtain ⟨f0, f1, f2, f3⟩ := hfin _ _ rfl rfl
     by_cases q1 : m.n4 < x.least
     ·have hw := hq.1 (.inl q1)
      rw [hw, if_neg (by decide)] at h3
      rw [h3] at hR
      simp (disch := first | omega | (simp only [lnx]; omega)) only [stdh, stdx, ↓reduceIte, seval, l1, l2, l3, l4, hf, hp, e0, e1, e2, RS.has, RS.num, List.getElem?_set_ne, encM, cuneiformref17_Check.d0, q1]
      exact ice_keeps f3 trivial (hR (by decide))
     by_cases q2 : x.most < m.n4
     ·have hw := hq.1 (.inr q2)
      rw [hw, if_neg (by decide)] at h3
      rw [h3] at hR
      simp (disch := first | omega | (simp only [lnx]; omega)) only [stdh, stdx, ↓reduceIte, seval, l1, l2, l3, l4, hf, hp, e0, e1, e2, RS.has, RS.num, List.getElem?_set_ne, encM, cuneiformref17_Check.d0, q1, q2]
      exact ice_keeps f3 trivial (hR (by decide))
     ·have hw := hq.2 (by omega)
      rw [hw, if_pos rfl] at h3
      simp (disch := first | omega | (simp only [lnx]; omega)) only [stdh, stdx, ↓reduceIte, seval, l1, l2, l3, l4, hf, hp, e0, e1, e2, RS.has, RS.num, List.getElem?_set_ne, encM, cuneiformref17_Check.d0, q1, q2]
      rw [hcast]
      exact hgo _ _ hs h3 f3 f0 f1 f2
    ·have ha : s.add x = { s with a2 := true, b5 := true } := by simp [RS.add, RS.sort, RS.plc, hf, hp]
     rw [ha] at hs
     have hq := hq m.n5 (by rw [hp]; rfl)
     have hfin : ∀ s' H', s' = { s with a2 := true, b5 := true } → H' = (H.set (c + 1) (.cells { s with a2 := true, b5 := true }.has T.n7_bool)).set (c + 2) (.cells { s with a2 := true, b5 := true }.num T.n6_bool) → H'[c]? = some (.cells (encM m) T.cuneiformref17_M) ∧ H'[c + 1]? = some (.cells s'.has T.n7_bool) ∧ H'[c + 2]? = some (.cells s'.num T.n6_bool) ∧ Keeps H0 H' := by
      rintro s' H' rfl rfl
      refine ⟨?_, ?_, ?_, (hk.set (by omega) _).set (by omega) _⟩
      ·rw [List.getElem?_set_ne (by omega), List.getElem?_set_ne (by omega)]; exact e0
      ·rw [List.getElem?_set_ne (by omega), List.getElem?_set_self (by omega)]
      ·rw [List.getElem?_set_self (by simp; omega)]
     obtain ⟨f0, f1, f2, f3⟩ := hfin _ _ rfl rfl
     by_cases q1 : m.n5 < x.least
     ·have hw := hq.1 (.inl q1)
      rw [hw, if_neg (by decide)] at h3
      rw [h3] at hR
      simp (disch := first | omega | (simp only [lnx]; omega)) only [stdh, stdx, ↓reduceIte, seval, l1, l2, l3, l4, hf, hp, e0, e1, e2, RS.has, RS.num, List.getElem?_set_ne, encM, cuneiformref17_Check.d0, q1]
      exact ice_keeps f3 trivial (hR (by decide))
     by_cases q2 : x.most < m.n5
     ·have hw := hq.1 (.inr q2)
      rw [hw, if_neg (by decide)] at h3
      rw [h3] at hR
      simp (disch := first | omega | (simp only [lnx]; omega)) only [stdh, stdx, ↓reduceIte, seval, l1, l2, l3, l4, hf, hp, e0, e1, e2, RS.has, RS.num, List.getElem?_set_ne, encM, cuneiformref17_Check.d0, q1, q2]
      exact ice_keeps f3 trivial (hR (by decide))
     ·have hw := hq.2 (by omega)
      rw [hw, if_pos rfl] at h3
      simp (disch := first | omega | (simp only [lnx]; omega)) only [stdh, stdx, ↓reduceIte, seval, l1, l2, l3, l4, hf, hp, e0, e1, e2, RS.has, RS.num, List.getElem?_set_ne, encM, cuneiformref17_Check.d0, q1, q2]
      rw [hcast]
      exact hgo _ _ hs h3 f3 f0 f1 f2
 termination_by n => n
def Fld.std (f : Fld) : Prop := (f.sort = 3 → f.least = 1 ∧ f.most = 16) ∧ (f.sort = 4 → f.least = 1 ∧ f.most = 32) ∧ (f.sort = 5 → f.least = 0 ∧ f.most = 64) ∧ (f.sort = 6 → f.least = 0 ∧ f.most = 16)
instance (f : Fld) : Decidable f.std := by unfold Fld.std; infer_instance
theorem fieldsOf_std {k : Int} : ∀ f ∈ fieldsOf k, f.std := by
 unfold fieldsOf
 split
 ·decide +kernel
 split
 ·decide +kernel
 split
 ·decide +kernel
 split
 ·decide +kernel
 split
 ·decide +kernel
 ·simp
theorem wrong_eq {m : Mg} {f : Fld} (h : f.std) : wrongE m f = rwrongE m f := by
 obtain ⟨h3, h4, h5, h6⟩ := h
 unfold wrongE rwrongE
 split
 ·rename_i q; obtain ⟨a, b⟩ := h3 q
  unfold pathE rpathE manyE
  rw [a, b]
  repeat' split
  all_goals first | rfl | omega
 split
 ·rename_i _ q; obtain ⟨a, b⟩ := h4 q
  unfold cellsE rcellsE manyE
  rw [a, b]
  repeat' split
  all_goals first | rfl | omega
 split
 ·rename_i _ _ q; obtain ⟨a, b⟩ := h5 q
  unfold textE rtextE manyE
  rw [a, b]
  repeat' split
  all_goals first | rfl | omega
 split
 ·rename_i _ _ _ q; obtain ⟨a, b⟩ := h6 q
  unfold textE rtextE manyE
  rw [a, b]
  repeat' split
  all_goals first | rfl | omega
 ·rfl
theorem chk_rgo {m : Mg} : ∀ (l : List Fld) (e : Int) (left : Mg), (∀ f ∈ l, f.std) → chkGo m l e left = (if l = [] then (e, left) else if rgo m l = 0 then (0, l.foldl withoutM left) else ((chkGo m l e left).1, (chkGo m l e left).2)) ∧ (l ≠ [] → (chkGo m l e left).1 = rgo m l)
 | [], e, left, _ => ⟨rfl, fun h => absurd rfl h⟩
 | f :: fs, e, left, h => by
  have hw := wrong_eq (m := m) (h f (by simp))
  have ih := chk_rgo (m := m) fs 0 (withoutM left f) fun g hg => h g (by simp [hg])
  unfold chkGo rgo
  rw [hw]
  by_cases h0 : rwrongE m f = 0
  ·simp only [h0, if_true]
   by_cases hfs : fs = []
   ·subst hfs; simp [chkGo, rgo]
   ·obtain ⟨i1, i2⟩ := ih
    rw [if_neg hfs] at i1
    refine ⟨?_, fun _ => i2 hfs⟩
    simp only [reduceCtorEq, if_false, List.foldl_cons]
    exact i1
  ·simp [h0]
theorem checkM_eq (m : Mg) (hl : fieldsOf m.k ≠ []) : checkM m = if rgo m (fieldsOf m.k) = 0 then (if (fieldsOf m.k).foldl withoutM m ≠ { mg0 with k := m.k } then 3 else 0) else rgo m (fieldsOf m.k) := by
 obtain ⟨h1, h2⟩ := chk_rgo (m := m) (fieldsOf m.k) 9 m fun f hf => fieldsOf_std f hf
 rw [if_neg hl] at h1
 have h2 := h2 hl
 unfold checkM
 by_cases h0 : rgo m (fieldsOf m.k) = 0
 ·rw [if_pos h0] at h1 ⊢
  rw [h1]
  simp
 ·rw [if_neg h0, h2]
  simp [h0]
theorem left_1 {m : Mg} (h : m.k = 1) : (fieldsOf m.k).foldl withoutM m = { m with n0 := 0, n1 := 0, n2 := 0, p := [], g := ⟨#[]⟩ } := by
 obtain ⟨k, n0, n1, n2, n3, n4, n5, p, c, t, g⟩ := m
 simp only at h
 subst h
 simp [fieldsOf, withoutM, Mg.put, List.foldl]
set_option maxRecDepth 10000 in
set_option maxHeartbeats 4000000 in
theorem rcheck_1 (H : AHeap) (m : Mg) (hk : m.k = 1) (hm : m.fine2) (Q : AVal → AHeap → Prop) (h : Q (.int .i64 (checkM m)) H) : FunOK Try.prog F.cuneiformref17_Check [.agg (encM m)] H Q := by
 have hne : fieldsOf m.k ≠ [] := by rw [hk]; decide
 rw [checkM_eq m hne, left_1 hk] at h
 have h3 : rgo m (fieldsOf m.k) = 0 → { m with n0 := 0, n1 := 0, n2 := 0, p := [], g := ⟨#[]⟩ } ≠ ({ mg0 with k := m.k } : Mg) → Q (.int .i64 3) H := fun a b => by rw [if_pos a, if_pos b] at h; exact h
 have h0 : rgo m (fieldsOf m.k) = 0 → { m with n0 := 0, n1 := 0, n2 := 0, p := [], g := ⟨#[]⟩ } = ({ mg0 with k := m.k } : Mg) → Q (.int .i64 0) H := fun a b => by rw [if_pos a, if_neg (fun c => c b)] at h; exact h
 have hr : rgo m (fieldsOf m.k) ≠ 0 → Q (.int .i64 (rgo m (fieldsOf m.k))) H := fun a => by rw [if_neg a] at h; exact h
 clear h
 have hlen := fieldsOf_len m.k
 have hok := fun f (hf : f ∈ fieldsOf m.k) => fieldsOf_ok3 f hf
 have hsz : (⟨false, true, false, true, false, false, true, true, true, true, false, false, false⟩ : RS) = (fieldsOf m.k).foldl RS.add rs0 := by rw [hk]; decide +kernel
 have hl0 : ((fieldsOf m.k).length : Int) ≠ 0 := by have := List.length_pos_iff.2 hne; omega
 refine fun_iced cuneiformref17_Check_code fun _ => ?_
 refine fun_V 60 cuneiformref17_Check_code rfl ?_
 simp (disch := first | omega | (simp only [lnx]; omega)) only [stdh, stdx, ↓reduceIte, seval, cuneiformref17_Check, cuneiformref17_Check.body, encM]
 refine callK_fn (rall16_ok _ _ _ ?_)
 refine runL_V 60 ?_
 generalize fieldsOf m.k = l at *
 simp (disch := first | omega | (simp only [lnx]; omega)) only [stdh, stdx, ↓reduceIte, seval, hl0]
 refine rcheck_loop (m := m) hm hlen hok _ _ (H0 := H) (c := H.length) (by omega) (sz := ⟨false, true, false, true, false, false, true, true, true, true, false, false, false⟩) ?_ hr _ 0 rs0 _ rfl (by omega) rfl hsz (keeps_append _ _) at_0 at_k at_k
 intro hz r H' hkk e0 e1 e2 r1 r4 r5
 refine run_V0 60 ?_
 simp (disch := first | omega | (simp only [lnx]; omega)) only [stdh, stdx, ↓reduceIte, seval, r1, r4, r5]
 refine loop_V 100 cuneiformref17_Check.b2.eq_1 ?_
 simp (disch := first | omega | (simp only [lnx]; omega)) only [stdh, stdx, ↓reduceIte, seval, e0, e1, e2, RS.num, encM, Int.reduceAdd]
 refine loop_V 100 cuneiformref17_Check.b2.eq_1 ?_
 simp (disch := first | omega | (simp only [lnx]; omega)) only [stdh, stdx, ↓reduceIte, seval, e0, e1, e2, RS.num, encM, Int.reduceAdd]
 refine loop_V 100 cuneiformref17_Check.b2.eq_1 ?_
 simp (disch := first | omega | (simp only [lnx]; omega)) only [stdh, stdx, ↓reduceIte, seval, e0, e1, e2, RS.num, encM, Int.reduceAdd]
 refine loop_V 100 cuneiformref17_Check.b2.eq_1 ?_
 by_cases z3 : m.n3 = 0
 case neg =>
  simp (disch := first | omega | (simp only [lnx]; omega)) only [stdh, stdx, ↓reduceIte, seval, e0, e1, e2, RS.num, encM, z3, Int.reduceAdd]
  exact ice_keeps hkk trivial (h3 hz fun hh => z3 (by cases m; simp only [mg0, Mg.mk.injEq] at hh; simp only; omega))
 simp (disch := first | omega | (simp only [lnx]; omega)) only [stdh, stdx, ↓reduceIte, seval, e0, e1, e2, RS.num, encM, z3, Int.reduceAdd]
 refine loop_V 100 cuneiformref17_Check.b2.eq_1 ?_
 by_cases z4 : m.n4 = 0
 case neg =>
  simp (disch := first | omega | (simp only [lnx]; omega)) only [stdh, stdx, ↓reduceIte, seval, e0, e1, e2, RS.num, encM, z4, Int.reduceAdd]
  exact ice_keeps hkk trivial (h3 hz fun hh => z4 (by cases m; simp only [mg0, Mg.mk.injEq] at hh; simp only; omega))
 simp (disch := first | omega | (simp only [lnx]; omega)) only [stdh, stdx, ↓reduceIte, seval, e0, e1, e2, RS.num, encM, z4, Int.reduceAdd]
 refine loop_V 100 cuneiformref17_Check.b2.eq_1 ?_
 by_cases z5 : m.n5 = 0
 case neg =>
  simp (disch := first | omega | (simp only [lnx]; omega)) only [stdh, stdx, ↓reduceIte, seval, e0, e1, e2, RS.num, encM, z5, Int.reduceAdd]
  exact ice_keeps hkk trivial (h3 hz fun hh => z5 (by cases m; simp only [mg0, Mg.mk.injEq] at hh; simp only; omega))
 simp (disch := first | omega | (simp only [lnx]; omega)) only [stdh, stdx, ↓reduceIte, seval, e0, e1, e2, RS.num, encM, z5, Int.reduceAdd]
 refine loop_V 100 cuneiformref17_Check.b2.eq_1 ?_
 simp (disch := first | omega | (simp only [lnx]; omega)) only [stdh, stdx, ↓reduceIte, seval]
 refine run_V0 200 ?_
 by_cases y4 : m.c.length = 0
 case neg =>
  have y4' : (0 : Int) < (m.c.length : Int) := by omega
  simp (disch := first | omega | (simp only [lnx]; omega)) only [stdh, stdx, ↓reduceIte, seval, e0, e1, e2, RS.has, encM, y4']
  exact ice_keeps hkk trivial (h3 hz fun hh => y4 (by have hc := congrArg (fun q : Mg => q.c.length) hh; exact hc))
 have y4' : ¬ (0 : Int) < (m.c.length : Int) := by omega
 by_cases y5 : m.t = ⟨#[]⟩
 case neg =>
  simp (disch := first | omega | (simp only [lnx]; omega)) only [stdh, stdx, ↓reduceIte, seval, e0, e1, e2, RS.has, encM, y4', y5]
  exact ice_keeps hkk trivial (h3 hz fun hh => y5 (by have hc := congrArg (fun q : Mg => q.t) hh; exact hc))
 simp (disch := first | omega | (simp only [lnx]; omega)) only [stdh, stdx, ↓reduceIte, seval, e0, e1, e2, RS.has, encM, y4', y5]
 refine ice_keeps hkk trivial (h0 hz ?_)
 replace y4 := List.eq_nil_of_length_eq_zero y4
 obtain ⟨k, n0, n1, n2, n3, n4, n5, p, c, t, g⟩ := m
 simp only at z3 z4 z5 y4 y5
 simp only [mg0, z3, z4, z5, y4, y5]
theorem left_2 {m : Mg} (h : m.k = 2) : (fieldsOf m.k).foldl withoutM m = { m with n0 := 0, n1 := 0, n2 := 0 } := by
 obtain ⟨k, n0, n1, n2, n3, n4, n5, p, c, t, g⟩ := m
 simp only at h
 subst h
 simp [fieldsOf, withoutM, Mg.put, List.foldl]
set_option maxRecDepth 10000 in
set_option maxHeartbeats 4000000 in
theorem rcheck_2 (H : AHeap) (m : Mg) (hk : m.k = 2) (hm : m.fine2) (Q : AVal → AHeap → Prop) (h : Q (.int .i64 (checkM m)) H) : FunOK Try.prog F.cuneiformref17_Check [.agg (encM m)] H Q := by
 have hne : fieldsOf m.k ≠ [] := by rw [hk]; decide
 rw [checkM_eq m hne, left_2 hk] at h
 have h3 : rgo m (fieldsOf m.k) = 0 → { m with n0 := 0, n1 := 0, n2 := 0 } ≠ ({ mg0 with k := m.k } : Mg) → Q (.int .i64 3) H := fun a b => by rw [if_pos a, if_pos b] at h; exact h
 have h0 : rgo m (fieldsOf m.k) = 0 → { m with n0 := 0, n1 := 0, n2 := 0 } = ({ mg0 with k := m.k } : Mg) → Q (.int .i64 0) H := fun a b => by rw [if_pos a, if_neg (fun c => c b)] at h; exact h
 have hr : rgo m (fieldsOf m.k) ≠ 0 → Q (.int .i64 (rgo m (fieldsOf m.k))) H := fun a => by rw [if_neg a] at h; exact h
 clear h
 have hlen := fieldsOf_len m.k
 have hok := fun f (hf : f ∈ fieldsOf m.k) => fieldsOf_ok3 f hf
 have hsz : (⟨false, true, false, false, false, false, false, true, true, true, false, false, false⟩ : RS) = (fieldsOf m.k).foldl RS.add rs0 := by rw [hk]; decide +kernel
 have hl0 : ((fieldsOf m.k).length : Int) ≠ 0 := by have := List.length_pos_iff.2 hne; omega
 refine fun_iced cuneiformref17_Check_code fun _ => ?_
 refine fun_V 60 cuneiformref17_Check_code rfl ?_
 simp (disch := first | omega | (simp only [lnx]; omega)) only [stdh, stdx, ↓reduceIte, seval, cuneiformref17_Check, cuneiformref17_Check.body, encM]
 refine callK_fn (rall16_ok _ _ _ ?_)
 refine runL_V 60 ?_
 generalize fieldsOf m.k = l at *
 simp (disch := first | omega | (simp only [lnx]; omega)) only [stdh, stdx, ↓reduceIte, seval, hl0]
 refine rcheck_loop (m := m) hm hlen hok _ _ (H0 := H) (c := H.length) (by omega) (sz := ⟨false, true, false, false, false, false, false, true, true, true, false, false, false⟩) ?_ hr _ 0 rs0 _ rfl (by omega) rfl hsz (keeps_append _ _) at_0 at_k at_k
 intro hz r H' hkk e0 e1 e2 r1 r4 r5
 refine run_V0 60 ?_
 simp (disch := first | omega | (simp only [lnx]; omega)) only [stdh, stdx, ↓reduceIte, seval, r1, r4, r5]
 refine loop_V 100 cuneiformref17_Check.b2.eq_1 ?_
 simp (disch := first | omega | (simp only [lnx]; omega)) only [stdh, stdx, ↓reduceIte, seval, e0, e1, e2, RS.num, encM, Int.reduceAdd]
 refine loop_V 100 cuneiformref17_Check.b2.eq_1 ?_
 simp (disch := first | omega | (simp only [lnx]; omega)) only [stdh, stdx, ↓reduceIte, seval, e0, e1, e2, RS.num, encM, Int.reduceAdd]
 refine loop_V 100 cuneiformref17_Check.b2.eq_1 ?_
 simp (disch := first | omega | (simp only [lnx]; omega)) only [stdh, stdx, ↓reduceIte, seval, e0, e1, e2, RS.num, encM, Int.reduceAdd]
 refine loop_V 100 cuneiformref17_Check.b2.eq_1 ?_
 by_cases z3 : m.n3 = 0
 case neg =>
  simp (disch := first | omega | (simp only [lnx]; omega)) only [stdh, stdx, ↓reduceIte, seval, e0, e1, e2, RS.num, encM, z3, Int.reduceAdd]
  exact ice_keeps hkk trivial (h3 hz fun hh => z3 (by cases m; simp only [mg0, Mg.mk.injEq] at hh; simp only; omega))
 simp (disch := first | omega | (simp only [lnx]; omega)) only [stdh, stdx, ↓reduceIte, seval, e0, e1, e2, RS.num, encM, z3, Int.reduceAdd]
 refine loop_V 100 cuneiformref17_Check.b2.eq_1 ?_
 by_cases z4 : m.n4 = 0
 case neg =>
  simp (disch := first | omega | (simp only [lnx]; omega)) only [stdh, stdx, ↓reduceIte, seval, e0, e1, e2, RS.num, encM, z4, Int.reduceAdd]
  exact ice_keeps hkk trivial (h3 hz fun hh => z4 (by cases m; simp only [mg0, Mg.mk.injEq] at hh; simp only; omega))
 simp (disch := first | omega | (simp only [lnx]; omega)) only [stdh, stdx, ↓reduceIte, seval, e0, e1, e2, RS.num, encM, z4, Int.reduceAdd]
 refine loop_V 100 cuneiformref17_Check.b2.eq_1 ?_
 by_cases z5 : m.n5 = 0
 case neg =>
  simp (disch := first | omega | (simp only [lnx]; omega)) only [stdh, stdx, ↓reduceIte, seval, e0, e1, e2, RS.num, encM, z5, Int.reduceAdd]
  exact ice_keeps hkk trivial (h3 hz fun hh => z5 (by cases m; simp only [mg0, Mg.mk.injEq] at hh; simp only; omega))
 simp (disch := first | omega | (simp only [lnx]; omega)) only [stdh, stdx, ↓reduceIte, seval, e0, e1, e2, RS.num, encM, z5, Int.reduceAdd]
 refine loop_V 100 cuneiformref17_Check.b2.eq_1 ?_
 simp (disch := first | omega | (simp only [lnx]; omega)) only [stdh, stdx, ↓reduceIte, seval]
 refine run_V0 200 ?_
 by_cases y3 : m.p.length = 0
 case neg =>
  have y3' : (0 : Int) < (m.p.length : Int) := by omega
  simp (disch := first | omega | (simp only [lnx]; omega)) only [stdh, stdx, ↓reduceIte, seval, e0, e1, e2, RS.has, encM, y3']
  exact ice_keeps hkk trivial (h3 hz fun hh => y3 (by have hc := congrArg (fun q : Mg => q.p.length) hh; exact hc))
 have y3' : ¬ (0 : Int) < (m.p.length : Int) := by omega
 by_cases y4 : m.c.length = 0
 case neg =>
  have y4' : (0 : Int) < (m.c.length : Int) := by omega
  simp (disch := first | omega | (simp only [lnx]; omega)) only [stdh, stdx, ↓reduceIte, seval, e0, e1, e2, RS.has, encM, y3', y4']
  exact ice_keeps hkk trivial (h3 hz fun hh => y4 (by have hc := congrArg (fun q : Mg => q.c.length) hh; exact hc))
 have y4' : ¬ (0 : Int) < (m.c.length : Int) := by omega
 by_cases y5 : m.t = ⟨#[]⟩
 case neg =>
  simp (disch := first | omega | (simp only [lnx]; omega)) only [stdh, stdx, ↓reduceIte, seval, e0, e1, e2, RS.has, encM, y3', y4', y5]
  exact ice_keeps hkk trivial (h3 hz fun hh => y5 (by have hc := congrArg (fun q : Mg => q.t) hh; exact hc))
 by_cases y6 : m.g = ⟨#[]⟩
 case neg =>
  simp (disch := first | omega | (simp only [lnx]; omega)) only [stdh, stdx, ↓reduceIte, seval, e0, e1, e2, RS.has, encM, y3', y4', y5, y6]
  exact ice_keeps hkk trivial (h3 hz fun hh => y6 (by have hc := congrArg (fun q : Mg => q.g) hh; exact hc))
 simp (disch := first | omega | (simp only [lnx]; omega)) only [stdh, stdx, ↓reduceIte, seval, e0, e1, e2, RS.has, encM, y3', y4', y5, y6]
 refine ice_keeps hkk trivial (h0 hz ?_)
 replace y3 := List.eq_nil_of_length_eq_zero y3
 replace y4 := List.eq_nil_of_length_eq_zero y4
 obtain ⟨k, n0, n1, n2, n3, n4, n5, p, c, t, g⟩ := m
 simp only at z3 z4 z5 y3 y4 y5 y6
 simp only [mg0, z3, z4, z5, y3, y4, y5, y6]
theorem left_3 {m : Mg} (h : m.k = 3) : (fieldsOf m.k).foldl withoutM m = { m with n0 := 0, n1 := 0, n2 := 0, c := [] } := by
 obtain ⟨k, n0, n1, n2, n3, n4, n5, p, c, t, g⟩ := m
 simp only at h
 subst h
 simp [fieldsOf, withoutM, Mg.put, List.foldl]
set_option maxRecDepth 10000 in
set_option maxHeartbeats 4000000 in
theorem rcheck_3 (H : AHeap) (m : Mg) (hk : m.k = 3) (hm : m.fine2) (Q : AVal → AHeap → Prop) (h : Q (.int .i64 (checkM m)) H) : FunOK Try.prog F.cuneiformref17_Check [.agg (encM m)] H Q := by
 have hne : fieldsOf m.k ≠ [] := by rw [hk]; decide
 rw [checkM_eq m hne, left_3 hk] at h
 have h3 : rgo m (fieldsOf m.k) = 0 → { m with n0 := 0, n1 := 0, n2 := 0, c := [] } ≠ ({ mg0 with k := m.k } : Mg) → Q (.int .i64 3) H := fun a b => by rw [if_pos a, if_pos b] at h; exact h
 have h0 : rgo m (fieldsOf m.k) = 0 → { m with n0 := 0, n1 := 0, n2 := 0, c := [] } = ({ mg0 with k := m.k } : Mg) → Q (.int .i64 0) H := fun a b => by rw [if_pos a, if_neg (fun c => c b)] at h; exact h
 have hr : rgo m (fieldsOf m.k) ≠ 0 → Q (.int .i64 (rgo m (fieldsOf m.k))) H := fun a => by rw [if_neg a] at h; exact h
 clear h
 have hlen := fieldsOf_len m.k
 have hok := fun f (hf : f ∈ fieldsOf m.k) => fieldsOf_ok3 f hf
 have hsz : (⟨false, true, false, false, true, false, false, true, true, true, false, false, false⟩ : RS) = (fieldsOf m.k).foldl RS.add rs0 := by rw [hk]; decide +kernel
 have hl0 : ((fieldsOf m.k).length : Int) ≠ 0 := by have := List.length_pos_iff.2 hne; omega
 refine fun_iced cuneiformref17_Check_code fun _ => ?_
 refine fun_V 60 cuneiformref17_Check_code rfl ?_
 simp (disch := first | omega | (simp only [lnx]; omega)) only [stdh, stdx, ↓reduceIte, seval, cuneiformref17_Check, cuneiformref17_Check.body, encM]
 refine callK_fn (rall16_ok _ _ _ ?_)
 refine runL_V 60 ?_
 generalize fieldsOf m.k = l at *
 simp (disch := first | omega | (simp only [lnx]; omega)) only [stdh, stdx, ↓reduceIte, seval, hl0]
 refine rcheck_loop (m := m) hm hlen hok _ _ (H0 := H) (c := H.length) (by omega) (sz := ⟨false, true, false, false, true, false, false, true, true, true, false, false, false⟩) ?_ hr _ 0 rs0 _ rfl (by omega) rfl hsz (keeps_append _ _) at_0 at_k at_k
 intro hz r H' hkk e0 e1 e2 r1 r4 r5
 refine run_V0 60 ?_
 simp (disch := first | omega | (simp only [lnx]; omega)) only [stdh, stdx, ↓reduceIte, seval, r1, r4, r5]
 refine loop_V 100 cuneiformref17_Check.b2.eq_1 ?_
 simp (disch := first | omega | (simp only [lnx]; omega)) only [stdh, stdx, ↓reduceIte, seval, e0, e1, e2, RS.num, encM, Int.reduceAdd]
 refine loop_V 100 cuneiformref17_Check.b2.eq_1 ?_
 simp (disch := first | omega | (simp only [lnx]; omega)) only [stdh, stdx, ↓reduceIte, seval, e0, e1, e2, RS.num, encM, Int.reduceAdd]
 refine loop_V 100 cuneiformref17_Check.b2.eq_1 ?_
 simp (disch := first | omega | (simp only [lnx]; omega)) only [stdh, stdx, ↓reduceIte, seval, e0, e1, e2, RS.num, encM, Int.reduceAdd]
 refine loop_V 100 cuneiformref17_Check.b2.eq_1 ?_
 by_cases z3 : m.n3 = 0
 case neg =>
  simp (disch := first | omega | (simp only [lnx]; omega)) only [stdh, stdx, ↓reduceIte, seval, e0, e1, e2, RS.num, encM, z3, Int.reduceAdd]
  exact ice_keeps hkk trivial (h3 hz fun hh => z3 (by cases m; simp only [mg0, Mg.mk.injEq] at hh; simp only; omega))
 simp (disch := first | omega | (simp only [lnx]; omega)) only [stdh, stdx, ↓reduceIte, seval, e0, e1, e2, RS.num, encM, z3, Int.reduceAdd]
 refine loop_V 100 cuneiformref17_Check.b2.eq_1 ?_
 by_cases z4 : m.n4 = 0
 case neg =>
  simp (disch := first | omega | (simp only [lnx]; omega)) only [stdh, stdx, ↓reduceIte, seval, e0, e1, e2, RS.num, encM, z4, Int.reduceAdd]
  exact ice_keeps hkk trivial (h3 hz fun hh => z4 (by cases m; simp only [mg0, Mg.mk.injEq] at hh; simp only; omega))
 simp (disch := first | omega | (simp only [lnx]; omega)) only [stdh, stdx, ↓reduceIte, seval, e0, e1, e2, RS.num, encM, z4, Int.reduceAdd]
 refine loop_V 100 cuneiformref17_Check.b2.eq_1 ?_
 by_cases z5 : m.n5 = 0
 case neg =>
  simp (disch := first | omega | (simp only [lnx]; omega)) only [stdh, stdx, ↓reduceIte, seval, e0, e1, e2, RS.num, encM, z5, Int.reduceAdd]
  exact ice_keeps hkk trivial (h3 hz fun hh => z5 (by cases m; simp only [mg0, Mg.mk.injEq] at hh; simp only; omega))
 simp (disch := first | omega | (simp only [lnx]; omega)) only [stdh, stdx, ↓reduceIte, seval, e0, e1, e2, RS.num, encM, z5, Int.reduceAdd]
 refine loop_V 100 cuneiformref17_Check.b2.eq_1 ?_
 simp (disch := first | omega | (simp only [lnx]; omega)) only [stdh, stdx, ↓reduceIte, seval]
 refine run_V0 200 ?_
 by_cases y3 : m.p.length = 0
 case neg =>
  have y3' : (0 : Int) < (m.p.length : Int) := by omega
  simp (disch := first | omega | (simp only [lnx]; omega)) only [stdh, stdx, ↓reduceIte, seval, e0, e1, e2, RS.has, encM, y3']
  exact ice_keeps hkk trivial (h3 hz fun hh => y3 (by have hc := congrArg (fun q : Mg => q.p.length) hh; exact hc))
 have y3' : ¬ (0 : Int) < (m.p.length : Int) := by omega
 by_cases y5 : m.t = ⟨#[]⟩
 case neg =>
  simp (disch := first | omega | (simp only [lnx]; omega)) only [stdh, stdx, ↓reduceIte, seval, e0, e1, e2, RS.has, encM, y3', y5]
  exact ice_keeps hkk trivial (h3 hz fun hh => y5 (by have hc := congrArg (fun q : Mg => q.t) hh; exact hc))
 by_cases y6 : m.g = ⟨#[]⟩
 case neg =>
  simp (disch := first | omega | (simp only [lnx]; omega)) only [stdh, stdx, ↓reduceIte, seval, e0, e1, e2, RS.has, encM, y3', y5, y6]
  exact ice_keeps hkk trivial (h3 hz fun hh => y6 (by have hc := congrArg (fun q : Mg => q.g) hh; exact hc))
 simp (disch := first | omega | (simp only [lnx]; omega)) only [stdh, stdx, ↓reduceIte, seval, e0, e1, e2, RS.has, encM, y3', y5, y6]
 refine ice_keeps hkk trivial (h0 hz ?_)
 replace y3 := List.eq_nil_of_length_eq_zero y3
 obtain ⟨k, n0, n1, n2, n3, n4, n5, p, c, t, g⟩ := m
 simp only at z3 z4 z5 y3 y5 y6
 simp only [mg0, z3, z4, z5, y3, y5, y6]
theorem left_4 {m : Mg} (h : m.k = 4) : (fieldsOf m.k).foldl withoutM m = { m with n0 := 0, n1 := 0, n2 := 0, n3 := 0, n4 := 0, n5 := 0 } := by
 obtain ⟨k, n0, n1, n2, n3, n4, n5, p, c, t, g⟩ := m
 simp only at h
 subst h
 simp [fieldsOf, withoutM, Mg.put, List.foldl]
set_option maxRecDepth 10000 in
set_option maxHeartbeats 4000000 in
theorem rcheck_4 (H : AHeap) (m : Mg) (hk : m.k = 4) (hm : m.fine2) (Q : AVal → AHeap → Prop) (h : Q (.int .i64 (checkM m)) H) : FunOK Try.prog F.cuneiformref17_Check [.agg (encM m)] H Q := by
 have hne : fieldsOf m.k ≠ [] := by rw [hk]; decide
 rw [checkM_eq m hne, left_4 hk] at h
 have h3 : rgo m (fieldsOf m.k) = 0 → { m with n0 := 0, n1 := 0, n2 := 0, n3 := 0, n4 := 0, n5 := 0 } ≠ ({ mg0 with k := m.k } : Mg) → Q (.int .i64 3) H := fun a b => by rw [if_pos a, if_pos b] at h; exact h
 have h0 : rgo m (fieldsOf m.k) = 0 → { m with n0 := 0, n1 := 0, n2 := 0, n3 := 0, n4 := 0, n5 := 0 } = ({ mg0 with k := m.k } : Mg) → Q (.int .i64 0) H := fun a b => by rw [if_pos a, if_neg (fun c => c b)] at h; exact h
 have hr : rgo m (fieldsOf m.k) ≠ 0 → Q (.int .i64 (rgo m (fieldsOf m.k))) H := fun a => by rw [if_neg a] at h; exact h
 clear h
 have hlen := fieldsOf_len m.k
 have hok := fun f (hf : f ∈ fieldsOf m.k) => fieldsOf_ok3 f hf
 have hsz : (⟨false, true, true, false, false, false, false, true, true, true, true, true, true⟩ : RS) = (fieldsOf m.k).foldl RS.add rs0 := by rw [hk]; decide +kernel
 have hl0 : ((fieldsOf m.k).length : Int) ≠ 0 := by have := List.length_pos_iff.2 hne; omega
 refine fun_iced cuneiformref17_Check_code fun _ => ?_
 refine fun_V 60 cuneiformref17_Check_code rfl ?_
 simp (disch := first | omega | (simp only [lnx]; omega)) only [stdh, stdx, ↓reduceIte, seval, cuneiformref17_Check, cuneiformref17_Check.body, encM]
 refine callK_fn (rall16_ok _ _ _ ?_)
 refine runL_V 60 ?_
 generalize fieldsOf m.k = l at *
 simp (disch := first | omega | (simp only [lnx]; omega)) only [stdh, stdx, ↓reduceIte, seval, hl0]
 refine rcheck_loop (m := m) hm hlen hok _ _ (H0 := H) (c := H.length) (by omega) (sz := ⟨false, true, true, false, false, false, false, true, true, true, true, true, true⟩) ?_ hr _ 0 rs0 _ rfl (by omega) rfl hsz (keeps_append _ _) at_0 at_k at_k
 intro hz r H' hkk e0 e1 e2 r1 r4 r5
 refine run_V0 60 ?_
 simp (disch := first | omega | (simp only [lnx]; omega)) only [stdh, stdx, ↓reduceIte, seval, r1, r4, r5]
 refine loop_V 100 cuneiformref17_Check.b2.eq_1 ?_
 simp (disch := first | omega | (simp only [lnx]; omega)) only [stdh, stdx, ↓reduceIte, seval, e0, e1, e2, RS.num, encM, Int.reduceAdd]
 refine loop_V 100 cuneiformref17_Check.b2.eq_1 ?_
 simp (disch := first | omega | (simp only [lnx]; omega)) only [stdh, stdx, ↓reduceIte, seval, e0, e1, e2, RS.num, encM, Int.reduceAdd]
 refine loop_V 100 cuneiformref17_Check.b2.eq_1 ?_
 simp (disch := first | omega | (simp only [lnx]; omega)) only [stdh, stdx, ↓reduceIte, seval, e0, e1, e2, RS.num, encM, Int.reduceAdd]
 refine loop_V 100 cuneiformref17_Check.b2.eq_1 ?_
 simp (disch := first | omega | (simp only [lnx]; omega)) only [stdh, stdx, ↓reduceIte, seval, e0, e1, e2, RS.num, encM, Int.reduceAdd]
 refine loop_V 100 cuneiformref17_Check.b2.eq_1 ?_
 simp (disch := first | omega | (simp only [lnx]; omega)) only [stdh, stdx, ↓reduceIte, seval, e0, e1, e2, RS.num, encM, Int.reduceAdd]
 refine loop_V 100 cuneiformref17_Check.b2.eq_1 ?_
 simp (disch := first | omega | (simp only [lnx]; omega)) only [stdh, stdx, ↓reduceIte, seval, e0, e1, e2, RS.num, encM, Int.reduceAdd]
 refine loop_V 100 cuneiformref17_Check.b2.eq_1 ?_
 simp (disch := first | omega | (simp only [lnx]; omega)) only [stdh, stdx, ↓reduceIte, seval]
 refine run_V0 200 ?_
 by_cases y3 : m.p.length = 0
 case neg =>
  have y3' : (0 : Int) < (m.p.length : Int) := by omega
  simp (disch := first | omega | (simp only [lnx]; omega)) only [stdh, stdx, ↓reduceIte, seval, e0, e1, e2, RS.has, encM, y3']
  exact ice_keeps hkk trivial (h3 hz fun hh => y3 (by have hc := congrArg (fun q : Mg => q.p.length) hh; exact hc))
 have y3' : ¬ (0 : Int) < (m.p.length : Int) := by omega
 by_cases y4 : m.c.length = 0
 case neg =>
  have y4' : (0 : Int) < (m.c.length : Int) := by omega
  simp (disch := first | omega | (simp only [lnx]; omega)) only [stdh, stdx, ↓reduceIte, seval, e0, e1, e2, RS.has, encM, y3', y4']
  exact ice_keeps hkk trivial (h3 hz fun hh => y4 (by have hc := congrArg (fun q : Mg => q.c.length) hh; exact hc))
 have y4' : ¬ (0 : Int) < (m.c.length : Int) := by omega
 by_cases y5 : m.t = ⟨#[]⟩
 case neg =>
  simp (disch := first | omega | (simp only [lnx]; omega)) only [stdh, stdx, ↓reduceIte, seval, e0, e1, e2, RS.has, encM, y3', y4', y5]
  exact ice_keeps hkk trivial (h3 hz fun hh => y5 (by have hc := congrArg (fun q : Mg => q.t) hh; exact hc))
 by_cases y6 : m.g = ⟨#[]⟩
 case neg =>
  simp (disch := first | omega | (simp only [lnx]; omega)) only [stdh, stdx, ↓reduceIte, seval, e0, e1, e2, RS.has, encM, y3', y4', y5, y6]
  exact ice_keeps hkk trivial (h3 hz fun hh => y6 (by have hc := congrArg (fun q : Mg => q.g) hh; exact hc))
 simp (disch := first | omega | (simp only [lnx]; omega)) only [stdh, stdx, ↓reduceIte, seval, e0, e1, e2, RS.has, encM, y3', y4', y5, y6]
 refine ice_keeps hkk trivial (h0 hz ?_)
 replace y3 := List.eq_nil_of_length_eq_zero y3
 replace y4 := List.eq_nil_of_length_eq_zero y4
 obtain ⟨k, n0, n1, n2, n3, n4, n5, p, c, t, g⟩ := m
 simp only at y3 y4 y5 y6
 simp only [mg0, y3, y4, y5, y6]
theorem left_5 {m : Mg} (h : m.k = 5) : (fieldsOf m.k).foldl withoutM m = { m with n0 := 0, n1 := 0, n2 := 0, n3 := 0, n4 := 0, t := ⟨#[]⟩ } := by
 obtain ⟨k, n0, n1, n2, n3, n4, n5, p, c, t, g⟩ := m
 simp only at h
 subst h
 simp [fieldsOf, withoutM, Mg.put, List.foldl]
set_option maxRecDepth 10000 in
set_option maxHeartbeats 4000000 in
theorem rcheck_5 (H : AHeap) (m : Mg) (hk : m.k = 5) (hm : m.fine2) (Q : AVal → AHeap → Prop) (h : Q (.int .i64 (checkM m)) H) : FunOK Try.prog F.cuneiformref17_Check [.agg (encM m)] H Q := by
 have hne : fieldsOf m.k ≠ [] := by rw [hk]; decide
 rw [checkM_eq m hne, left_5 hk] at h
 have h3 : rgo m (fieldsOf m.k) = 0 → { m with n0 := 0, n1 := 0, n2 := 0, n3 := 0, n4 := 0, t := ⟨#[]⟩ } ≠ ({ mg0 with k := m.k } : Mg) → Q (.int .i64 3) H := fun a b => by rw [if_pos a, if_pos b] at h; exact h
 have h0 : rgo m (fieldsOf m.k) = 0 → { m with n0 := 0, n1 := 0, n2 := 0, n3 := 0, n4 := 0, t := ⟨#[]⟩ } = ({ mg0 with k := m.k } : Mg) → Q (.int .i64 0) H := fun a b => by rw [if_pos a, if_neg (fun c => c b)] at h; exact h
 have hr : rgo m (fieldsOf m.k) ≠ 0 → Q (.int .i64 (rgo m (fieldsOf m.k))) H := fun a => by rw [if_neg a] at h; exact h
 clear h
 have hlen := fieldsOf_len m.k
 have hok := fun f (hf : f ∈ fieldsOf m.k) => fieldsOf_ok3 f hf
 have hsz : (⟨false, true, false, false, false, true, false, true, true, true, true, true, false⟩ : RS) = (fieldsOf m.k).foldl RS.add rs0 := by rw [hk]; decide +kernel
 have hl0 : ((fieldsOf m.k).length : Int) ≠ 0 := by have := List.length_pos_iff.2 hne; omega
 refine fun_iced cuneiformref17_Check_code fun _ => ?_
 refine fun_V 60 cuneiformref17_Check_code rfl ?_
 simp (disch := first | omega | (simp only [lnx]; omega)) only [stdh, stdx, ↓reduceIte, seval, cuneiformref17_Check, cuneiformref17_Check.body, encM]
 refine callK_fn (rall16_ok _ _ _ ?_)
 refine runL_V 60 ?_
 generalize fieldsOf m.k = l at *
 simp (disch := first | omega | (simp only [lnx]; omega)) only [stdh, stdx, ↓reduceIte, seval, hl0]
 refine rcheck_loop (m := m) hm hlen hok _ _ (H0 := H) (c := H.length) (by omega) (sz := ⟨false, true, false, false, false, true, false, true, true, true, true, true, false⟩) ?_ hr _ 0 rs0 _ rfl (by omega) rfl hsz (keeps_append _ _) at_0 at_k at_k
 intro hz r H' hkk e0 e1 e2 r1 r4 r5
 refine run_V0 60 ?_
 simp (disch := first | omega | (simp only [lnx]; omega)) only [stdh, stdx, ↓reduceIte, seval, r1, r4, r5]
 refine loop_V 100 cuneiformref17_Check.b2.eq_1 ?_
 simp (disch := first | omega | (simp only [lnx]; omega)) only [stdh, stdx, ↓reduceIte, seval, e0, e1, e2, RS.num, encM, Int.reduceAdd]
 refine loop_V 100 cuneiformref17_Check.b2.eq_1 ?_
 simp (disch := first | omega | (simp only [lnx]; omega)) only [stdh, stdx, ↓reduceIte, seval, e0, e1, e2, RS.num, encM, Int.reduceAdd]
 refine loop_V 100 cuneiformref17_Check.b2.eq_1 ?_
 simp (disch := first | omega | (simp only [lnx]; omega)) only [stdh, stdx, ↓reduceIte, seval, e0, e1, e2, RS.num, encM, Int.reduceAdd]
 refine loop_V 100 cuneiformref17_Check.b2.eq_1 ?_
 simp (disch := first | omega | (simp only [lnx]; omega)) only [stdh, stdx, ↓reduceIte, seval, e0, e1, e2, RS.num, encM, Int.reduceAdd]
 refine loop_V 100 cuneiformref17_Check.b2.eq_1 ?_
 simp (disch := first | omega | (simp only [lnx]; omega)) only [stdh, stdx, ↓reduceIte, seval, e0, e1, e2, RS.num, encM, Int.reduceAdd]
 refine loop_V 100 cuneiformref17_Check.b2.eq_1 ?_
 by_cases z5 : m.n5 = 0
 case neg =>
  simp (disch := first | omega | (simp only [lnx]; omega)) only [stdh, stdx, ↓reduceIte, seval, e0, e1, e2, RS.num, encM, z5, Int.reduceAdd]
  exact ice_keeps hkk trivial (h3 hz fun hh => z5 (by cases m; simp only [mg0, Mg.mk.injEq] at hh; simp only; omega))
 simp (disch := first | omega | (simp only [lnx]; omega)) only [stdh, stdx, ↓reduceIte, seval, e0, e1, e2, RS.num, encM, z5, Int.reduceAdd]
 refine loop_V 100 cuneiformref17_Check.b2.eq_1 ?_
 simp (disch := first | omega | (simp only [lnx]; omega)) only [stdh, stdx, ↓reduceIte, seval]
 refine run_V0 200 ?_
 by_cases y3 : m.p.length = 0
 case neg =>
  have y3' : (0 : Int) < (m.p.length : Int) := by omega
  simp (disch := first | omega | (simp only [lnx]; omega)) only [stdh, stdx, ↓reduceIte, seval, e0, e1, e2, RS.has, encM, y3']
  exact ice_keeps hkk trivial (h3 hz fun hh => y3 (by have hc := congrArg (fun q : Mg => q.p.length) hh; exact hc))
 have y3' : ¬ (0 : Int) < (m.p.length : Int) := by omega
 by_cases y4 : m.c.length = 0
 case neg =>
  have y4' : (0 : Int) < (m.c.length : Int) := by omega
  simp (disch := first | omega | (simp only [lnx]; omega)) only [stdh, stdx, ↓reduceIte, seval, e0, e1, e2, RS.has, encM, y3', y4']
  exact ice_keeps hkk trivial (h3 hz fun hh => y4 (by have hc := congrArg (fun q : Mg => q.c.length) hh; exact hc))
 have y4' : ¬ (0 : Int) < (m.c.length : Int) := by omega
 by_cases y6 : m.g = ⟨#[]⟩
 case neg =>
  simp (disch := first | omega | (simp only [lnx]; omega)) only [stdh, stdx, ↓reduceIte, seval, e0, e1, e2, RS.has, encM, y3', y4', y6]
  exact ice_keeps hkk trivial (h3 hz fun hh => y6 (by have hc := congrArg (fun q : Mg => q.g) hh; exact hc))
 simp (disch := first | omega | (simp only [lnx]; omega)) only [stdh, stdx, ↓reduceIte, seval, e0, e1, e2, RS.has, encM, y3', y4', y6]
 refine ice_keeps hkk trivial (h0 hz ?_)
 replace y3 := List.eq_nil_of_length_eq_zero y3
 replace y4 := List.eq_nil_of_length_eq_zero y4
 obtain ⟨k, n0, n1, n2, n3, n4, n5, p, c, t, g⟩ := m
 simp only at z5 y3 y4 y6
 simp only [mg0, z5, y3, y4, y6]
theorem rcheck_ok (H : AHeap) (m : Mg) (hm : m.fine2) (Q : AVal → AHeap → Prop) (h : Q (.int .i64 (checkM m)) H) : FunOK Try.prog F.cuneiformref17_Check [.agg (encM m)] H Q := by
 by_cases h1 : m.k = 1
 ·exact rcheck_1 H m h1 hm Q h
 by_cases h2 : m.k = 2
 ·exact rcheck_2 H m h2 hm Q h
 by_cases h3 : m.k = 3
 ·exact rcheck_3 H m h3 hm Q h
 by_cases h4 : m.k = 4
 ·exact rcheck_4 H m h4 hm Q h
 by_cases h5 : m.k = 5
 ·exact rcheck_5 H m h5 hm Q h
 have e : fieldsOf m.k = [] := by simp [fieldsOf, h1, h2, h3, h4, h5]
 have e9 : checkM m = 9 := by simp [checkM, e, chkGo]
 rw [e9] at h
 refine fun_iced cuneiformref17_Check_code fun _ => ?_
 refine fun_V 60 cuneiformref17_Check_code rfl ?_
 simp (disch := first | omega | (simp only [lnx]; omega)) only [stdh, stdx, ↓reduceIte, seval, cuneiformref17_Check, cuneiformref17_Check.body, encM]
 refine callK_fn (rall16_ok _ _ _ ?_)
 refine runL_V 60 ?_
 rw [e]
 simp (disch := first | omega | (simp only [lnx]; omega)) only [stdh, stdx, ↓reduceIte, seval]
 exact ice_none trivial h
def Fld.ok4 (f : Fld) : Prop := (f.since = 1 ∨ f.since = 2) ∧ (f.since = 2 → (f.sort = 6 ∧ f.place = -1) ∨ (f.sort = 1 ∧ (f.place = 0 ∨ f.place = 1 ∨ f.place = 2 ∨ f.place = 3 ∨ f.place = 4 ∨ f.place = 5)))
instance (f : Fld) : Decidable f.ok4 := by unfold Fld.ok4; infer_instance
theorem fieldsOf_ok4 {k : Int} : ∀ f ∈ fieldsOf k, f.ok4 := by
 unfold fieldsOf
 split
 ·decide +kernel
 split
 ·decide +kernel
 split
 ·decide +kernel
 split
 ·decide +kernel
 split
 ·decide +kernel
 ·simp
abbrev rprojC : Ctx := ⟨F.cuneiformref17_Project, 61, [.cell 4 (some 11)], none⟩
set_option maxRecDepth 10000 in
set_option maxHeartbeats 4000000 in
theorem rproj_loop {l : List Fld} (hlen : l.length ≤ 6) (hok : ∀ f ∈ l, f.ok4) (m0 : Mg) (K : List AItem) (Q : AVal → AHeap → Prop) {H0 : AHeap} {c : Nat} (hc : H0.length ≤ c)
  (hQ : ∀ H r, Keeps H0 H → H[c]? = some (.cells (encM (projGo 1 l m0)) T.cuneiformref17_M) → H[c + 1]? = some (.cells mgz T.cuneiformref17_M) → rget r 2 = .ptr c 0 → rget r 4 = .ptr (c + 1) 0 → Run Try.prog rprojC K r H Q) :
  ∀ (n i : Nat) (H : AHeap) (m : Mg), l.length - i = n → i ≤ l.length → projGo 1 l m0 = projGo 1 (l.drop i) m → Keeps H0 H → H[c]? = some (.cells (encM m) T.cuneiformref17_M) → H[c + 1]? = some (.cells mgz T.cuneiformref17_M) →
  Rounds Try.prog rprojC cuneiformref17_Project.b1 [.inBlock 0] K [(2, .ptr c 0), (4, .ptr (c + 1) 0), (5, recs encF false l), (6, .int .i64 i)] H Q
 | n, i, H, m, h1, h2, h4, hk, hh1, hh2 => by
  refine loop_V 200 cuneiformref17_Project.b1.eq_1 ?_
  have hcl : c + 1 < H.length := (List.getElem?_eq_some_iff.1 hh2).1
  by_cases hil : i < l.length
  ·rw [drop_getF hil, projGo] at h4
   have hfo := hok _ (getD_mem hil)
   have hld : ∀ H o, o < 7 → loadA H none (.sptr (recs encF false l) (i * 7 + o)) = some (True, (encF (l.getD i fld0)).getD o .junk) := fun H o ho => load_rec1 (enc := encF) (t := false) encF_len hil ho
   generalize hx : l.getD i fld0 = x at *
   have l1 : ∀ H, loadA H none (.sptr (recs encF false l) (i * 7 + 1)) = some (True, .int .i64 x.sort) := fun H => hld H 1 (by omega)
   have l2 : ∀ H, loadA H none (.sptr (recs encF false l) (i * 7 + 2)) = some (True, .int .i64 x.place) := fun H => hld H 2 (by omega)
   have l5 : ∀ H, loadA H none (.sptr (recs encF false l) (i * 7 + 5)) = some (True, .int .i64 x.since) := fun H => hld H 5 (by omega)
   have l6 : ∀ H, loadA H none (.sptr (recs encF false l) (i * 7 + 6)) = some (True, .int .i64 x.absent) := fun H => hld H 6 (by omega)
   clear hld
   have hcast : (i : Int) + 1 = ((i + 1 : Nat) : Int) := by omega
   obtain ⟨q | q, hs⟩ := hfo
   ·rw [if_pos (.inr q)] at h4
    simp (disch := first | omega | (simp only [lnx]; omega)) only [stdh, stdx, ↓reduceIte, seval, l1, l2, l5, l6, q]
    rw [hcast]
    exact rproj_loop hlen hok m0 K Q hc hQ _ (i + 1) _ m rfl (by omega) h4 hk hh1 hh2
   ·rw [if_neg (by omega)] at h4
    have hgo : ∀ y', projGo 1 l m0 = projGo 1 (l.drop (i + 1)) y' → Rounds Try.prog rprojC cuneiformref17_Project.b1 [.inBlock 0] K [(2, .ptr c 0), (4, .ptr (c + 1) 0), (5, recs encF false l), (6, .int .i64 (i + 1 : Nat))] (H.set c (.cells (encM y') T.cuneiformref17_M)) Q := fun y' h5 =>
     rproj_loop hlen hok m0 K Q hc hQ _ (i + 1) _ y' rfl (by omega) h5 (hk.set (by omega) _) (by rw [List.getElem?_set_self (by omega)]) (by rw [List.getElem?_set_ne (by omega)]; exact hh2)
    rcases hs q with ⟨s6, p⟩ | ⟨s1, p | p | p | p | p | p⟩
    ·have e : projF m x = { m with g := ⟨#[]⟩ } := by simp [projF, withoutM, s6, p]
     rw [e] at h4
     simp (disch := first | omega | (simp only [lnx]; omega)) only [stdh, stdx, ↓reduceIte, seval, l1, l2, l5, l6, q, s6, p, hh1, encM]
     rw [hcast]
     exact hgo _ h4
    ·have e : projF m x = { m with n0 := x.absent } := by simp [projF, withoutM, s1, p, Mg.put]
     rw [e] at h4
     simp (disch := first | omega | (simp only [lnx]; omega)) only [stdh, stdx, ↓reduceIte, seval, l1, l2, l5, l6, q, s1, p, hh1, encM, cuneiformref17_Project.d0]
     rw [hcast]
     exact hgo _ h4
    ·have e : projF m x = { m with n1 := x.absent } := by simp [projF, withoutM, s1, p, Mg.put]
     rw [e] at h4
     simp (disch := first | omega | (simp only [lnx]; omega)) only [stdh, stdx, ↓reduceIte, seval, l1, l2, l5, l6, q, s1, p, hh1, encM, cuneiformref17_Project.d0]
     rw [hcast]
     exact hgo _ h4
    ·have e : projF m x = { m with n2 := x.absent } := by simp [projF, withoutM, s1, p, Mg.put]
     rw [e] at h4
     simp (disch := first | omega | (simp only [lnx]; omega)) only [stdh, stdx, ↓reduceIte, seval, l1, l2, l5, l6, q, s1, p, hh1, encM, cuneiformref17_Project.d0]
     rw [hcast]
     exact hgo _ h4
    ·have e : projF m x = { m with n3 := x.absent } := by simp [projF, withoutM, s1, p, Mg.put]
     rw [e] at h4
     simp (disch := first | omega | (simp only [lnx]; omega)) only [stdh, stdx, ↓reduceIte, seval, l1, l2, l5, l6, q, s1, p, hh1, encM, cuneiformref17_Project.d0]
     rw [hcast]
     exact hgo _ h4
    ·have e : projF m x = { m with n4 := x.absent } := by simp [projF, withoutM, s1, p, Mg.put]
     rw [e] at h4
     simp (disch := first | omega | (simp only [lnx]; omega)) only [stdh, stdx, ↓reduceIte, seval, l1, l2, l5, l6, q, s1, p, hh1, encM, cuneiformref17_Project.d0]
     rw [hcast]
     exact hgo _ h4
    ·have e : projF m x = { m with n5 := x.absent } := by simp [projF, withoutM, s1, p, Mg.put]
     rw [e] at h4
     simp (disch := first | omega | (simp only [lnx]; omega)) only [stdh, stdx, ↓reduceIte, seval, l1, l2, l5, l6, q, s1, p, hh1, encM, cuneiformref17_Project.d0]
     rw [hcast]
     exact hgo _ h4
  ·rw [List.drop_eq_nil_of_le (by omega : l.length ≤ i), projGo] at h4
   simp (disch := first | omega | (simp only [lnx]; omega)) only [stdh, stdx, ↓reduceIte, seval]
   rw [h4] at hQ
   exact hQ H _ hk hh1 hh2 rfl rfl
 termination_by n => n
theorem projGo_ne {v : Int} (hv : v ≠ 1) : ∀ (l : List Fld) (m : Mg), projGo v l m = m
 | [], m => rfl
 | f :: fs, m => by rw [projGo, if_pos (.inl hv), projGo_ne hv fs m]
theorem rproject_ok (H : AHeap) (m : Mg) (v : Int) (Q : AVal → AHeap → Prop) (h : Q (.agg (encM (projectM m v))) H) : FunOK Try.prog F.cuneiformref17_Project [.agg (encM m), .int .i64 v] H Q := by
 refine fun_iced cuneiformref17_Project_code fun _ => ?_
 refine fun_V 100 cuneiformref17_Project_code rfl ?_
 unfold projectM at h
 by_cases hv : v = 1
 ·subst hv
  simp (disch := first | omega | (simp only [lnx]; omega)) only [stdh, stdx, ↓reduceIte, seval, cuneiformref17_Project, cuneiformref17_Project.body, encM]
  refine callK_fn (rall16_ok _ _ _ ?_)
  refine runL_V 100 ?_
  simp (disch := first | omega | (simp only [lnx]; omega)) only [stdh, stdx, ↓reduceIte, seval]
  refine rproj_loop (fieldsOf_len m.k) (fun f hf => fieldsOf_ok4 f hf) m _ _ (H0 := H) (c := H.length) (by omega) ?_ _ 0 _ m rfl (by omega) rfl (keeps_append _ _) at_0 at_k
  intro H' r hk e1 e2 r2 r4
  refine run_V0 100 ?_
  generalize projGo 1 (fieldsOf m.k) m = y at *
  have hl : H.length + 1 < H'.length := (List.getElem?_eq_some_iff.1 e2).1
  simp (disch := first | omega | (simp only [lnx]; omega)) only [stdh, stdx, ↓reduceIte, seval, r2, r4, e1, e2, encM, mgz, List.getElem?_set_self]
  exact ice_keeps (hk.set (by omega) _) (closeds_encM y) h
 ·rw [projGo_ne hv] at h
  simp (disch := first | omega | (simp only [lnx]; omega)) only [stdh, stdx, ↓reduceIte, seval, cuneiformref17_Project, cuneiformref17_Project.body, encM, hv]
  exact ice_none (closeds_encM m) h
def cutB (s : ByteArray) : ByteArray := if s.size ≤ 80 then s else s.extract 0 80
def cutM (m : Mg) : Mg := { m with p := m.p.take 40, c := m.c.take 40, t := cutB m.t, g := cutB m.g }
theorem cutB_size (s : ByteArray) : (cutB s).size ≤ 80 := by
 unfold cutB
 split
 ·assumption
 ·simp [ByteArray.size_extract]; omega
theorem cutM_small (m : Mg) : (cutM m).small := ⟨by simp [cutM]; omega, by simp [cutM]; omega⟩
theorem cutM_fine2 (m : Mg) : (cutM m).fine2 := ⟨by simp [cutM]; omega, by simp [cutM]; omega, by have := cutB_size m.t; simp only [cutM]; omega, by have := cutB_size m.g; simp only [cutM]; omega⟩
theorem Mg.fine2.fine {m : Mg} (h : m.fine2) : m.fine := by obtain ⟨a, b, c, d⟩ := h; exact ⟨by omega, by omega, by omega, by omega⟩
theorem bounds_to {n r : Nat} (h : r ≤ n) : bounds n n none (some (r : Int)) none = (True, 0, r, n) := by
 simp [bounds]; omega
theorem ext_cut (s : ByteArray) : s.extract 0 (min s.size 80) = cutB s := by
 unfold cutB
 by_cases h : s.size ≤ 80
 ·rw [if_pos h, Nat.min_eq_left h]; exact ByteArray.extract_zero_size
 ·rw [if_neg h, Nat.min_eq_right (by omega)]
set_option maxHeartbeats 1000000 in
theorem cut17_ok (H : AHeap) (m : Mg) (hm : m.fine) (Q : AVal → AHeap → Prop) (h : Q (.agg (encM (cutM m))) H) : FunOK Try.prog F.cuneiformlaw17_Cut [.agg (encM m)] H Q := by
 refine fun_iced cuneiformlaw17_Cut_code fun _ => ?_
 refine fun_V 40 cuneiformlaw17_Cut_code rfl ?_
 obtain ⟨g0, g1, g2, g3⟩ := hm
 have hmin : ∀ n : Nat, (if (40 : Int) < (n : Int) then 40 else (n : Int)) = ((min n 40 : Nat) : Int) := fun n => by split <;> omega
 have hmin8 : ∀ n : Nat, (if (80 : Int) < (n : Int) then 80 else (n : Int)) = ((min n 80 : Nat) : Int) := fun n => by split <;> omega
 have hs1 : sliceA 2 (recs encP false m.p) none (some ((min m.p.length 40 : Nat) : Int)) none = some (True, recs encP (false && decide ((min m.p.length 40 : Nat) = m.p.length)) (m.p.take (min m.p.length 40))) := slice_recs_to encP_len (by omega) (by omega)
 have hbt := fun n : Nat => bounds_to (n := n) (r := min n 80) (by omega)
 simp (disch := first | omega | (simp only [lnx]; omega)) only [stdh, stdx, ↓reduceIte, seval, cuneiformlaw17_Cut, cuneiformlaw17_Cut.body, cuneiformlaw17_Cut.d0, cuneiformlaw17_Cut.d1, encM, hmin, hmin8, hs1, hbt]
 refine runD_V 60 ?_
 simp (disch := first | omega | (simp only [lnx]; omega)) only [stdh, stdx, ↓reduceIte, seval, hbt, ext_cut, hmin8]
 have e : (⟨m.k, m.n0, m.n1, m.n2, m.n3, m.n4, m.n5, m.p.take (min m.p.length 40), m.c.take (min m.c.length 40), cutB m.t, cutB m.g⟩ : Mg) = cutM m := by
  simp [cutM, List.take_eq_take_iff, Nat.min_comm]
 have hcl := closeds_encM (L := H.length) (cutM m)
 rw [← e] at h hcl
 exact ice_none hcl h
abbrev ofC : Ctx := ⟨F.cuneiformlaw17_Of, 42, [.cell 2 (some 11)], none⟩
theorem Own.ne_c {w : Nat} {el : TypeId} {B : Nat} {H : AHeap} {a : AVal} {n : Nat} {cs : List AVal} (h : Own w el B H a n cs) {c : Nat} {l : List AVal} {T : TypeId} (hc : H[c]? = some (.cells l T)) : (killA H a)[c]? = some (.cells l T) := by
 rw [killA_get (h.ne hc)]; exact hc
theorem keeps_kill {H0 H : AHeap} {w : Nat} {el : TypeId} {a : AVal} {n : Nat} {cs : List AVal} (hk : Keeps H0 H) (h : Own w el H0.length H a n cs) : Keeps H0 (killA H a) := by
 rcases h.is with ⟨rfl, _⟩ | ⟨m, hm, rfl, _⟩
 ·exact hk
 ·exact hk.set hm _
set_option maxRecDepth 10000 in
set_option maxHeartbeats 4000000 in
theorem of_loop {m : Mg} (hm : m.small) (K : List AItem) (Q : AVal → AHeap → Prop) {H0 : AHeap} {c : Nat} (hc : H0.length ≤ c)
  (hQ : ∀ H r a, Keeps H0 H → H[c + 1]? = some (.cells mgz T.cuneiformref17_M) → H[c + 2]? = some (.cells [.int .i64 m.k, .int .i64 m.n0, .int .i64 m.n1, .int .i64 m.n2, .int .i64 m.n3, .int .i64 m.n4, .int .i64 m.n5, a, ints false m.c, .str m.t, .str m.g] T.cuneiformref17_M) →
   Own 2 T.n2_int H0.length H a m.p.length (m.p.flatMap encP) → rget r 2 = .ptr (c + 1) 0 → rget r 3 = .ptr (c + 2) 0 → Run Try.prog ofC K r H Q) :
  ∀ (n i : Nat) (H : AHeap) (a : AVal), m.p.length - i = n → i ≤ m.p.length → Keeps H0 H → H[c]? = some (.cells (encM m) T.msg_Msg) → H[c + 1]? = some (.cells mgz T.cuneiformref17_M) → H[c + 2]? = some (.cells [.int .i64 m.k, .int .i64 m.n0, .int .i64 m.n1, .int .i64 m.n2, .int .i64 m.n3, .int .i64 m.n4, .int .i64 m.n5, a, ints false m.c, .str m.t, .str m.g] T.cuneiformref17_M) →
  Own 2 T.n2_int H0.length H a i ((m.p.take i).flatMap encP) →
  Rounds Try.prog ofC cuneiformlaw17_Of.b1 [.inBlock 0] K [(1, .ptr c 0), (2, .ptr (c + 1) 0), (3, .ptr (c + 2) 0), (4, .int .i64 (i : Nat))] H Q
 | n, i, H, a, h1, h2, hk, e0, e1, e2, ho => by
  refine loop_V 200 cuneiformlaw17_Of.b1.eq_1 ?_
  have hl : c + 2 < H.length := (List.getElem?_eq_some_iff.1 e2).1
  have hps := hm.p
  by_cases hi : i < m.p.length
  ·have hld : ∀ H o, o < 2 → loadA H none (.sptr (recs encP false m.p) (i * 2 + o)) = some (True, (encP (m.p.getD i default)).getD o .junk) := fun H o ho => load_rec1 (enc := encP) (t := false) encP_len hi ho
   have hd : m.p.take (i + 1) = m.p.take i ++ [m.p.getD i default] := by rw [List.take_add_one]; simp [hi]
   generalize m.p.getD i default = x at *
   obtain ⟨x1, x2⟩ := x
   have l1 : ∀ H, loadA H none (.sptr (recs encP false m.p) (i * 2 + 0)) = some (True, .int .i64 x1) := fun H => hld H 0 (by omega)
   have l2 : ∀ H, loadA H none (.sptr (recs encP false m.p) (i * 2 + 1)) = some (True, .int .i64 x2) := fun H => hld H 1 (by omega)
   have hac := ho.cell
   have ho' : Own 2 T.n2_int H0.length (H ++ [ABlk.vec [.int .i64 x1, .int .i64 x2] T.n2_int 2]) a i ((m.p.take i).flatMap encP) := ho.keep (keeps_append _ _)
   obtain ⟨p, a1, hp⟩ := Own.append3 ho' (x := .slc H.length 0 1 2) (k := 1) (ys := [.int .i64 x1, .int .i64 x2]) 16 rfl (by simp [srcCells, view, content, at_0]) rfl (by omega) (by omega) (by omega) rfl
   have k0 := Own.ne_c ho' (c := c) ((at_low (by omega)).trans e0)
   have k1 := Own.ne_c ho' (c := c + 1) ((at_low (by omega)).trans e1)
   have k2 := Own.ne_c ho' (c := c + 2) ((at_low (by omega)).trans e2)
   have kk := keeps_kill (hk.push (ABlk.vec [.int .i64 x1, .int .i64 x2] T.n2_int 2)) ho'
   have kl := killA_len (H ++ [ABlk.vec [.int .i64 x1, .int .i64 x2] T.n2_int 2]) a
   generalize killA (H ++ [ABlk.vec [.int .i64 x1, .int .i64 x2] T.n2_int 2]) a = G at *
   rw [List.length_append, List.length_cons, List.length_nil] at kl
   simp (disch := first | omega | (simp only [lnx]; omega)) only [stdh, stdx, ↓reduceIte, seval, cuneiformlaw17_Of.d0, e0, e1, e2, encM, l1, l2, a1, hp, at_low, set_low, k2, List.getElem?_set_self]
   rw [show (i : Int) + 1 = ((i + 1 : Nat) : Int) by omega]
   refine of_loop hm K Q hc hQ _ (i + 1) _ (.slc (H.length + 1) 0 (i + 1) 2) rfl (by omega) ((kk.set (by omega) _).push _) ?_ ?_ ?_ ?_
   ·rw [List.getElem?_append_left (by simp; omega), List.getElem?_set_ne (by omega)]; exact k0
   ·rw [List.getElem?_append_left (by simp; omega), List.getElem?_set_ne (by omega)]; exact k1
   ·rw [List.getElem?_append_left (by simp; omega), List.getElem?_set_self (by omega)]
   ·refine ⟨?_, .inr ⟨H.length + 1, by have := hk.1; omega, rfl, ?_⟩⟩
    ·rw [flatMap_length encP_len, List.length_take]; omega
    ·rw [List.getElem?_append_right (by simp; omega), hd, List.flatMap_append]
     simp [kl, encP]
  ·have hin : i = m.p.length := by omega
   subst hin
   rw [List.take_length] at ho
   simp (disch := first | omega | (simp only [lnx]; omega)) only [stdh, stdx, ↓reduceIte, seval, e0, encM]
   exact hQ H _ a hk e1 e2 ho rfl rfl
 termination_by n => n
theorem of17_ok (H : AHeap) (m : Mg) (hm : m.small) (Q : AVal → AHeap → Prop) (h : Q (.agg (encM m)) H) : FunOK Try.prog F.cuneiformlaw17_Of [.agg (encM m)] H Q := by
 refine fun_iced cuneiformlaw17_Of_code fun _ => ?_
 refine fun_V 100 cuneiformlaw17_Of_code rfl ?_
 simp (disch := first | omega | (simp only [lnx]; omega)) only [stdh, stdx, ↓reduceIte, seval, cuneiformlaw17_Of, cuneiformlaw17_Of.body, encM]
 refine of_loop hm _ _ (H0 := H) (c := H.length) (by omega) ?_ _ 0 _ .nils rfl (by omega) (keeps_append _ _) at_0 at_k at_k Own.nil
 intro H' r a hk e1 e2 ho r2 r3
 refine run_V0 100 ?_
 have hl : H.length + 2 < H'.length := (List.getElem?_eq_some_iff.1 e2).1
 have hac := ho.cell
 simp (disch := first | omega | (simp only [lnx]; omega)) only [stdh, stdx, ↓reduceIte, seval, r2, r3, e1, e2, mgz, hac.1, hac.2, List.getElem?_set_self]
 have ho' := ho.moved (H' := H'.set (H.length + 1) (ABlk.cells [.int .i64 m.k, .int .i64 m.n0, .int .i64 m.n1, .int .i64 m.n2, .int .i64 m.n3, .int .i64 m.n4, .int .i64 m.n5, a, ints false m.c, .str m.t, .str m.g] T.cuneiformref17_M)) fun x hx => by
  rw [List.getElem?_set_ne]
  intro hh
  subst hh
  exact ho.ne e1 hx
 have hcl := closeds_encM (L := H.length) m
 refine ice_agg ([(.int .i64 m.k, .int .i64 m.k), (.int .i64 m.n0, .int .i64 m.n0), (.int .i64 m.n1, .int .i64 m.n1), (.int .i64 m.n2, .int .i64 m.n2), (.int .i64 m.n3, .int .i64 m.n3), (.int .i64 m.n4, .int .i64 m.n4), (.int .i64 m.n5, .int .i64 m.n5), (a, recs encP false m.p), (ints false m.c, ints false m.c), (.str m.t, .str m.t), (.str m.g, .str m.g)]) (hk.set (n := H.length + 1) (by omega) _) ?_ h
 intro q hq
 simp only [List.mem_cons, List.not_mem_nil, or_false] at hq
 rcases hq with rfl | rfl | rfl | rfl | rfl | rfl | rfl | rfl | rfl | rfl | rfl
 all_goals first | exact Fin.same trivial | exact Fin.same (closed_ints _ _) | exact Fin.own ho' (by exact closed_pts false m.p)
theorem put_k (m : Mg) (j v : Int) : (m.put j v).k = m.k ∧ (m.put j v).p = m.p ∧ (m.put j v).c = m.c := by
 unfold Mg.put
 repeat' split
 all_goals exact ⟨rfl, rfl, rfl⟩
theorem withoutM_k (m : Mg) (f : Fld) : (withoutM m f).k = m.k ∧ (withoutM m f).p.length ≤ m.p.length ∧ (withoutM m f).c.length ≤ m.c.length ∧ (withoutM m f).t.size ≤ m.t.size ∧ (withoutM m f).g.size ≤ m.g.size := by
 unfold withoutM Mg.put
 repeat' split
 all_goals exact ⟨rfl, by simp, by simp, by first | exact Nat.zero_le _ | simp, by first | exact Nat.zero_le _ | simp⟩
theorem projF_k (m : Mg) (f : Fld) : (projF m f).k = m.k ∧ (projF m f).p.length ≤ m.p.length ∧ (projF m f).c.length ≤ m.c.length ∧ (projF m f).t.size ≤ m.t.size ∧ (projF m f).g.size ≤ m.g.size := by
 have h := withoutM_k m f
 unfold projF Mg.put
 repeat' split
 all_goals exact h
theorem projGo_k {v : Int} : ∀ (l : List Fld) (m : Mg), (projGo v l m).k = m.k ∧ (projGo v l m).p.length ≤ m.p.length ∧ (projGo v l m).c.length ≤ m.c.length ∧ (projGo v l m).t.size ≤ m.t.size ∧ (projGo v l m).g.size ≤ m.g.size
 | [], m => ⟨rfl, Nat.le_refl _, Nat.le_refl _, Nat.le_refl _, Nat.le_refl _⟩
 | f :: fs, m => by
  rw [projGo]
  split
  ·exact projGo_k fs m
  ·obtain ⟨a1, a2, a3, a4, a5⟩ := projGo_k (v := v) fs (projF m f)
   obtain ⟨b1, b2, b3, b4, b5⟩ := projF_k m f
   exact ⟨a1.trans b1, by omega, by omega, by omega, by omega⟩
theorem projectM_k (m : Mg) (v : Int) : (projectM m v).k = m.k := (projGo_k (fieldsOf m.k) m).1
theorem projectM_small {m : Mg} (h : m.small) (v : Int) : (projectM m v).small := by
 obtain ⟨_, a, b, _, _⟩ := projGo_k (v := v) (fieldsOf m.k) m
 exact ⟨by have := h.p; unfold projectM; omega, by have := h.c; unfold projectM; omega⟩
theorem projectM_fine2 {m : Mg} (h : m.fine2) (v : Int) : (projectM m v).fine2 := by
 obtain ⟨_, a, b, c, d⟩ := projGo_k (v := v) (fieldsOf m.k) m
 obtain ⟨h1, h2, h3, h4⟩ := h
 unfold projectM
 exact ⟨by omega, by omega, by omega, by omega⟩
theorem projectM_ne {m : Mg} {v : Int} (h : v ≠ 1) : projectM m v = m := projGo_ne h _ _
theorem projectM_one (m : Mg) : projectM m 1 = if m.k = 1 then { m with n2 := 500, g := ⟨#[]⟩ } else if m.k = 2 then { m with n2 := 0 } else if m.k = 3 then { m with n2 := 1 } else if m.k = 4 then { m with n5 := 100 } else if m.k = 5 then { m with n3 := 0, n4 := 1 } else m := by
 obtain ⟨k, n0, n1, n2, n3, n4, n5, p, c, t, g⟩ := m
 simp only
 by_cases h1 : k = 1
 ·subst h1; simp [projectM, fieldsOf, projGo, projF, withoutM, Mg.put]
 by_cases h2 : k = 2
 ·subst h2; simp [projectM, fieldsOf, projGo, projF, withoutM, Mg.put]
 by_cases h3 : k = 3
 ·subst h3; simp [projectM, fieldsOf, projGo, projF, withoutM, Mg.put]
 by_cases h4 : k = 4
 ·subst h4; simp [projectM, fieldsOf, projGo, projF, withoutM, Mg.put]
 by_cases h5 : k = 5
 ·subst h5; simp [projectM, fieldsOf, projGo, projF, withoutM, Mg.put]
 simp [projectM, fieldsOf, projGo, h1, h2, h3, h4, h5]
theorem proj_proj (m : Mg) (v : Int) : projectM (projectM m v) v = projectM m v := by
 by_cases hv : v = 1
 ·subst hv
  rw [projectM_one (projectM m 1), projectM_k]
  have h := projectM_one m
  by_cases h1 : m.k = 1
  ·rw [if_pos h1] at h ⊢; rw [h]
  rw [if_neg h1] at h ⊢
  by_cases h2 : m.k = 2
  ·rw [if_pos h2] at h ⊢; rw [h]
  rw [if_neg h2] at h ⊢
  by_cases h3 : m.k = 3
  ·rw [if_pos h3] at h ⊢; rw [h]
  rw [if_neg h3] at h ⊢
  by_cases h4 : m.k = 4
  ·rw [if_pos h4] at h ⊢; rw [h]
  rw [if_neg h4] at h ⊢
  by_cases h5 : m.k = 5
  ·rw [if_pos h5] at h ⊢; rw [h]
  rw [if_neg h5] at h ⊢
 ·rw [projectM_ne hv, projectM_ne hv]
theorem rgo_zero {m : Mg} : ∀ {l : List Fld}, rgo m l = 0 ↔ ∀ f ∈ l, rwrongE m f = 0
 | [] => by simp [rgo]
 | f :: fs => by
  rw [rgo, List.forall_mem_cons, ← rgo_zero]
  split
  ·rename_i h; simp [h]
  ·rename_i h; simp [h]
theorem checkM_zero (m : Mg) : checkM m = 0 ↔ fieldsOf m.k ≠ [] ∧ (∀ f ∈ fieldsOf m.k, rwrongE m f = 0) ∧ (fieldsOf m.k).foldl withoutM m = { mg0 with k := m.k } := by
 by_cases hl : fieldsOf m.k = []
 ·simp [checkM, hl, chkGo]
 ·rw [checkM_eq m hl, ← rgo_zero]
  by_cases h0 : rgo m (fieldsOf m.k) = 0
  ·rw [if_pos h0]
   by_cases h1 : (fieldsOf m.k).foldl withoutM m = { mg0 with k := m.k }
   ·simp [h1, hl, h0]
   ·simp [h1]
  ·rw [if_neg h0]; simp [h0]
theorem empty_any : (bytesOf ⟨#[]⟩).any badB = false := rfl
theorem empty_size : ByteArray.size ⟨#[]⟩ = 0 := rfl
def in64 (x : Int) : Prop := -9223372036854775808 ≤ x ∧ x ≤ 9223372036854775807
theorem wf_i64 {z : Int} (wz : (Lit.int .i64 z).wf = true) : in64 z := by
 simp only [Lit.wf, Bool.and_eq_true, decide_eq_true_eq, IntKind.min, IntKind.max, IntKind.signed, IntKind.bits] at wz
 simp at wz
 exact ⟨by omega, by omega⟩
theorem slice_one2 {s : Sh} {l : List AVal} (h : Fits (.slice s) l) : ∃ p : AVal, l = [p] ∧ Fits (.slice s) [p] := by
 rcases h with rfl | ⟨gs, t, hg, rfl, hl⟩
 ·exact ⟨_, rfl, .inl rfl⟩
 ·exact ⟨_, rfl, .inr ⟨gs, t, hg, rfl, hl⟩⟩
theorem ints_fits2 {a : AVal} (h : Fits (.slice (.int .i64)) [a]) : ∃ zs : List Int, Sees a (ints false zs) ∧ (∀ z ∈ zs, in64 z) ∧ zs.length ≤ 9223372036854775807 := by
 rcases h with h | ⟨gs, t, hg, h, hl⟩
 ·cases h
  exact ⟨[], Sees.nils false, by simp, by simp⟩
 ·cases h
  have : ∃ zs : List Int, gs = zs.map (fun z => [AVal.int .i64 z]) ∧ ∀ z ∈ zs, in64 z := by
   clear hl
   induction gs with
   | nil => exact ⟨[], rfl, by simp⟩
   | cons g gs ih =>
    obtain ⟨zs, rfl, hz⟩ := ih fun x hx => hg x (by simp [hx])
    obtain ⟨z, rfl, hw⟩ := hg g (by simp)
    refine ⟨z :: zs, rfl, fun y hy => ?_⟩
    rcases List.mem_cons.1 hy with rfl | hy
    ·exact wf_i64 hw
    ·exact hz y hy
  obtain ⟨zs, rfl, hz⟩ := this
  refine ⟨zs, ?_, hz, by simpa using hl⟩
  have e : (zs.map fun z => [AVal.int .i64 z]).flatten = zs.map fun z : Int => AVal.int .i64 z := by
   clear hl hg hz
   induction zs with
   | nil => rfl
   | cons z zs ih => simp only [List.map_cons, List.flatten_cons, ih]; rfl
  rw [e]
  have : ints false zs = .imm (zs.map fun z : Int => AVal.int .i64 z) (zs.map fun z => [AVal.int .i64 z]).length false := by simp [ints]
  rw [this]
  exact Sees.loose _ _ _
theorem pts_fits {a : AVal} (h : Fits (.slice (.struct [.int .i64, .int .i64])) [a]) : ∃ zs : List (Int × Int), Sees a (recs encP false zs) ∧ (∀ z ∈ zs, in64 z.1 ∧ in64 z.2) ∧ zs.length ≤ 9223372036854775807 := by
 rcases h with h | ⟨gs, t, hg, h, hl⟩
 ·cases h
  exact ⟨[], Sees.nils false, by simp, by simp⟩
 ·cases h
  have : ∃ zs : List (Int × Int), gs = zs.map encP ∧ ∀ z ∈ zs, in64 z.1 ∧ in64 z.2 := by
   clear hl
   induction gs with
   | nil => exact ⟨[], rfl, by simp⟩
   | cons g gs ih =>
    obtain ⟨zs, rfl, hz⟩ := ih fun x hx => hg x (by simp [hx])
    obtain ⟨_, _, rfl, ⟨x, rfl, hx⟩, h2⟩ := hg g (by simp)
    obtain ⟨_, _, rfl, ⟨y, rfl, hy⟩, h3⟩ := h2
    have h3' : _ = ([] : List AVal) := h3
    subst h3'
    refine ⟨(x, y) :: zs, rfl, fun y hy' => ?_⟩
    rcases List.mem_cons.1 hy' with rfl | hy'
    ·exact ⟨wf_i64 hx, wf_i64 hy⟩
    ·exact hz y hy'
  obtain ⟨zs, rfl, hz⟩ := this
  refine ⟨zs, ?_, hz, by simpa using hl⟩
  have : recs encP false zs = .imm (zs.map encP).flatten (zs.map encP).length false := by simp [recs, List.flatMap]
  rw [this]
  exact Sees.loose _ _ _
structure Mg.rng (m : Mg) : Prop where
 k : in64 m.k
 n : in64 m.n0 ∧ in64 m.n1 ∧ in64 m.n2 ∧ in64 m.n3 ∧ in64 m.n4 ∧ in64 m.n5
 p : ∀ z ∈ m.p, in64 z.1 ∧ in64 z.2
 c : ∀ z ∈ m.c, in64 z
structure Mg.lens (m : Mg) : Prop where
 p : m.p.length ≤ 9223372036854775807
 c : m.c.length ≤ 9223372036854775807
 t : m.t.size ≤ 9223372036854775807
 g : m.g.size ≤ 9223372036854775807
theorem arr6_wf {l : List AVal} (h : Fits (.arr 6 .i64) l) : ∃ a b c d e f : Int, l = [.int .i64 a, .int .i64 b, .int .i64 c, .int .i64 d, .int .i64 e, .int .i64 f] ∧ in64 a ∧ in64 b ∧ in64 c ∧ in64 d ∧ in64 e ∧ in64 f := by
 obtain ⟨hl, h⟩ := h
 obtain ⟨a, ha, wa⟩ := h 0 (by omega)
 obtain ⟨b, hb, wb⟩ := h 1 (by omega)
 obtain ⟨c, hc, wc⟩ := h 2 (by omega)
 obtain ⟨d, hd, wd⟩ := h 3 (by omega)
 obtain ⟨e, he, we⟩ := h 4 (by omega)
 obtain ⟨f, hf, wf⟩ := h 5 (by omega)
 match l, hl with
 | [x0, x1, x2, x3, x4, x5], _ =>
  simp only [List.getElem?_cons_zero, List.getElem?_cons_succ, Option.some.injEq] at ha hb hc hd he hf
  exact ⟨a, b, c, d, e, f, by rw [ha, hb, hc, hd, he, hf], wf_i64 wa, wf_i64 wb, wf_i64 wc, wf_i64 wd, wf_i64 we, wf_i64 wf⟩
theorem msg_fits2 {a : AVal} (h : FitsA shMsg a) : ∃ m : Mg, Sees a (.agg (encM m)) ∧ m.lens ∧ m.rng := by
 obtain ⟨l, rfl, h⟩ := h
 obtain ⟨_, _, rfl, ⟨k, rfl, wk⟩, h⟩ := h
 obtain ⟨l2, _, rfl, h2, h⟩ := h
 obtain ⟨n0, n1, n2, n3, n4, n5, rfl, w⟩ := arr6_wf h2
 obtain ⟨l3, _, rfl, h3, h⟩ := h
 obtain ⟨p, rfl, hp⟩ := slice_one2 h3
 obtain ⟨ps, p1, p2, p3⟩ := pts_fits hp
 obtain ⟨l4, _, rfl, h4, h⟩ := h
 obtain ⟨c, rfl, hc⟩ := slice_one2 h4
 obtain ⟨cs, c1, c2, c3⟩ := ints_fits2 hc
 obtain ⟨_, _, rfl, ⟨t, rfl, ht⟩, h⟩ := h
 obtain ⟨_, _, rfl, ⟨g, rfl, hg⟩, h⟩ := h
 have h' : _ = ([] : List AVal) := h
 subst h'
 refine ⟨⟨k, n0, n1, n2, n3, n4, n5, ps, cs, t, g⟩, Sees.agg ?_, ⟨p3, c3, ht, hg⟩, ⟨wf_i64 wk, w, p2, c2⟩⟩
 exact .cons (.refl _) (.cons (.refl _) (.cons (.refl _) (.cons (.refl _) (.cons (.refl _) (.cons (.refl _) (.cons (.refl _) (.cons p1 (.cons c1 (.refl _)))))))))
end Go.Proofs.Ytgjldipoagkncaa
