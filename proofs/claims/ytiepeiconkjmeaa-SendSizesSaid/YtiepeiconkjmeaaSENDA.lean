/-
  Lemmas on the way to the statements of this seat. By an AI agent. No person has read it.
-/
import Derived.Test.YtiepeiconkjmeaaCode
import Derived.Test.YtiepeiconkjmeaaAm6
set_option linter.unusedSimpArgs false
set_option linter.unusedVariables false

namespace Go.Proofs.Ytiepeiconkjmeaa
open Go Go.Am
def sizeOf (n : Nat) : Nat := if h : n < 128 then 1 else 1 + sizeOf (n / 128)
 termination_by n
theorem sizeOf_lt {n : Nat} (h : n < 128) : sizeOf n = 1 := by rw [sizeOf, dif_pos h]
theorem sizeOf_ge {n : Nat} (h : ¬ n < 128) : sizeOf n = 1 + sizeOf (n / 128) := by rw [sizeOf, dif_neg h]
theorem sizeOf_le : ∀ (k n : Nat), n < 128 ^ (k + 1) → sizeOf n ≤ k + 1
 | 0, n, h => by rw [sizeOf_lt (by simpa using h)]; omega
 | k + 1, n, h => by
  by_cases hn : n < 128
  ·rw [sizeOf_lt hn]; omega
  ·rw [sizeOf_ge hn]
   have := sizeOf_le k (n / 128) (by rw [Nat.pow_succ] at h; exact Nat.div_lt_of_lt_mul (by rw [Nat.mul_comm]; exact h))
   omega
theorem sizeOf_le10 {n : Nat} (h : n < 18446744073709551616) : sizeOf n ≤ 10 := sizeOf_le 9 n (by omega)
theorem sizeOf_pos (n : Nat) : 1 ≤ sizeOf n := by
 by_cases hn : n < 128
 ·rw [sizeOf_lt hn]; omega
 ·rw [sizeOf_ge hn]; omega
end Go.Proofs.Ytiepeiconkjmeaa

namespace Go.Proofs.Ytiepeiconkjmeaa
open Go Go.Am
end Go.Proofs.Ytiepeiconkjmeaa

namespace Go.Proofs.Ytiepeiconkjmeaa
open Go Go.Am
def putOne (n : Nat) : List Nat := if h : n < 128 then [n] else (n % 128 + 128) :: putOne (n / 128)
 termination_by n
theorem putOne_lt {n : Nat} (h : n < 128) : putOne n = [n] := by rw [putOne, dif_pos h]
theorem putOne_ge {n : Nat} (h : ¬ n < 128) : putOne n = (n % 128 + 128) :: putOne (n / 128) := by rw [putOne, dif_neg h]
def putAll (l : List Nat) : List Nat := l.flatMap putOne
theorem putOne_length (n : Nat) : (putOne n).length = sizeOf n := by
 induction n using Nat.strongRecOn with
 | _ n ih =>
  by_cases h : n < 128
  ·rw [putOne_lt h, sizeOf_lt h]; rfl
  ·rw [putOne_ge h, sizeOf_ge h, List.length_cons, ih _ (by omega)]; omega
abbrev putC : Ctx := ⟨F.varint_Put, 29, [.tmp 2], none⟩
theorem or_byte (n : Nat) : Am.bits .or .u8 (IntKind.u8.wrap (n : Int)) 128 = ((n % 128 + 128 : Nat) : Int) := by
 have h := bits_or (k := .u8) rfl (a := n % 256) (b := 128) (by simp [IntKind.bits]; omega) (by simp [IntKind.bits])
 rw [or128 _ (by omega)] at h
 rw [wrap_u8', show (n : Int) % 256 = ((n % 256 : Nat) : Int) by omega]
 refine Eq.trans h ?_
 omega
theorem put_inner (K : List AItem) (H0 : AHeap) (Q : AVal → AHeap → Prop) (l len i : AVal) (n : Nat) : ∀ (H : AHeap) (a : AVal) (xs : List Nat), n < 18446744073709551616 → Mine .u8 T.uint8 H0.length H a xs → Keeps H0 H → xs.length + sizeOf n ≤ 1000000 →
  (∀ r' H' a' xs' (n' : Nat), n' < 128 → xs' ++ [n'] = xs ++ putOne n → Mine .u8 T.uint8 H0.length H' a' xs' → Keeps H0 H' → rget r' 3 = a' → rget r' 5 = .int .u64 n' → rget r' 6 = l → rget r' 7 = len → rget r' 8 = i → Run Try.prog putC K r' H' Q) →
  Rounds Try.prog putC varint_Put.b0 [.inBlock 2] K [(3, a), (5, .int .u64 n), (6, l), (7, len), (8, i)] H Q := by
 induction n using Nat.strongRecOn with
 | _ n ih =>
 intro H a xs h1 hm hk hs h
 refine loop_V 200 varint_Put.b0.eq_1 ?_
 by_cases hn : n < 128
 ·simp (disch := omega) only [std, stdx, ↓reduceIte, seval]
  refine h _ H a xs n hn (by rw [putOne_lt hn]) hm hk ?_ ?_ ?_ ?_ ?_ <;> simp (disch := omega) only [std, stdx, ↓reduceIte, seval]
 ·have hs' := sizeOf_ge hn
  simp (disch := omega) only [std, stdx, ↓reduceIte, seval, or_byte]
  obtain ⟨v, H', p, e1, hp, hm', hk'⟩ := Mine.append (H := H ++ [_]) (hm.keep ((Keeps.refl H).push _)) (nats_one (k := .u8) (H := H) (el := T.uint8) (n := n % 128 + 128)) (bytes := 1) (hk.push _) rfl (by simp; omega) (by simp; omega) (by simp)
  simp (disch := omega) only [std, stdx, ↓reduceIte, seval, e1, hp]
  have e : (n : Int) / 128 = ((n / 128 : Nat) : Int) := by omega
  rw [e]
  refine ih (n / 128) (by omega) H' v _ (by omega) hm' hk' (by simp; omega) ?_
  intro r' H'' a' xs' n' g1 g2
  refine h r' H'' a' xs' n' g1 ?_
  rw [g2, putOne_ge hn]; simp
theorem put_loop (H0 : AHeap) (K : List AItem) (Q : AVal → AHeap → Prop) {l : AVal} {ns : List Nat} (hl : Nats .u64 H0 l ns) (hb : ∀ n ∈ ns, n < 18446744073709551616) (hlen : ns.length ≤ 1000) :
  ∀ (m i : Nat) (H : AHeap) (a : AVal) (xs : List Nat), ns.length - i = m → i ≤ ns.length → Mine .u8 T.uint8 H0.length H a xs → Keeps H0 H → xs.length ≤ 10 * i →
  (∀ r' H' a', Mine .u8 T.uint8 H0.length H' a' (xs ++ putAll (ns.drop i)) → Keeps H0 H' → rget r' 3 = a' → Run Try.prog putC K r' H' Q) →
  Rounds Try.prog putC varint_Put.b1 [.inBlock 0] K [(3, a), (6, l), (7, .int .i64 ns.length), (8, .int .i64 i)] H Q
 | m, i, H, a, xs, h1, h2, hm, hk, hx, h => by
  refine loop_V 200 varint_Put.b1.eq_1 ?_
  by_cases hi : i < ns.length
  ·have hx' := hl.keep hk
   have hni : ns.getD i 0 < 18446744073709551616 := by
    rw [List.getD_eq_getElem?_getD]; simp [hi]; exact hb _ (List.getElem_mem hi)
   have hdi : ns.drop i = ns.getD i 0 :: ns.drop (i + 1) := by
    rw [List.drop_eq_getElem_cons hi]; simp [hi]
   have hsz := sizeOf_le10 hni
   simp (disch := omega) only [std, stdx, ↓reduceIte, seval, hx'.len, hx'.isSome, hx'.load]
   refine put_inner _ H0 Q _ _ _ _ H a xs hni hm hk (by omega) ?_
   intro r' H' a' xs' n' g1 g2 g3 g4 e1 e2 e3 e4 e5
   refine run_V 100 ?_
   have hu : IntKind.u8.wrap (n' : Int) = (n' : Int) := by rw [wrap_u8']; omega
   have hlx : xs'.length + 1 = xs.length + sizeOf (ns.getD i 0) := by
    have := congrArg List.length g2
    simpa [putOne_length] using this
   simp (disch := omega) only [std, stdx, ↓reduceIte, seval, e1, e2, e3, e4, e5, hu]
   obtain ⟨v, H'', p, q1, hp, hm', hk'⟩ := Mine.append (H := H' ++ [_]) (g3.keep ((Keeps.refl H').push _)) (nats_one (k := .u8) (H := H') (el := T.uint8) (n := n')) (bytes := 1) (g4.push _) rfl (by simp; omega) (by simp; omega) (by simp)
   simp (disch := omega) only [std, stdx, ↓reduceIte, seval, q1, hp, e3, e4, e5]
   refine put_loop H0 K Q hl hb hlen (ns.length - (i + 1)) (i + 1) H'' v _ rfl (by omega) hm' hk' (by simp; omega) ?_
   intro r'' H3 a3 w1
   refine h r'' H3 a3 ?_
   rw [hdi]
   rw [g2] at w1
   simpa [putAll] using w1
  ·simp (disch := omega) only [std, stdx, ↓reduceIte, seval]
   refine h _ H a ?_ hk ?_
   ·rw [List.drop_eq_nil_of_le (by omega)]; simpa [putAll] using hm
   ·simp (disch := omega) only [std, stdx, ↓reduceIte, seval]
 termination_by m => m
theorem put_ok (H : AHeap) {l : AVal} {ns : List Nat} (hl : Nats .u64 H l ns) (hb : ∀ n ∈ ns, n < 18446744073709551616) (hlen : ns.length ≤ 1000) (Q : AVal → AHeap → Prop)
  (h : ∀ a H', Mine .u8 T.uint8 H.length H' a (putAll ns) → Keeps H H' → Q a H') : FunOK Try.prog F.varint_Put [l] H Q := by
 refine fun_V 100 varint_Put_code rfl ?_
 simp (disch := omega) only [std, stdx, ↓reduceIte, seval, varint_Put, varint_Put.body, hl.len]
 refine put_loop H _ Q hl hb hlen _ 0 H .nils [] rfl (by omega) ⟨.inl ⟨rfl, rfl⟩⟩ (Keeps.refl H) (by simp) ?_
 intro r' H' a' g1 g2 g3
 refine run_V 100 ?_
 simp (disch := omega) only [std, stdx, ↓reduceIte, seval, g3]
 exact h a' H' (by simpa using g1) g2
end Go.Proofs.Ytiepeiconkjmeaa

namespace Go.Proofs.Ytiepeiconkjmeaa
open Go Go.Am
end Go.Proofs.Ytiepeiconkjmeaa

namespace Go.Proofs.Ytiepeiconkjmeaa
open Go Go.Am
def u8s (xs : List Nat) : List AVal := xs.map fun n : Nat => AVal.int .u8 (n : Int)
end Go.Proofs.Ytiepeiconkjmeaa

namespace Go.Proofs.Ytiepeiconkjmeaa
open Go Go.Am
end Go.Proofs.Ytiepeiconkjmeaa

namespace Go.Proofs.Ytiepeiconkjmeaa
open Go Go.Am
end Go.Proofs.Ytiepeiconkjmeaa

namespace Go.Proofs.Ytiepeiconkjmeaa
open Go Go.Am
end Go.Proofs.Ytiepeiconkjmeaa

namespace Go.Proofs.Ytiepeiconkjmeaa
open Go Go.Am
def zig (s : Int) : Nat := if s < 0 then (-(s + 1) * 2 + 1).toNat else (2 * s).toNat
theorem wrap_neg {s : Int} (h0 : -9223372036854775808 ≤ s) (h1 : s < 0) : IntKind.u64.wrap s = s + 18446744073709551616 := by rw [wrap_u64']; omega
theorem zig_ok (H : AHeap) (s : Int) (h0 : -9223372036854775808 ≤ s) (h1 : s < 9223372036854775808) (Q : AVal → AHeap → Prop) (h : Q (.int .u64 (zig s)) H) : FunOK Try.prog F.varint_Zig [.int .i64 s] H Q := by
 refine fun_V 100 varint_Zig_code rfl ?_
 by_cases hs : s < 0
 ·have e1 : s / 9223372036854775808 = -1 := by omega
  have e2 : IntKind.u64.wrap ((s + 18446744073709551616) * 2) = 2 * s + 18446744073709551616 := by rw [wrap_u64']; omega
  have e3 : IntKind.u64.wrap (-1) = 18446744073709551615 := by rw [wrap_u64']; omega
  have e4 := xor_ones_u64 (x := 2 * s + 18446744073709551616) (by omega)
  have e5 : (18446744073709551615 : Int) - (2 * s + 18446744073709551616) = (zig s : Int) := by unfold zig; rw [if_pos hs]; omega
  simp (disch := omega) only [std, stdx, ↓reduceIte, seval, varint_Zig, varint_Zig.body, wrap_neg h0 hs, fdiv_pow, e1, Int.reduceMul, e2, e3, e4, e5]
  exact h
 ·have e1 : s / 9223372036854775808 = 0 := by omega
  have e2 : IntKind.u64.wrap (s * 2) = 2 * s := by rw [wrap_u64']; omega
  have e5 : 2 * s = (zig s : Int) := by unfold zig; rw [if_neg hs]; omega
  have e4 := (xor_zero_u64 (x := 2 * s) (by omega)).trans e5
  simp (disch := omega) only [std, stdx, ↓reduceIte, seval, varint_Zig, varint_Zig.body, e1, e2, e4]
  exact h
theorem zig_lt {s : Int} (h0 : -9223372036854775808 ≤ s) (h1 : s < 9223372036854775808) : zig s < 18446744073709551616 := by unfold zig; split <;> omega
end Go.Proofs.Ytiepeiconkjmeaa

namespace Go.Proofs.Ytiepeiconkjmeaa
open Go Go.Am
end Go.Proofs.Ytiepeiconkjmeaa

namespace Go.Proofs.Ytiepeiconkjmeaa
open Go Go.Am
end Go.Proofs.Ytiepeiconkjmeaa

namespace Go.Proofs.Ytiepeiconkjmeaa
open Go Go.Am
structure PenAt (H : AHeap) (p : Nat) (a : AVal) (xs : List Nat) (room : Nat) (full : Bool) : Prop where
 is : H[p]? = some (.cells [a, .int .i64 (room : Int), .bool full] T.pen_Pen)
 own : Own 1 T.uint8 (p + 1) H a xs.length (u8s xs)
 le : xs.length ≤ room
 lt : room ≤ 9223372036854775807
 sm : xs.length ≤ 1000000
theorem PenAt.moved {H H' : AHeap} {p : Nat} {a : AVal} {xs : List Nat} {room : Nat} {full : Bool} (h : PenAt H p a xs room full) (hp : H'[p]? = H[p]?) (hk : ∀ m ∈ a.names, H'[m]? = H[m]?) : PenAt H' p a xs room full :=
 ⟨hp.trans h.is, h.own.moved hk, h.le, h.lt, h.sm⟩
def PenKeeps (H : AHeap) (p : Nat) (a : AVal) (H' : AHeap) : Prop := H.length ≤ H'.length ∧ ∀ m, m < H.length → m ≠ p → m ∉ a.names → H'[m]? = H[m]?
def rawXs (xs : List Nat) (room : Nat) (full : Bool) (ys : List Nat) : List Nat := if full = true ∨ room < xs.length + ys.length then xs else xs ++ ys
def rawFull (xs : List Nat) (room : Nat) (full : Bool) (ys : List Nat) : Bool := full || decide (room < xs.length + ys.length)
def rawErr (xs : List Nat) (room : Nat) (full : Bool) (ys : List Nat) : Nat := if full = true ∨ room < xs.length + ys.length then 2 else 0
theorem raw_ok (H : AHeap) {p : Nat} {a : AVal} {xs : List Nat} {room : Nat} {full : Bool} (hp : PenAt H p a xs room full) {b : AVal} {ys : List Nat} (hb : Nats .u8 H b ys) (hs : ∀ s, b ≠ .str s) (hsm : xs.length + ys.length ≤ 1000000) (Q : AVal → AHeap → Prop)
  (h : ∀ a' H', PenAt H' p a' (rawXs xs room full ys) room (rawFull xs room full ys) → PenKeeps H p a H' → (∀ m ∈ a'.names, m ∈ a.names ∨ H.length ≤ m) → Q (.int .i64 (rawErr xs room full ys : Nat)) H') : FunOK Try.prog F.pen_Pen_Raw [.ptr p 0, b] H Q := by
 obtain ⟨hc, ho, hle, hlt, hsx⟩ := hp
 have hpl : p < H.length := (List.getElem?_eq_some_iff.1 hc).1
 have hsl := ho.slen
 have hcl := ho.cell
 refine fun_V 100 pen_Pen_Raw_code rfl ?_
 have hH2 : ∀ m, m ≠ p → (H.set p (.cells [a, .int .i64 (room : Int), .bool true] T.pen_Pen))[m]? = H[m]? := fun m hm => by rw [List.getElem?_set_ne (by omega)]
 have hfull : rawXs xs room full ys = xs → rawFull xs room full ys = true → rawErr xs room full ys = 2 → Q (.int .i64 2) (H.set p (.cells [a, .int .i64 (room : Int), .bool true] T.pen_Pen)) := by
  intro e1 e2 e3
  have := h a (H.set p (.cells [a, .int .i64 (room : Int), .bool true] T.pen_Pen)) (by
   rw [e1, e2]
   refine ⟨by rw [List.getElem?_set_self hpl], ho.moved fun m hm => hH2 m ?_, hle, hlt, hsx⟩
   have := (ho.lt m hm).1; omega) ⟨by simp, fun m h1 h2 h3 => hH2 m h2⟩ (fun m hm => .inl hm)
  rw [e3] at this
  exact this
 cases full with
 | true =>
  have q := hfull (by simp [rawXs]) (by simp [rawFull]) (by simp [rawErr])
  clear h hfull
  simp (disch := first | omega | (simp only [lnx]; omega)) only [stdh, stdx, ↓reduceIte, seval, pen_Pen_Raw, pen_Pen_Raw.body, pen_Pen_Raw.d0, eqA, hc]
 | false =>
  by_cases hr : room < xs.length + ys.length
  ·have q := hfull (by simp [rawXs, hr]) (by simp [rawFull, hr]) (by simp [rawErr, hr])
   have hr' : (room : Int) - (xs.length : Nat) < (ys.length : Nat) := by omega
   simp (disch := first | omega | (simp only [lnx]; omega)) only [stdh, stdx, ↓reduceIte, seval, pen_Pen_Raw, pen_Pen_Raw.body, pen_Pen_Raw.d0, eqA, hc, hsl, hb.len, hr']
  ·have hr' : ¬ (room : Int) - (xs.length : Nat) < (ys.length : Nat) := by omega
   have e1 : rawXs xs room false ys = xs ++ ys := by simp [rawXs, hr]
   have e2 : rawFull xs room false ys = false := by simp [rawFull, hr]
   have e3 : rawErr xs room false ys = 0 := by simp [rawErr, hr]
   rw [e1, e2, e3] at h
   simp (disch := first | omega | (simp only [lnx]; omega)) only [stdh, stdx, ↓reduceIte, seval, pen_Pen_Raw, pen_Pen_Raw.body, pen_Pen_Raw.d0, eqA, hc, hsl, hb.len, hr']
   have hb1 : srcLen b = some ys.length := by
    have := hb.len
    cases b <;> first | (simp [slen] at this; done) | exact this
   have hb2 : srcCells H b = some (u8s ys) := by
    have := hb.view
    cases b <;> first | exact absurd rfl (hs _) | exact this
   refine resK_append (k := ys.length) (ys := u8s ys) ho (by omega) hb1 hb2 (by simp [u8s]) (by omega) (by omega) (by omega) (by simp [u8s, AVal.cellish]) fun v H2 ov ht hn => ?_
   have hc2 : H2[p]? = some (.cells [a, .int .i64 (room : Int), .bool false] T.pen_Pen) := by
    rw [ht.kept p hpl (fun hm => by have := (ho.lt p hm).1; omega)]; exact hc
   have hcv := ov.cell
   have hpl2 : p < H2.length := (List.getElem?_eq_some_iff.1 hc2).1
   simp (disch := first | omega | (simp only [lnx]; omega)) only [stdh, stdx, ↓reduceIte, seval, hc2, hcv.1, hcv.2]
   refine h v _ ⟨by rw [List.getElem?_set_self hpl2], ?_, by simp; omega, hlt, by simp; omega⟩ ⟨by simp [ht.le], fun m h1 h2 h3 => ?_⟩ (fun m hm => .inr (hn m hm))
   ·have : xs.length + ys.length = (xs ++ ys).length := by simp
    rw [← this]
    have e : u8s (xs ++ ys) = u8s xs ++ u8s ys := by simp [u8s]
    rw [e]
    refine ov.moved fun m hm => ?_
    rw [List.getElem?_set_ne (by have := (ov.lt m hm).1; omega)]
   ·rw [List.getElem?_set_ne (by omega)]
    exact ht.kept m h1 h3
theorem pnew_ok (H : AHeap) {room : Nat} (hr : room ≤ 9223372036854775807) (Q : AVal → AHeap → Prop) (h : Q (.ptr H.length 0) (H ++ [.cells [.nils, .int .i64 (room : Int), .bool false] T.pen_Pen])) : FunOK Try.prog F.pen_New [.int .i64 (room : Nat)] H Q := by
 have e : ¬ (room : Int) < 0 := by omega
 have e2 : max (room : Int) 0 = room := by omega
 refine fun_V 60 pen_New_code rfl ?_
 simp (disch := first | omega | (simp only [lnx]; omega)) only [stdh, stdx, ↓reduceIte, seval, pen_New, pen_New.body, e, e2]
 exact h
theorem pnew_at (H : AHeap) {room : Nat} (hr : room ≤ 9223372036854775807) : PenAt (H ++ [.cells [.nils, .int .i64 (room : Int), .bool false] T.pen_Pen]) H.length .nils [] room false :=
 ⟨at_0, Own.nil, by simp, hr, by simp⟩
theorem pbytes_ok {H : AHeap} {p : Nat} {a : AVal} {xs : List Nat} {room : Nat} {full : Bool} (hp : PenAt H p a xs room full) (Q : AVal → AHeap → Prop) (h : Q (nums .u8 false xs) H) : FunOK Try.prog F.pen_Pen_Bytes [.ptr p 0] H Q := by
 have hc := hp.is
 have ho := hp.own
 have hle := hp.le
 have hlt := hp.lt
 have hsx := hp.sm
 refine fun_iced pen_Pen_Bytes_code fun _ => ?_
 refine fun_V 60 pen_Pen_Bytes_code rfl ?_
 simp (disch := first | omega | (simp only [lnx]; omega)) only [stdh, stdx, ↓reduceIte, seval, pen_Pen_Bytes, pen_Pen_Bytes.body, eqA, hc]
 refine resK_append (k := xs.length) (ys := u8s xs) (Own.nil (B := H.length)) (Nat.le_refl _) ho.src.1 ho.src.2 (by simp [u8s]) (by omega) (by omega) (by omega) (by simp [u8s, AVal.cellish]) fun v H2 ov ht hn => ?_
 simp (disch := first | omega | (simp only [lnx]; omega)) only [stdh, stdx, ↓reduceIte, seval]
 have ov' : Own 1 T.uint8 H.length H2 v xs.length (u8s xs) := by simpa using ov
 exact ice_own ⟨ht.le, fun m hm => ht.kept m hm (by simp [AVal.names])⟩ ov' (closeds_ints _ _) h
def Wrote (p : Nat) (a : AVal) (H : AHeap) (xs : List Nat) (room : Nat) (full : Bool) (ys : List Nat) (Q : AVal → AHeap → Prop) : Prop :=
 ∀ a' H', PenAt H' p a' (rawXs xs room full ys) room (rawFull xs room full ys) → PenKeeps H p a H' → (∀ m ∈ a'.names, m ∈ a.names ∨ H.length ≤ m) → Q (.int .i64 (rawErr xs room full ys : Nat)) H'
theorem Wrote.keep {p : Nat} {a : AVal} {H H1 : AHeap} {xs : List Nat} {room : Nat} {full : Bool} {ys : List Nat} {Q : AVal → AHeap → Prop} (hk : Keeps H H1) (h : Wrote p a H xs room full ys Q) : Wrote p a H1 xs room full ys Q := by
 intro a' H' g1 g2 g3
 refine h a' H' g1 ⟨Nat.le_trans hk.le g2.1, fun m h1 h2 h3 => (g2.2 m (Nat.lt_of_lt_of_le h1 hk.le) h2 h3).trans (hk.2 m h1)⟩ fun m hm => ?_
 rcases g3 m hm with h4 | h4
 ·exact .inl h4
 ·exact .inr (Nat.le_trans hk.le h4)
theorem PenAt.keep {H H1 : AHeap} {p : Nat} {a : AVal} {xs : List Nat} {room : Nat} {full : Bool} (hk : Keeps H H1) (h : PenAt H p a xs room full) : PenAt H1 p a xs room full :=
 ⟨(hk.2 p (List.getElem?_eq_some_iff.1 h.is).1).trans h.is, h.own.keep hk, h.le, h.lt, h.sm⟩
section
variable {H : AHeap} {p : Nat} {a : AVal} {xs : List Nat} {room : Nat} {full : Bool}
theorem mine_nostr {k : IntKind} {el : TypeId} {B : Nat} {H : AHeap} {a : AVal} {xs : List Nat} (h : Mine k el B H a xs) : ∀ s, a ≠ .str s := by
 rcases h.is with ⟨rfl, _⟩ | ⟨_, _, rfl, _⟩ <;> simp
theorem putAll_len : ∀ (l : List Nat), (∀ n ∈ l, n < 18446744073709551616) → (putAll l).length ≤ 10 * l.length
 | [], _ => by simp [putAll]
 | n :: l, h => by
  have h1 := putAll_len l fun m hm => h m (by simp [hm])
  have h2 := sizeOf_le10 (h n (by simp))
  have h3 := putOne_length n
  simp only [putAll, List.flatMap_cons, List.length_append, List.length_cons] at h1 ⊢
  omega
theorem number_ok (hp : PenAt H p a xs room full) (hsm : xs.length ≤ 500000) {l : AVal} {ns : List Nat} (hl : Nats .u64 H l ns) (hb : ∀ n ∈ ns, n < 18446744073709551616) (hlen : ns.length ≤ 1000) (Q : AVal → AHeap → Prop) (h : Wrote p a H xs room full (putAll ns) Q) :
  FunOK Try.prog F.pen_Pen_Number [.ptr p 0, l] H Q := by
 refine fun_V 60 pen_Pen_Number_code rfl ?_
 simp (disch := first | omega | (simp only [lnx]; omega)) only [stdh, stdx, ↓reduceIte, seval, pen_Pen_Number, pen_Pen_Number.body]
 refine callK_fn (put_ok _ hl hb hlen _ ?_)
 intro b H1 hm hk
 refine runL_V 60 ?_
 simp (disch := first | omega | (simp only [lnx]; omega)) only [stdh, stdx, ↓reduceIte, seval]
 have := putAll_len ns hb
 refine callK_fn (raw_ok _ (hp.keep hk) hm.nats (mine_nostr hm) (by omega) _ ?_)
 intro a' H' g1 g2 g3
 refine runL_V 60 ?_
 simp (disch := first | omega | (simp only [lnx]; omega)) only [stdh, stdx, ↓reduceIte, seval]
 exact h.keep hk a' H' g1 g2 g3
theorem pfield_ok (hp : PenAt H p a xs room full) (hsm : xs.length ≤ 500000) {b : AVal} {ys : List Nat} (hb : Nats .u8 H b ys) (hs : ∀ s, b ≠ .str s) (hlen : ys.length ≤ 1000) (Q : AVal → AHeap → Prop) (h : Wrote p a H xs room full (putAll [ys.length] ++ ys) Q) :
  FunOK Try.prog F.pen_Pen_Field [.ptr p 0, b] H Q := by
 refine fun_V 60 pen_Pen_Field_code rfl ?_
 simp (disch := first | omega | (simp only [lnx]; omega)) only [stdh, stdx, ↓reduceIte, seval, pen_Pen_Field, pen_Pen_Field.body, hb.len]
 refine callK_fn (put_ok _ (nats_one (k := .u64) (H := H) (el := T.uint64) (n := ys.length)) (by simp; omega) (by simp) _ ?_)
 intro b1 H1 hm hk
 have hk1 : Keeps H H1 := (keeps_append H _).trans hk
 refine runL_V 60 ?_
 simp (disch := first | omega | (simp only [lnx]; omega)) only [stdh, stdx, ↓reduceIte, seval]
 have hpl := putAll_len [ys.length] (by simp; omega)
 simp only [List.length_cons, List.length_nil] at hpl
 obtain ⟨v, H2, q, e1, hq, hm2, hk2⟩ := Mine.append (H := H1) hm (hb.keep hk1) (bytes := 1) hk rfl (by omega) (by omega) hs
 simp (disch := first | omega | (simp only [lnx]; omega)) only [stdh, stdx, ↓reduceIte, seval, e1, hq]
 have hk3 : Keeps H H2 := (keeps_append H _).trans hk2
 refine callK_fn (raw_ok _ (hp.keep hk3) hm2.nats (mine_nostr hm2) (by simp; omega) _ ?_)
 intro a' H' g1 g2 g3
 refine runL_V 60 ?_
 simp (disch := first | omega | (simp only [lnx]; omega)) only [stdh, stdx, ↓reduceIte, seval]
 exact h.keep hk3 a' H' g1 g2 g3
end
end Go.Proofs.Ytiepeiconkjmeaa

namespace Go.Proofs.Ytiepeiconkjmeaa
open Go Go.Am
abbrev sgnC : Ctx := ⟨F.pen_Pen_Signed, 23, [.tmp 4], none⟩
def inI64 (z : Int) : Prop := -9223372036854775808 ≤ z ∧ z < 9223372036854775808
section
variable {H : AHeap} {p : Nat} {a : AVal} {xs : List Nat} {room : Nat} {full : Bool}
end
end Go.Proofs.Ytiepeiconkjmeaa

namespace Go.Proofs.Ytiepeiconkjmeaa
open Go Go.Am
structure Mg where
 k : Int
 n0 : Int
 n1 : Int
 n2 : Int
 n3 : Int
 n4 : Int
 n5 : Int
 p : List (Int × Int)
 c : List Int
 t : ByteArray
 g : ByteArray
 deriving DecidableEq
def encP (x : Int × Int) : List AVal := [.int .i64 x.1, .int .i64 x.2]
theorem encP_len (x : Int × Int) : (encP x).length = 2 := rfl
theorem closeds_encP {L : Nat} (x : Int × Int) : closeds L (encP x) := ⟨trivial, trivial, trivial⟩
def encM (m : Mg) : List AVal := [.int .i64 m.k, .int .i64 m.n0, .int .i64 m.n1, .int .i64 m.n2, .int .i64 m.n3, .int .i64 m.n4, .int .i64 m.n5, recs encP false m.p, ints false m.c, .str m.t, .str m.g]
theorem closed_pts {L : Nat} (t : Bool) (l : List (Int × Int)) : closed L (recs encP t l) := closed_recs t l fun x _ => closeds_encP x
theorem closeds_encM {L : Nat} (m : Mg) : closeds L (encM m) := ⟨trivial, trivial, trivial, trivial, trivial, trivial, trivial, closed_pts _ _, closed_ints _ _, trivial, trivial, trivial⟩
def mg0 : Mg := ⟨0, 0, 0, 0, 0, 0, 0, [], [], ⟨#[]⟩, ⟨#[]⟩⟩
structure Mg.small (m : Mg) : Prop where
 p : m.p.length ≤ 1000
 c : m.c.length ≤ 1000
abbrev eqIC : Ctx := ⟨F.slices_Equal_int_int, 26, [.tmp 4], none⟩
theorem take_step {α : Type} [Inhabited α] {xs ys : List α} {i : Nat} (h1 : i < xs.length) (h2 : i < ys.length) (h : xs.take i = ys.take i) (h3 : xs.getD i default = ys.getD i default) : xs.take (i + 1) = ys.take (i + 1) := by
 rw [List.take_add_one, List.take_add_one, h, List.getElem?_eq_getElem h1, List.getElem?_eq_getElem h2]
 simp [h1, h2] at h3
 simp [h3]
theorem take_ne {α : Type} [Inhabited α] {xs ys : List α} {i : Nat} (h3 : xs.getD i default ≠ ys.getD i default) : xs ≠ ys := by
 intro h; subst h; exact h3 rfl
theorem eqI_loop {xs ys : List Int} (hl : xs.length = ys.length) (hb : xs.length ≤ 9223372036854775807) {t1 t2 : Bool} (K : List AItem) (H : AHeap) (Q : AVal → AHeap → Prop) (hK : xs = ys → ∀ r, Run Try.prog eqIC K r H Q) (hR : xs ≠ ys → Q (.bool false) H) :
  ∀ (m i : Nat), xs.length - i = m → i ≤ xs.length → xs.take i = ys.take i →
  Rounds Try.prog eqIC slices_Equal_int_int.b1 [.inBlock 0] K [(0, ints t1 xs), (1, ints t2 ys), (12, .int .i64 (xs.length : Nat)), (13, .int .i64 (i : Nat))] H Q
 | m, i, h1, h2, h3 => by
  refine loop_V 100 slices_Equal_int_int.b1.eq_1 ?_
  by_cases hi : i < xs.length
  ·by_cases he : xs.getD i 0 = ys.getD i 0
   ·simp (disch := first | omega | (simp only [lnx]; omega)) only [stdh, stdx, ↓reduceIte, seval, slices_Equal_int_int.d0, he]
    rw [show (i : Int) + 1 = ((i + 1 : Nat) : Int) by omega]
    exact eqI_loop hl hb K H Q hK hR _ (i + 1) rfl (by omega) (take_step hi (by omega) h3 he)
   ·simp (disch := first | omega | (simp only [lnx]; omega)) only [stdh, stdx, ↓reduceIte, seval, slices_Equal_int_int.d0, he]
    exact hR (take_ne he)
  ·simp (disch := first | omega | (simp only [lnx]; omega)) only [stdh, stdx, ↓reduceIte, seval]
   refine hK ?_ _
   rw [List.take_of_length_le (by omega), List.take_of_length_le (by omega)] at h3
   exact h3
 termination_by m => m
theorem eqI_ok (H : AHeap) (xs ys : List Int) {t1 t2 : Bool} (hx : xs.length ≤ 9223372036854775807) (Q : AVal → AHeap → Prop) (h : Q (.bool (decide (xs = ys))) H) : FunOK Try.prog F.slices_Equal_int_int [ints t1 xs, ints t2 ys] H Q := by
 refine fun_V 100 slices_Equal_int_int_code rfl ?_
 by_cases hl : xs.length = ys.length
 ·have hl' : (xs.length : Int) = (ys.length : Int) := by omega
  simp (disch := first | omega | (simp only [lnx]; omega)) only [stdh, stdx, ↓reduceIte, seval, slices_Equal_int_int, slices_Equal_int_int.body, hl']
  rw [← hl']
  refine eqI_loop hl hx _ H Q ?_ ?_ _ 0 rfl (by omega) rfl
  ·intro he r
   refine run_V0 40 ?_
   rw [decide_eq_true he] at h
   simp (disch := first | omega | (simp only [lnx]; omega)) only [stdh, stdx, ↓reduceIte, seval]
   exact h
  ·intro he
   rw [decide_eq_false he] at h
   exact h
 ·have hl' : ¬ (xs.length : Int) = (ys.length : Int) := by omega
  simp (disch := first | omega | (simp only [lnx]; omega)) only [stdh, stdx, ↓reduceIte, seval, slices_Equal_int_int, slices_Equal_int_int.body, hl']
  rw [decide_eq_false (fun he => hl (by rw [he]))] at h
  exact h
abbrev eqPC : Ctx := ⟨F.slices_Equal_msg_Point_msg_Point, 26, [.tmp 4], none⟩
theorem eqP_loop {xs ys : List (Int × Int)} (hl : xs.length = ys.length) (hb : xs.length ≤ 9223372036854775807) {t1 t2 : Bool} (K : List AItem) (H : AHeap) (Q : AVal → AHeap → Prop) (hK : xs = ys → ∀ r, Run Try.prog eqPC K r H Q) (hR : xs ≠ ys → Q (.bool false) H) :
  ∀ (m i : Nat), xs.length - i = m → i ≤ xs.length → xs.take i = ys.take i →
  Rounds Try.prog eqPC slices_Equal_msg_Point_msg_Point.b1 [.inBlock 0] K [(0, recs encP t1 xs), (1, recs encP t2 ys), (12, .int .i64 (xs.length : Nat)), (13, .int .i64 (i : Nat))] H Q
 | m, i, h1, h2, h3 => by
  refine loop_V 100 slices_Equal_msg_Point_msg_Point.b1.eq_1 ?_
  by_cases hi : i < xs.length
  ·have g1 : loadA H (some 2) (.sptr (recs encP t1 xs) (i * 2)) = some (True, .agg (encP (xs.getD i default))) := load_recs encP_len hi
   have g2 : loadA H (some 2) (.sptr (recs encP t2 ys) (i * 2)) = some (True, .agg (encP (ys.getD i default))) := load_recs encP_len (by omega)
   have hs := fun he => take_step (xs := xs) (ys := ys) hi (by omega) h3 he
   have hn := take_ne (xs := xs) (ys := ys) (i := i)
   generalize xs.getD i default = x at *
   generalize ys.getD i default = y at *
   obtain ⟨x1, x2⟩ := x
   obtain ⟨y1, y2⟩ := y
   by_cases he : x1 = y1
   ·by_cases he2 : x2 = y2
    ·subst he; subst he2
     simp (disch := first | omega | (simp only [lnx]; omega)) only [stdh, stdx, ↓reduceIte, seval, slices_Equal_msg_Point_msg_Point.d0, g1, g2, encP]
     rw [show (i : Int) + 1 = ((i + 1 : Nat) : Int) by omega]
     exact eqP_loop hl hb K H Q hK hR _ (i + 1) rfl (by omega) (hs rfl)
    ·simp (disch := first | omega | (simp only [lnx]; omega)) only [stdh, stdx, ↓reduceIte, seval, slices_Equal_msg_Point_msg_Point.d0, g1, g2, encP, he2]
     exact hR (hn fun hh => he2 (by cases hh; rfl))
   ·simp (disch := first | omega | (simp only [lnx]; omega)) only [stdh, stdx, ↓reduceIte, seval, slices_Equal_msg_Point_msg_Point.d0, g1, g2, encP, he]
    exact hR (hn fun hh => he (by cases hh; rfl))
  ·simp (disch := first | omega | (simp only [lnx]; omega)) only [stdh, stdx, ↓reduceIte, seval]
   refine hK ?_ _
   rw [List.take_of_length_le (by omega), List.take_of_length_le (by omega)] at h3
   exact h3
 termination_by m => m
theorem eqP_ok (H : AHeap) (xs ys : List (Int × Int)) {t1 t2 : Bool} (hx : xs.length ≤ 9223372036854775807) (Q : AVal → AHeap → Prop) (h : Q (.bool (decide (xs = ys))) H) : FunOK Try.prog F.slices_Equal_msg_Point_msg_Point [recs encP t1 xs, recs encP t2 ys] H Q := by
 refine fun_V 100 slices_Equal_msg_Point_msg_Point_code rfl ?_
 by_cases hl : xs.length = ys.length
 ·have hl' : (xs.length : Int) = (ys.length : Int) := by omega
  simp (disch := first | omega | (simp only [lnx]; omega)) only [stdh, stdx, ↓reduceIte, seval, slices_Equal_msg_Point_msg_Point, slices_Equal_msg_Point_msg_Point.body, hl']
  rw [← hl']
  refine eqP_loop hl hx _ H Q ?_ ?_ _ 0 rfl (by omega) rfl
  ·intro he r
   refine run_V0 40 ?_
   rw [decide_eq_true he] at h
   simp (disch := first | omega | (simp only [lnx]; omega)) only [stdh, stdx, ↓reduceIte, seval]
   exact h
  ·intro he
   rw [decide_eq_false he] at h
   exact h
 ·have hl' : ¬ (xs.length : Int) = (ys.length : Int) := by omega
  simp (disch := first | omega | (simp only [lnx]; omega)) only [stdh, stdx, ↓reduceIte, seval, slices_Equal_msg_Point_msg_Point, slices_Equal_msg_Point_msg_Point.body, hl']
  rw [decide_eq_false (fun he => hl (by rw [he]))] at h
  exact h
structure Fld where
 name : ByteArray
 sort : Int
 place : Int
 least : Int
 most : Int
 since : Int
 absent : Int
 deriving DecidableEq
def fld0 : Fld := ⟨⟨#[]⟩, 0, 0, 0, 0, 0, 0⟩
instance : Inhabited Fld := ⟨fld0⟩
def encF (f : Fld) : List AVal := [.str f.name, .int .i64 f.sort, .int .i64 f.place, .int .i64 f.least, .int .i64 f.most, .int .i64 f.since, .int .i64 f.absent]
theorem encF_len (f : Fld) : (encF f).length = 7 := rfl
abbrev fRobot : Fld := ⟨⟨#[114, 111, 98, 111, 116]⟩, 1, 0, 0, 65535, 1, 0⟩
def fieldsOf (k : Int) : List Fld :=
 if k = 1 then [fRobot, ⟨⟨#[115, 112, 101, 101, 100]⟩, 1, 1, 1, 5000, 1, 0⟩, ⟨⟨#[97, 99, 99, 101, 108]⟩, 1, 2, 1, 10000, 2, 500⟩, ⟨⟨#[112, 97, 116, 104]⟩, 3, -1, 1, 16, 1, 0⟩, ⟨⟨#[116, 97, 103]⟩, 6, -1, 0, 16, 2, 0⟩]
 else if k = 2 then [fRobot, ⟨⟨#[114, 101, 97, 115, 111, 110]⟩, 1, 1, 0, 15, 1, 0⟩, ⟨⟨#[122, 111, 110, 101]⟩, 1, 2, 0, 4095, 2, 0⟩]
 else if k = 3 then [fRobot, ⟨⟨#[122, 111, 110, 101]⟩, 1, 1, 0, 4095, 1, 0⟩, ⟨⟨#[108, 101, 97, 115, 101]⟩, 1, 2, 1, 255, 2, 1⟩, ⟨⟨#[99, 101, 108, 108, 115]⟩, 4, -1, 1, 32, 1, 0⟩]
 else if k = 4 then [fRobot, ⟨⟨#[120]⟩, 2, 1, -1000000, 1000000, 1, 0⟩, ⟨⟨#[121]⟩, 2, 2, -1000000, 1000000, 1, 0⟩, ⟨⟨#[104, 101, 97, 100, 105, 110, 103]⟩, 1, 3, 0, 35999, 1, 0⟩, ⟨⟨#[98, 97, 116, 116, 101, 114, 121]⟩, 1, 4, 0, 1000, 1, 0⟩, ⟨⟨#[115, 117, 114, 101]⟩, 1, 5, 0, 100, 2, 100⟩]
 else if k = 5 then [fRobot, ⟨⟨#[99, 111, 100, 101]⟩, 1, 1, 1, 9999, 1, 0⟩, ⟨⟨#[115, 101, 118, 101, 114, 105, 116, 121]⟩, 1, 2, 0, 4, 1, 0⟩, ⟨⟨#[112, 97, 114, 116]⟩, 1, 3, 0, 255, 2, 0⟩, ⟨⟨#[116, 105, 109, 101, 115]⟩, 1, 4, 1, 1000000, 2, 1⟩, ⟨⟨#[116, 101, 120, 116]⟩, 5, -1, 0, 64, 1, 0⟩]
 else []
theorem of_ok (H : AHeap) (k : Int) (Q : AVal → AHeap → Prop) (h : Q (recs encF false (fieldsOf k)) H) : FunOK Try.prog F.field_Of [.int .i64 k] H Q := by
 by_cases h1 : k = 1
 ·subst h1; exact fun_reckI codes_ok 10000 _ (by kernel_rfl) rfl H Q h
 by_cases h2 : k = 2
 ·subst h2; exact fun_reckI codes_ok 10000 _ (by kernel_rfl) rfl H Q h
 by_cases h3 : k = 3
 ·subst h3; exact fun_reckI codes_ok 10000 _ (by kernel_rfl) rfl H Q h
 by_cases h4 : k = 4
 ·subst h4; exact fun_reckI codes_ok 10000 _ (by kernel_rfl) rfl H Q h
 by_cases h5 : k = 5
 ·subst h5; exact fun_reckI codes_ok 10000 _ (by kernel_rfl) rfl H Q h
 refine fun_iced field_Of_code fun _ => ?_
 refine fun_V 200 field_Of_code rfl ?_
 simp (disch := first | omega | (simp only [lnx]; omega)) only [stdh, stdx, ↓reduceIte, seval, field_Of, field_Of.body, h1, h2, h3, h4, h5]
 have : fieldsOf k = [] := by simp [fieldsOf, h1, h2, h3, h4, h5]
 rw [this] at h
 exact ice_nils (Keeps.refl _) h
def Mg.fits (m : Mg) : Prop := m.p.length ≤ 9223372036854775807 ∧ m.c.length ≤ 9223372036854775807
set_option maxHeartbeats 2000000 in
theorem same_ok (H : AHeap) (a b : Mg) (ha : a.fits) (Q : AVal → AHeap → Prop) (h : Q (.bool (decide (a = b))) H) : FunOK Try.prog F.msg_Same [.agg (encM a), .agg (encM b)] H Q := by
 refine fun_iced msg_Same_code fun _ => ?_
 refine fun_V 60 msg_Same_code rfl ?_
 obtain ⟨ak, a0, a1, a2, a3, a4, a5, ap, ac, at', ag⟩ := a
 obtain ⟨bk, b0, b1, b2, b3, b4, b5, bp, bc, bt, bg⟩ := b
 obtain ⟨hp, hc⟩ := ha
 simp only at hp hc
 have hne : ∀ (P : Prop), ¬ (⟨ak, a0, a1, a2, a3, a4, a5, ap, ac, at', ag⟩ : Mg) = ⟨bk, b0, b1, b2, b3, b4, b5, bp, bc, bt, bg⟩ → Q (.bool false) H := fun _ hn => by rw [decide_eq_false hn] at h; exact h
 by_cases hk : ak = bk
 case neg =>
  simp (disch := first | omega | (simp only [lnx]; omega)) only [stdh, stdx, ↓reduceIte, seval, msg_Same, msg_Same.body, encM, hk]
  exact ice_none trivial (hne True fun hh => hk (by cases hh; rfl))
 by_cases h0 : a0 = b0
 case neg =>
  simp (disch := first | omega | (simp only [lnx]; omega)) only [stdh, stdx, ↓reduceIte, seval, msg_Same, msg_Same.body, encM, hk, h0]
  exact ice_none trivial (hne True fun hh => h0 (by cases hh; rfl))
 by_cases h1 : a1 = b1
 case neg =>
  simp (disch := first | omega | (simp only [lnx]; omega)) only [stdh, stdx, ↓reduceIte, seval, msg_Same, msg_Same.body, encM, hk, h0, h1]
  exact ice_none trivial (hne True fun hh => h1 (by cases hh; rfl))
 by_cases h2 : a2 = b2
 case neg =>
  simp (disch := first | omega | (simp only [lnx]; omega)) only [stdh, stdx, ↓reduceIte, seval, msg_Same, msg_Same.body, encM, hk, h0, h1, h2]
  exact ice_none trivial (hne True fun hh => h2 (by cases hh; rfl))
 by_cases h3 : a3 = b3
 case neg =>
  simp (disch := first | omega | (simp only [lnx]; omega)) only [stdh, stdx, ↓reduceIte, seval, msg_Same, msg_Same.body, encM, hk, h0, h1, h2, h3]
  exact ice_none trivial (hne True fun hh => h3 (by cases hh; rfl))
 by_cases h4 : a4 = b4
 case neg =>
  simp (disch := first | omega | (simp only [lnx]; omega)) only [stdh, stdx, ↓reduceIte, seval, msg_Same, msg_Same.body, encM, hk, h0, h1, h2, h3, h4]
  exact ice_none trivial (hne True fun hh => h4 (by cases hh; rfl))
 by_cases h5 : a5 = b5
 case neg =>
  simp (disch := first | omega | (simp only [lnx]; omega)) only [stdh, stdx, ↓reduceIte, seval, msg_Same, msg_Same.body, encM, hk, h0, h1, h2, h3, h4, h5]
  exact ice_none trivial (hne True fun hh => h5 (by cases hh; rfl))
 simp (disch := first | omega | (simp only [lnx]; omega)) only [stdh, stdx, ↓reduceIte, seval, msg_Same, msg_Same.body, encM, hk, h0, h1, h2, h3, h4, h5]
 refine callK_fn (eqP_ok _ _ _ hp _ ?_)
 refine runL_V 60 ?_
 by_cases h6 : ap = bp
 case neg =>
  simp (disch := first | omega | (simp only [lnx]; omega)) only [stdh, stdx, ↓reduceIte, seval, h6]
  exact ice_none trivial (hne True fun hh => h6 (by cases hh; rfl))
 simp (disch := first | omega | (simp only [lnx]; omega)) only [stdh, stdx, ↓reduceIte, seval, h6]
 refine callK_fn (eqI_ok _ _ _ hc _ ?_)
 refine runL_V 60 ?_
 by_cases h7 : ac = bc
 case neg =>
  simp (disch := first | omega | (simp only [lnx]; omega)) only [stdh, stdx, ↓reduceIte, seval, h7]
  exact ice_none trivial (hne True fun hh => h7 (by cases hh; rfl))
 by_cases h8 : at' = bt
 case neg =>
  simp (disch := first | omega | (simp only [lnx]; omega)) only [stdh, stdx, ↓reduceIte, seval, h7, h8]
  exact ice_none trivial (hne True fun hh => h8 (by cases hh; rfl))
 by_cases h9 : ag = bg
 case neg =>
  simp (disch := first | omega | (simp only [lnx]; omega)) only [stdh, stdx, ↓reduceIte, seval, h7, h8, h9]
  exact ice_none trivial (hne True fun hh => h9 (by cases hh; rfl))
 simp (disch := first | omega | (simp only [lnx]; omega)) only [stdh, stdx, ↓reduceIte, seval, h7, h8, h9]
 refine ice_none trivial ?_
 rw [decide_eq_true (by rw [hk, h0, h1, h2, h3, h4, h5, h6, h7, h8, h9])] at h
 exact h
def manyE (n : Nat) (f : Fld) : Int := if (n : Int) < f.least then 13 else if f.most < (n : Int) then 6 else 0
theorem many_ok (H : AHeap) (n : Nat) (f : Fld) (Q : AVal → AHeap → Prop) (h : Q (.int .i64 (manyE n f)) H) : FunOK Try.prog F.msg_many [.int .i64 (n : Nat), .agg (encF f)] H Q := by
 refine fun_iced msg_many_code fun _ => ?_
 refine fun_V 60 msg_many_code rfl ?_
 unfold manyE at h
 by_cases h1 : (n : Int) < f.least
 ·rw [if_pos h1] at h
  simp (disch := first | omega | (simp only [lnx]; omega)) only [stdh, stdx, ↓reduceIte, seval, msg_many, msg_many.body, encF, h1]
  exact ice_none trivial h
 ·rw [if_neg h1] at h
  by_cases h2 : f.most < (n : Int)
  ·rw [if_pos h2] at h
   simp (disch := first | omega | (simp only [lnx]; omega)) only [stdh, stdx, ↓reduceIte, seval, msg_many, msg_many.body, encF, h1, h2]
   exact ice_none trivial h
  ·rw [if_neg h2] at h
   simp (disch := first | omega | (simp only [lnx]; omega)) only [stdh, stdx, ↓reduceIte, seval, msg_many, msg_many.body, encF, h1, h2]
   exact ice_none trivial h
def farP (x : Int × Int) : Bool := decide (1000000 < x.1 ∨ 1000000 < x.2 ∨ x.1 < -1000000 ∨ x.2 < -1000000)
def pathE (l : List (Int × Int)) (f : Fld) : Int := if manyE l.length f ≠ 0 then manyE l.length f else if l.any farP then 5 else 0
abbrev pathC : Ctx := ⟨F.msg_path, 36, [.tmp 4], none⟩
theorem path_loop {l : List (Int × Int)} (hb : l.length ≤ 9223372036854775807) {t : Bool} (K : List AItem) (Q : AVal → AHeap → Prop) {H0 : AHeap} (hK : l.any farP = false → ∀ r H, Keeps H0 H → Run Try.prog pathC K r H (IceQ H0 Q)) (hR : l.any farP = true → Q (.int .i64 5) H0) :
  ∀ (m i : Nat) (H : AHeap), l.length - i = m → i ≤ l.length → l.any farP = (l.drop i).any farP → Keeps H0 H →
  Rounds Try.prog pathC msg_path.b0 [.inBlock 0] K [(15, recs encP t l), (16, .int .i64 (l.length : Nat)), (17, .int .i64 (i : Nat))] H (IceQ H0 Q)
 | m, i, H, h1, h2, h3, hk => by
  refine loop_V 100 msg_path.b0.eq_1 ?_
  by_cases hi : i < l.length
  ·have g1 : loadA H (some 2) (.sptr (recs encP t l) (i * 2)) = some (True, .agg (encP (l.getD i default))) := load_recs encP_len hi
   have hd : l.drop i = l.getD i default :: l.drop (i + 1) := by rw [List.drop_eq_getElem_cons hi]; simp [hi]
   rw [hd, List.any_cons] at h3
   generalize l.getD i default = x at *
   obtain ⟨x1, x2⟩ := x
   have e0 : ∀ y : Int, (if y > x1 then y else x1) = max x1 y := fun y => by omega
   by_cases hf : farP (x1, x2) = true
   ·rw [hf, Bool.true_or] at h3
    by_cases q1 : (1000000 : Int) < (if x1 < x2 then x2 else x1)
    ·simp (disch := first | omega | (simp only [lnx]; omega)) only [stdh, stdx, ↓reduceIte, seval, g1, encP, q1, gt_iff_lt]
     exact ice_keeps (hk.push _) trivial (hR h3)
    ·have q2 : (if x2 < x1 then x2 else x1) < (-1000000 : Int) := by
      have := of_decide_eq_true hf
      simp only at this
      repeat' split
      all_goals (split at q1 <;> omega)
     simp (disch := first | omega | (simp only [lnx]; omega)) only [stdh, stdx, ↓reduceIte, seval, g1, encP, q1, q2, gt_iff_lt]
     exact ice_keeps (hk.push _) trivial (hR h3)
   ·have hf' : farP (x1, x2) = false := by simpa using hf
    rw [hf', Bool.false_or] at h3
    have hf2 := of_decide_eq_false hf'
    simp only at hf2
    have q1 : ¬ (1000000 : Int) < (if x1 < x2 then x2 else x1) := by split <;> omega
    have q2 : ¬ (if x2 < x1 then x2 else x1) < (-1000000 : Int) := by split <;> omega
    simp (disch := first | omega | (simp only [lnx]; omega)) only [stdh, stdx, ↓reduceIte, seval, g1, encP, q1, q2, gt_iff_lt]
    rw [show (i : Int) + 1 = ((i + 1 : Nat) : Int) by omega]
    exact path_loop hb K Q hK hR _ (i + 1) _ rfl (by omega) h3 (hk.push _)
  ·simp (disch := first | omega | (simp only [lnx]; omega)) only [stdh, stdx, ↓reduceIte, seval]
   rw [List.drop_eq_nil_of_le (by omega : l.length ≤ i)] at h3
   exact hK h3 _ _ hk
 termination_by m => m
theorem path_ok (H : AHeap) (l : List (Int × Int)) (f : Fld) {t : Bool} (hb : l.length ≤ 9223372036854775807) (Q : AVal → AHeap → Prop) (h : Q (.int .i64 (pathE l f)) H) : FunOK Try.prog F.msg_path [recs encP t l, .agg (encF f)] H Q := by
 refine fun_iced msg_path_code fun _ => ?_
 refine fun_V 60 msg_path_code rfl ?_
 simp (disch := first | omega | (simp only [lnx]; omega)) only [stdh, stdx, ↓reduceIte, seval, msg_path, msg_path.body, encF]
 refine callK_fn (many_ok _ _ f _ ?_)
 refine runL_V 60 ?_
 unfold pathE at h
 by_cases h1 : manyE l.length f = 0
 ·rw [if_neg (by simpa using h1)] at h
  simp (disch := first | omega | (simp only [lnx]; omega)) only [stdh, stdx, ↓reduceIte, seval, h1]
  refine path_loop hb _ Q ?_ ?_ _ 0 _ rfl (by omega) rfl (keeps_append _ _)
  ·intro ha r H' hk
   refine run_V0 40 ?_
   rw [ha] at h
   simp (disch := first | omega | (simp only [lnx]; omega)) only [stdh, stdx, ↓reduceIte, seval]
   exact ice_keeps hk trivial (by simpa using h)
  ·intro ha
   rw [ha] at h
   simpa using h
 ·rw [if_pos (by simpa using h1)] at h
  simp (disch := first | omega | (simp only [lnx]; omega)) only [stdh, stdx, ↓reduceIte, seval, h1]
  exact ice_none trivial h
def cellsGo : Int → List Int → Int
 | _, [] => 0
 | last, c :: l => if c < 0 ∨ 65535 < c then 5 else if c ≤ last then 3 else cellsGo c l
def cellsE (l : List Int) (f : Fld) : Int := if manyE l.length f ≠ 0 then manyE l.length f else cellsGo (-1) l
abbrev cellsC : Ctx := ⟨F.msg_cells, 35, [.tmp 4], none⟩
theorem cells_loop {l : List Int} (hb : l.length ≤ 9223372036854775807) {t : Bool} (K : List AItem) (H : AHeap) (Q : AVal → AHeap → Prop) (hK : cellsGo (-1) l = 0 → ∀ r, Run Try.prog cellsC K r H Q) (hR : Q (.int .i64 (cellsGo (-1) l)) H) :
  ∀ (m i : Nat) (last : Int), l.length - i = m → i ≤ l.length → cellsGo (-1) l = cellsGo last (l.drop i) →
  Rounds Try.prog cellsC msg_cells.b0 [.inBlock 0] K [(6, .int .i64 last), (16, ints t l), (17, .int .i64 (l.length : Nat)), (18, .int .i64 (i : Nat))] H Q
 | m, i, last, h1, h2, h3 => by
  refine loop_V 100 msg_cells.b0.eq_1 ?_
  by_cases hi : i < l.length
  ·have hd : l.drop i = l.getD i 0 :: l.drop (i + 1) := by rw [List.drop_eq_getElem_cons hi]; simp [hi]
   rw [hd, cellsGo] at h3
   by_cases q1 : l.getD i 0 < 0
   ·rw [if_pos (.inl q1)] at h3
    rw [h3] at hR
    simp (disch := first | omega | (simp only [lnx]; omega)) only [stdh, stdx, ↓reduceIte, seval, q1]
    exact hR
   by_cases q2 : (65535 : Int) < l.getD i 0
   ·rw [if_pos (.inr q2)] at h3
    rw [h3] at hR
    simp (disch := first | omega | (simp only [lnx]; omega)) only [stdh, stdx, ↓reduceIte, seval, q1, q2]
    exact hR
   rw [if_neg (by omega)] at h3
   by_cases q3 : l.getD i 0 ≤ last
   ·rw [if_pos q3] at h3
    rw [h3] at hR
    simp (disch := first | omega | (simp only [lnx]; omega)) only [stdh, stdx, ↓reduceIte, seval, q1, q2, q3]
    exact hR
   ·rw [if_neg q3] at h3
    simp (disch := first | omega | (simp only [lnx]; omega)) only [stdh, stdx, ↓reduceIte, seval, q1, q2, q3]
    rw [show (i : Int) + 1 = ((i + 1 : Nat) : Int) by omega]
    exact cells_loop hb K H Q hK hR _ (i + 1) _ rfl (by omega) h3
  ·simp (disch := first | omega | (simp only [lnx]; omega)) only [stdh, stdx, ↓reduceIte, seval]
   rw [List.drop_eq_nil_of_le (by omega : l.length ≤ i), cellsGo] at h3
   exact hK h3 _
 termination_by m => m
theorem cells_ok (H : AHeap) (l : List Int) (f : Fld) {t : Bool} (hb : l.length ≤ 9223372036854775807) (Q : AVal → AHeap → Prop) (h : Q (.int .i64 (cellsE l f)) H) : FunOK Try.prog F.msg_cells [ints t l, .agg (encF f)] H Q := by
 refine fun_iced msg_cells_code fun _ => ?_
 refine fun_V 60 msg_cells_code rfl ?_
 simp (disch := first | omega | (simp only [lnx]; omega)) only [stdh, stdx, ↓reduceIte, seval, msg_cells, msg_cells.body, encF]
 refine callK_fn (many_ok _ _ f _ ?_)
 refine runL_V 60 ?_
 unfold cellsE at h
 by_cases h1 : manyE l.length f = 0
 ·rw [if_neg (by simpa using h1)] at h
  simp (disch := first | omega | (simp only [lnx]; omega)) only [stdh, stdx, ↓reduceIte, seval, h1]
  refine cells_loop hb _ _ _ ?_ ?_ _ 0 _ rfl (by omega) rfl
  ·intro ha r
   refine run_V0 40 ?_
   rw [ha] at h
   simp (disch := first | omega | (simp only [lnx]; omega)) only [stdh, stdx, ↓reduceIte, seval]
   exact ice_none trivial h
  ·exact ice_none trivial h
 ·rw [if_pos (by simpa using h1)] at h
  simp (disch := first | omega | (simp only [lnx]; omega)) only [stdh, stdx, ↓reduceIte, seval, h1]
  exact ice_none trivial h
def badB (n : Nat) : Bool := decide (n < 32 ∨ 126 < n)
def textE (s : ByteArray) (f : Fld) : Int := if manyE s.size f ≠ 0 then manyE s.size f else if (bytesOf s).any badB then 19 else 0
theorem bytesOf_len (s : ByteArray) : (bytesOf s).length = s.size := by simp [bytesOf]
abbrev textC : Ctx := ⟨F.msg_text, 29, [.tmp 4], none⟩
theorem text_loop {l : List Nat} (hb : l.length ≤ 9223372036854775807) {t : Bool} (K : List AItem) (H : AHeap) (Q : AVal → AHeap → Prop) (hK : l.any badB = false → ∀ r, Run Try.prog textC K r H Q) (hR : l.any badB = true → Q (.int .i64 19) H) :
  ∀ (m i : Nat), l.length - i = m → i ≤ l.length → l.any badB = (l.drop i).any badB →
  Rounds Try.prog textC msg_text.b0 [.inBlock 0] K [(16, nums .u8 t l), (17, .int .i64 (l.length : Nat)), (18, .int .i64 (i : Nat))] H Q
 | m, i, h1, h2, h3 => by
  refine loop_V 100 msg_text.b0.eq_1 ?_
  by_cases hi : i < l.length
  ·have hd : l.drop i = l.getD i 0 :: l.drop (i + 1) := by rw [List.drop_eq_getElem_cons hi]; simp [hi]
   rw [hd, List.any_cons] at h3
   by_cases q1 : ((l.getD i 0 : Nat) : Int) < 32
   ·rw [show badB (l.getD i 0) = true from decide_eq_true (.inl (by omega)), Bool.true_or] at h3
    simp (disch := first | omega | (simp only [lnx]; omega)) only [stdh, stdx, ↓reduceIte, seval, q1]
    exact hR h3
   by_cases q2 : (126 : Int) < ((l.getD i 0 : Nat) : Int)
   ·rw [show badB (l.getD i 0) = true from decide_eq_true (.inr (by omega)), Bool.true_or] at h3
    simp (disch := first | omega | (simp only [lnx]; omega)) only [stdh, stdx, ↓reduceIte, seval, q1, q2]
    exact hR h3
   rw [show badB (l.getD i 0) = false from decide_eq_false (by omega), Bool.false_or] at h3
   simp (disch := first | omega | (simp only [lnx]; omega)) only [stdh, stdx, ↓reduceIte, seval, q1, q2]
   rw [show (i : Int) + 1 = ((i + 1 : Nat) : Int) by omega]
   exact text_loop hb K H Q hK hR _ (i + 1) rfl (by omega) h3
  ·simp (disch := first | omega | (simp only [lnx]; omega)) only [stdh, stdx, ↓reduceIte, seval]
   rw [List.drop_eq_nil_of_le (by omega : l.length ≤ i)] at h3
   exact hK h3 _
 termination_by m => m
theorem text_ok (H : AHeap) (s : ByteArray) (f : Fld) (hb : s.size ≤ 9223372036854775807) (Q : AVal → AHeap → Prop) (h : Q (.int .i64 (textE s f)) H) : FunOK Try.prog F.msg_text [.str s, .agg (encF f)] H Q := by
 refine fun_iced msg_text_code fun _ => ?_
 refine fun_V 60 msg_text_code rfl ?_
 simp (disch := first | omega | (simp only [lnx]; omega)) only [stdh, stdx, ↓reduceIte, seval, msg_text, msg_text.body, encF]
 refine callK_fn (many_ok _ _ f _ ?_)
 refine runL_V 60 ?_
 unfold textE at h
 by_cases h1 : manyE s.size f = 0
 ·rw [if_neg (by simpa using h1)] at h
  simp (disch := first | omega | (simp only [lnx]; omega)) only [stdh, stdx, ↓reduceIte, seval, h1]
  refine text_loop (by rw [bytesOf_len]; exact hb) _ _ _ ?_ ?_ _ 0 rfl (by omega) rfl
  ·intro ha r
   refine run_V0 40 ?_
   rw [ha] at h
   simp (disch := first | omega | (simp only [lnx]; omega)) only [stdh, stdx, ↓reduceIte, seval]
   exact ice_none trivial (by simpa using h)
  ·intro ha
   rw [ha] at h
   exact ice_none trivial (by simpa using h)
 ·rw [if_pos (by simpa using h1)] at h
  simp (disch := first | omega | (simp only [lnx]; omega)) only [stdh, stdx, ↓reduceIte, seval, h1]
  exact ice_none trivial h
def Mg.num (m : Mg) (j : Int) : Int := if j = 0 then m.n0 else if j = 1 then m.n1 else if j = 2 then m.n2 else if j = 3 then m.n3 else if j = 4 then m.n4 else m.n5
def Mg.put (m : Mg) (j v : Int) : Mg := if j = 0 then { m with n0 := v } else if j = 1 then { m with n1 := v } else if j = 2 then { m with n2 := v } else if j = 3 then { m with n3 := v } else if j = 4 then { m with n4 := v } else { m with n5 := v }
def Fld.ok (f : Fld) : Prop := f.sort = 3 ∨ f.sort = 4 ∨ f.sort = 5 ∨ f.sort = 6 ∨ f.place = 0 ∨ f.place = 1 ∨ f.place = 2 ∨ f.place = 3 ∨ f.place = 4 ∨ f.place = 5
instance (f : Fld) : Decidable f.ok := by unfold Fld.ok; infer_instance
theorem fieldsOf_ok {k : Int} : ∀ f ∈ fieldsOf k, f.ok := by
 unfold fieldsOf
 split
 ·decide +kernel
 split
 ·decide +kernel
 split
 ·decide +kernel
 split
 ·decide +kernel
 split
 ·decide +kernel
 ·simp
def Mg.fine (m : Mg) : Prop := m.p.length ≤ 9223372036854775807 ∧ m.c.length ≤ 9223372036854775807 ∧ m.t.size ≤ 9223372036854775807 ∧ m.g.size ≤ 9223372036854775807
def wrongE (m : Mg) (f : Fld) : Int :=
 if f.sort = 3 then pathE m.p f else if f.sort = 4 then cellsE m.c f else if f.sort = 5 then textE m.t f else if f.sort = 6 then textE m.g f
 else if m.num f.place < f.least ∨ f.most < m.num f.place then 5 else 0
def withoutM (m : Mg) (f : Fld) : Mg :=
 if f.sort = 3 then { m with p := [] } else if f.sort = 4 then { m with c := [] } else if f.sort = 5 then { m with t := ⟨#[]⟩ } else if f.sort = 6 then { m with g := ⟨#[]⟩ }
 else m.put f.place 0
theorem ice_sees {H L : AHeap} {Q : AVal → AHeap → Prop} {av av' : AVal} (ha : closed H.length av) (hs : Sees av av') (hq : Q av' H) : IceQ H Q av (H ++ L) :=
 ⟨keeps_append _ _, [], av', by simp, by rw [mv_id (L := H.length) (fun n h => toF_low h) av ha]; exact hs, hq⟩
set_option maxHeartbeats 2000000 in
theorem wrong_ok (H : AHeap) (m : Mg) (f : Fld) (hf : f.ok) (hm : m.fine) (Q : AVal → AHeap → Prop) (h : Q (.int .i64 (wrongE m f)) H) : FunOK Try.prog F.msg_wrong [.agg (encM m), .agg (encF f)] H Q := by
 refine fun_iced msg_wrong_code fun _ => ?_
 refine fun_V 100 msg_wrong_code rfl ?_
 obtain ⟨hp, hc, ht, hg⟩ := hm
 unfold wrongE at h
 by_cases s3 : f.sort = 3
 ·rw [if_pos s3] at h
  simp (disch := first | omega | (simp only [lnx]; omega)) only [stdh, stdx, ↓reduceIte, seval, msg_wrong, msg_wrong.body, encF, encM, s3]
  rw [← s3]
  refine callK_fn (path_ok _ _ f hp _ ?_)
  refine runL_V 60 ?_
  simp (disch := first | omega | (simp only [lnx]; omega)) only [stdh, stdx, ↓reduceIte, seval]
  exact ice_none trivial h
 rw [if_neg s3] at h
 by_cases s4 : f.sort = 4
 ·rw [if_pos s4] at h
  simp (disch := first | omega | (simp only [lnx]; omega)) only [stdh, stdx, ↓reduceIte, seval, msg_wrong, msg_wrong.body, encF, encM, s4]
  rw [← s4]
  refine callK_fn (cells_ok _ _ f hc _ ?_)
  refine runL_V 60 ?_
  simp (disch := first | omega | (simp only [lnx]; omega)) only [stdh, stdx, ↓reduceIte, seval]
  exact ice_none trivial h
 rw [if_neg s4] at h
 by_cases s5 : f.sort = 5
 ·rw [if_pos s5] at h
  simp (disch := first | omega | (simp only [lnx]; omega)) only [stdh, stdx, ↓reduceIte, seval, msg_wrong, msg_wrong.body, encF, encM, s5]
  rw [← s5]
  refine callK_fn (text_ok _ _ f ht _ ?_)
  refine runL_V 60 ?_
  simp (disch := first | omega | (simp only [lnx]; omega)) only [stdh, stdx, ↓reduceIte, seval]
  exact ice_none trivial h
 rw [if_neg s5] at h
 by_cases s6 : f.sort = 6
 ·rw [if_pos s6] at h
  simp (disch := first | omega | (simp only [lnx]; omega)) only [stdh, stdx, ↓reduceIte, seval, msg_wrong, msg_wrong.body, encF, encM, s6]
  rw [← s6]
  refine callK_fn (text_ok _ _ f hg _ ?_)
  refine runL_V 60 ?_
  simp (disch := first | omega | (simp only [lnx]; omega)) only [stdh, stdx, ↓reduceIte, seval]
  exact ice_none trivial h
 rw [if_neg s6] at h
 have hq : ∀ x, x = m.num f.place → (x < f.least ∨ f.most < x → Q (.int .i64 5) H) ∧ (¬ (x < f.least ∨ f.most < x) → Q (.int .i64 0) H) := by
  rintro x rfl
  exact ⟨fun hh => by rw [if_pos hh] at h; exact h, fun hh => by rw [if_neg hh] at h; exact h⟩
 rcases hf with h3 | h3 | h3 | h3 | h3 | h3 | h3 | h3 | h3 | h3
 ·exact absurd h3 s3
 ·exact absurd h3 s4
 ·exact absurd h3 s5
 ·exact absurd h3 s6
 ·obtain ⟨hq1, hq2⟩ := hq _ rfl
  simp only [h3, Mg.num, if_true, Int.reduceEq, if_false] at hq1 hq2
  by_cases q1 : m.n0 < f.least
  ·simp (disch := first | omega | (simp only [lnx]; omega)) only [stdh, stdx, ↓reduceIte, seval, msg_wrong, msg_wrong.body, encF, encM, s3, s4, s5, s6, h3, q1]
   exact ice_none trivial (hq1 (.inl q1))
  by_cases q2 : f.most < m.n0
  ·simp (disch := first | omega | (simp only [lnx]; omega)) only [stdh, stdx, ↓reduceIte, seval, msg_wrong, msg_wrong.body, encF, encM, s3, s4, s5, s6, h3, q1, q2]
   exact ice_none trivial (hq1 (.inr q2))
  ·simp (disch := first | omega | (simp only [lnx]; omega)) only [stdh, stdx, ↓reduceIte, seval, msg_wrong, msg_wrong.body, encF, encM, s3, s4, s5, s6, h3, q1, q2]
   exact ice_none trivial (hq2 (by omega))
 ·obtain ⟨hq1, hq2⟩ := hq _ rfl
  simp only [h3, Mg.num, if_true, Int.reduceEq, if_false] at hq1 hq2
  by_cases q1 : m.n1 < f.least
  ·simp (disch := first | omega | (simp only [lnx]; omega)) only [stdh, stdx, ↓reduceIte, seval, msg_wrong, msg_wrong.body, encF, encM, s3, s4, s5, s6, h3, q1]
   exact ice_none trivial (hq1 (.inl q1))
  by_cases q2 : f.most < m.n1
  ·simp (disch := first | omega | (simp only [lnx]; omega)) only [stdh, stdx, ↓reduceIte, seval, msg_wrong, msg_wrong.body, encF, encM, s3, s4, s5, s6, h3, q1, q2]
   exact ice_none trivial (hq1 (.inr q2))
  ·simp (disch := first | omega | (simp only [lnx]; omega)) only [stdh, stdx, ↓reduceIte, seval, msg_wrong, msg_wrong.body, encF, encM, s3, s4, s5, s6, h3, q1, q2]
   exact ice_none trivial (hq2 (by omega))
 ·obtain ⟨hq1, hq2⟩ := hq _ rfl
  simp only [h3, Mg.num, if_true, Int.reduceEq, if_false] at hq1 hq2
  by_cases q1 : m.n2 < f.least
  ·simp (disch := first | omega | (simp only [lnx]; omega)) only [stdh, stdx, ↓reduceIte, seval, msg_wrong, msg_wrong.body, encF, encM, s3, s4, s5, s6, h3, q1]
   exact ice_none trivial (hq1 (.inl q1))
  by_cases q2 : f.most < m.n2
  ·simp (disch := first | omega | (simp only [lnx]; omega)) only [stdh, stdx, ↓reduceIte, seval, msg_wrong, msg_wrong.body, encF, encM, s3, s4, s5, s6, h3, q1, q2]
   exact ice_none trivial (hq1 (.inr q2))
  ·simp (disch := first | omega | (simp only [lnx]; omega)) only [stdh, stdx, ↓reduceIte, seval, msg_wrong, msg_wrong.body, encF, encM, s3, s4, s5, s6, h3, q1, q2]
   exact ice_none trivial (hq2 (by omega))
 ·obtain ⟨hq1, hq2⟩ := hq _ rfl
  simp only [h3, Mg.num, if_true, Int.reduceEq, if_false] at hq1 hq2
  by_cases q1 : m.n3 < f.least
  ·simp (disch := first | omega | (simp only [lnx]; omega)) only [stdh, stdx, ↓reduceIte, seval, msg_wrong, msg_wrong.body, encF, encM, s3, s4, s5, s6, h3, q1]
   exact ice_none trivial (hq1 (.inl q1))
  by_cases q2 : f.most < m.n3
  ·simp (disch := first | omega | (simp only [lnx]; omega)) only [stdh, stdx, ↓reduceIte, seval, msg_wrong, msg_wrong.body, encF, encM, s3, s4, s5, s6, h3, q1, q2]
   exact ice_none trivial (hq1 (.inr q2))
  ·simp (disch := first | omega | (simp only [lnx]; omega)) only [stdh, stdx, ↓reduceIte, seval, msg_wrong, msg_wrong.body, encF, encM, s3, s4, s5, s6, h3, q1, q2]
   exact ice_none trivial (hq2 (by omega))
 ·obtain ⟨hq1, hq2⟩ := hq _ rfl
  simp only [h3, Mg.num, if_true, Int.reduceEq, if_false] at hq1 hq2
  by_cases q1 : m.n4 < f.least
  ·simp (disch := first | omega | (simp only [lnx]; omega)) only [stdh, stdx, ↓reduceIte, seval, msg_wrong, msg_wrong.body, encF, encM, s3, s4, s5, s6, h3, q1]
   exact ice_none trivial (hq1 (.inl q1))
  by_cases q2 : f.most < m.n4
  ·simp (disch := first | omega | (simp only [lnx]; omega)) only [stdh, stdx, ↓reduceIte, seval, msg_wrong, msg_wrong.body, encF, encM, s3, s4, s5, s6, h3, q1, q2]
   exact ice_none trivial (hq1 (.inr q2))
  ·simp (disch := first | omega | (simp only [lnx]; omega)) only [stdh, stdx, ↓reduceIte, seval, msg_wrong, msg_wrong.body, encF, encM, s3, s4, s5, s6, h3, q1, q2]
   exact ice_none trivial (hq2 (by omega))
 ·obtain ⟨hq1, hq2⟩ := hq _ rfl
  simp only [h3, Mg.num, if_true, Int.reduceEq, if_false] at hq1 hq2
  by_cases q1 : m.n5 < f.least
  ·simp (disch := first | omega | (simp only [lnx]; omega)) only [stdh, stdx, ↓reduceIte, seval, msg_wrong, msg_wrong.body, encF, encM, s3, s4, s5, s6, h3, q1]
   exact ice_none trivial (hq1 (.inl q1))
  by_cases q2 : f.most < m.n5
  ·simp (disch := first | omega | (simp only [lnx]; omega)) only [stdh, stdx, ↓reduceIte, seval, msg_wrong, msg_wrong.body, encF, encM, s3, s4, s5, s6, h3, q1, q2]
   exact ice_none trivial (hq1 (.inr q2))
  ·simp (disch := first | omega | (simp only [lnx]; omega)) only [stdh, stdx, ↓reduceIte, seval, msg_wrong, msg_wrong.body, encF, encM, s3, s4, s5, s6, h3, q1, q2]
   exact ice_none trivial (hq2 (by omega))
set_option maxHeartbeats 2000000 in
theorem without_ok (H : AHeap) (m : Mg) (f : Fld) (hf : f.ok) (Q : AVal → AHeap → Prop) (h : Q (.agg (encM (withoutM m f))) H) : FunOK Try.prog F.msg_without [.agg (encM m), .agg (encF f)] H Q := by
 refine fun_iced msg_without_code fun hcl => ?_
 refine fun_V 60 msg_without_code rfl ?_
 unfold withoutM at h
 have hcm := closeds_encM (L := H.length) m
 by_cases s3 : f.sort = 3
 ·rw [if_pos s3] at h
  simp (disch := first | omega | (simp only [lnx]; omega)) only [stdh, stdx, ↓reduceIte, seval, msg_without, msg_without.body, encF, encM, s3]
  refine ice_sees (av' := .agg (encM { m with p := [] })) ?_ ?_ h
  ·exact ⟨trivial, trivial, trivial, trivial, trivial, trivial, trivial, trivial, closed_ints _ _, trivial, trivial, trivial⟩
  ·exact Sees.agg (.cons (.refl _) (.cons (.refl _) (.cons (.refl _) (.cons (.refl _) (.cons (.refl _) (.cons (.refl _) (.cons (.refl _) (.cons (.nils _) (.refl _)))))))))
 rw [if_neg s3] at h
 by_cases s4 : f.sort = 4
 ·rw [if_pos s4] at h
  simp (disch := first | omega | (simp only [lnx]; omega)) only [stdh, stdx, ↓reduceIte, seval, msg_without, msg_without.body, encF, encM, s4]
  refine ice_sees (av' := .agg (encM { m with c := [] })) ?_ ?_ h
  ·exact ⟨trivial, trivial, trivial, trivial, trivial, trivial, trivial, closed_pts _ _, trivial, trivial, trivial, trivial⟩
  ·exact Sees.agg (.cons (.refl _) (.cons (.refl _) (.cons (.refl _) (.cons (.refl _) (.cons (.refl _) (.cons (.refl _) (.cons (.refl _) (.cons (.refl _) (.cons (.nils _) (.refl _))))))))))
 rw [if_neg s4] at h
 by_cases s5 : f.sort = 5
 ·rw [if_pos s5] at h
  simp (disch := first | omega | (simp only [lnx]; omega)) only [stdh, stdx, ↓reduceIte, seval, msg_without, msg_without.body, encF, encM, s5]
  exact ice_none (closeds_encM { m with t := ⟨#[]⟩ }) h
 rw [if_neg s5] at h
 by_cases s6 : f.sort = 6
 ·rw [if_pos s6] at h
  simp (disch := first | omega | (simp only [lnx]; omega)) only [stdh, stdx, ↓reduceIte, seval, msg_without, msg_without.body, encF, encM, s6]
  exact ice_none (closeds_encM { m with g := ⟨#[]⟩ }) h
 rw [if_neg s6] at h
 rcases hf with h3 | h3 | h3 | h3 | h3 | h3 | h3 | h3 | h3 | h3
 ·exact absurd h3 s3
 ·exact absurd h3 s4
 ·exact absurd h3 s5
 ·exact absurd h3 s6
 all_goals
  simp only [h3, Mg.put, if_true, Int.reduceEq, if_false] at h
  simp (disch := first | omega | (simp only [lnx]; omega)) only [stdh, stdx, ↓reduceIte, seval, msg_without, msg_without.body, encF, encM, s3, s4, s5, s6, h3]
  exact ice_none (closeds_encM _) h
def Fld.ok2 (f : Fld) : Prop := f.ok ∧ (f.place = -1 ∨ f.place = 0 ∨ f.place = 1 ∨ f.place = 2 ∨ f.place = 3 ∨ f.place = 4 ∨ f.place = 5)
instance (f : Fld) : Decidable f.ok2 := by unfold Fld.ok2; infer_instance
theorem getD_mem {l : List Fld} {i : Nat} (h : i < l.length) : l.getD i fld0 ∈ l := by
 simp [h]
theorem drop_getF {l : List Fld} {i : Nat} (h : i < l.length) : l.drop i = l.getD i fld0 :: l.drop (i + 1) := by
 rw [List.drop_eq_getElem_cons h]; simp [h]
theorem fieldsOf_len (k : Int) : (fieldsOf k).length ≤ 6 := by
 unfold fieldsOf
 split
 ·simp
 split
 ·simp
 split
 ·simp
 split
 ·simp
 split <;> simp
def chkGo (m : Mg) : List Fld → Int → Mg → Int × Mg
 | [], e, left => (e, left)
 | f :: fs, e, left => if wrongE m f = 0 then chkGo m fs 0 (withoutM left f) else (wrongE m f, left)
def checkM (m : Mg) : Int :=
 if (chkGo m (fieldsOf m.k) 9 m).1 = 0 ∧ (chkGo m (fieldsOf m.k) 9 m).2 ≠ { mg0 with k := m.k } then 3 else (chkGo m (fieldsOf m.k) 9 m).1
theorem without_fits {m : Mg} (h : m.fits) (f : Fld) : (withoutM m f).fits := by
 obtain ⟨h1, h2⟩ := h
 unfold withoutM Mg.put
 repeat' split
 all_goals exact ⟨by first | exact h1 | simp, by first | exact h2 | simp⟩
theorem chkGo_fits {m : Mg} : ∀ (fs : List Fld) (e : Int) (left : Mg), left.fits → (chkGo m fs e left).2.fits
 | [], e, left, h => h
 | f :: fs, e, left, h => by
  unfold chkGo
  split
  ·exact chkGo_fits fs _ _ (without_fits h f)
  ·exact h
abbrev checkC : Ctx := ⟨F.msg_Check, 36, [.tmp 2], none⟩
set_option maxHeartbeats 1000000 in
theorem check_loop {m : Mg} {l : List Fld} (hlen : l.length ≤ 6) (hok : ∀ f ∈ l, f.ok) (hm : m.fine) (e0 : Int) (left0 : Mg) (K : List AItem) (Q : AVal → AHeap → Prop) {H0 : AHeap} {c : Nat} (hc : H0.length ≤ c)
  (hQ : ∀ H r, Keeps H0 H → H[c]? = some (.cells (encM m) T.msg_Msg) → H[c + 1]? = some (.cells (encM (chkGo m l e0 left0).2) T.msg_Msg) → rget r 1 = .ptr c 0 → rget r 3 = .int .i64 (chkGo m l e0 left0).1 → rget r 4 = .ptr (c + 1) 0 → Run Try.prog checkC K r H Q) :
  ∀ (n i : Nat) (H : AHeap) (e : Int) (left : Mg), l.length - i = n → i ≤ l.length → chkGo m l e0 left0 = chkGo m (l.drop i) e left → Keeps H0 H → H[c]? = some (.cells (encM m) T.msg_Msg) → H[c + 1]? = some (.cells (encM left) T.msg_Msg) →
  Rounds Try.prog checkC msg_Check.b1 [.inBlock 0] K [(1, .ptr c 0), (3, .int .i64 e), (4, .ptr (c + 1) 0), (10, recs encF false l), (11, .int .i64 l.length), (12, .int .i64 i)] H Q
 | n, i, H, e, left, h1, h2, h4, hk, hh1, hh2 => by
  refine loop_V 100 msg_Check.b1.eq_1 ?_
  have hcl : c + 1 < H.length := (List.getElem?_eq_some_iff.1 hh2).1
  by_cases hil : i < l.length
  ·rw [drop_getF hil, chkGo] at h4
   have hld : ∀ H, loadA H (some 7) (.sptr (recs encF false l) (i * 7)) = some (True, .agg (encF (l.getD i fld0))) := fun H => load_recs (enc := encF) (t := false) encF_len hil
   have hfo := hok _ (getD_mem hil)
   generalize hx : l.getD i fld0 = x at *
   have e1 : H[c]? = some (ABlk.cells [.int .i64 m.k, .int .i64 m.n0, .int .i64 m.n1, .int .i64 m.n2, .int .i64 m.n3, .int .i64 m.n4, .int .i64 m.n5, recs encP false m.p, ints false m.c, .str m.t, .str m.g] T.msg_Msg) := hh1
   have e2 : H[c + 1]? = some (ABlk.cells [.int .i64 left.k, .int .i64 left.n0, .int .i64 left.n1, .int .i64 left.n2, .int .i64 left.n3, .int .i64 left.n4, .int .i64 left.n5, recs encP false left.p, ints false left.c, .str left.t, .str left.g] T.msg_Msg) := hh2
   simp (disch := first | omega | (simp only [lnx]; omega)) only [stdh, stdx, ↓reduceIte, seval, hld, encF, at_low, e1]
   refine callK_fn (wrong_ok _ m x hfo hm _ ?_)
   refine runL_V 100 ?_
   by_cases hw : wrongE m x = 0
   ·rw [if_pos hw] at h4
    simp (disch := first | omega | (simp only [lnx]; omega)) only [stdh, stdx, ↓reduceIte, seval, hw, at_low, e1, e2]
    refine callK_fn (without_ok _ left x hfo _ ?_)
    refine runL_V 100 ?_
    generalize hy : withoutM left x = y at *
    simp (disch := first | omega | (simp only [lnx]; omega)) only [stdh, stdx, ↓reduceIte, seval, at_low, e2, set_low, encM]
    refine check_loop hlen hok hm e0 left0 K Q hc hQ _ (i + 1) _ _ y rfl (by omega) h4 ((hk.set (by omega) _).push _) ?_ ?_
    ·rw [List.getElem?_append_left (by simp; omega), List.getElem?_set_ne (by omega)]; exact hh1
    ·rw [List.getElem?_append_left (by simp; omega), List.getElem?_set_self (by omega)]; rfl
   ·rw [if_neg hw] at h4
    simp (disch := first | omega | (simp only [lnx]; omega)) only [stdh, stdx, ↓reduceIte, seval, hw, at_low, e1, e2]
    rw [h4] at hQ
    exact hQ _ _ (hk.push _) (by rw [List.getElem?_append_left (by omega)]; exact hh1) (by rw [List.getElem?_append_left (by omega)]; exact hh2) rfl rfl rfl
  ·rw [List.drop_eq_nil_of_le (by omega : l.length ≤ i), chkGo] at h4
   simp (disch := first | omega | (simp only [lnx]; omega)) only [stdh, stdx, ↓reduceIte, seval]
   rw [h4] at hQ
   exact hQ H _ hk hh1 hh2 rfl rfl rfl
 termination_by n => n
theorem sees_bare (k : Int) : SeesL [.int .i64 k, .int .i64 0, .int .i64 0, .int .i64 0, .int .i64 0, .int .i64 0, .int .i64 0, .nils, .nils, .str ⟨#[]⟩, .str ⟨#[]⟩] (encM { mg0 with k := k }) :=
 .cons (.refl _) (.cons (.refl _) (.cons (.refl _) (.cons (.refl _) (.cons (.refl _) (.cons (.refl _) (.cons (.refl _) (.cons (.nils _) (.cons (.nils _) (.refl _)))))))))
theorem check_ok (H : AHeap) (m : Mg) (hm : m.fine) (Q : AVal → AHeap → Prop) (h : Q (.int .i64 (checkM m)) H) : FunOK Try.prog F.msg_Check [.agg (encM m)] H Q := by
 refine fun_iced msg_Check_code fun _ => ?_
 refine fun_V 100 msg_Check_code rfl ?_
 simp (disch := first | omega | (simp only [lnx]; omega)) only [stdh, stdx, ↓reduceIte, seval, msg_Check, msg_Check.body, msg_Check.d0, encM]
 refine callK_fn (of_ok _ _ _ ?_)
 refine runL_V 100 ?_
 simp (disch := first | omega | (simp only [lnx]; omega)) only [stdh, stdx, ↓reduceIte, seval]
 refine check_loop (fieldsOf_len m.k) (fun f hf => fieldsOf_ok f hf) hm 9 m _ _ (H0 := H) (c := H.length) (by omega) ?_ _ 0 _ _ m rfl (by omega) rfl (keeps_append _ _) at_0 at_k
 intro H' r hk e1 e2 r1 r3 r4
 refine run_V0 100 ?_
 have hf := chkGo_fits (m := m) (fieldsOf m.k) 9 m ⟨hm.1, hm.2.1⟩
 unfold checkM at h
 generalize chkGo m (fieldsOf m.k) 9 m = R at *
 obtain ⟨e, left⟩ := R
 simp only at h e2 r3 hf
 by_cases he : e = 0
 ·simp (disch := first | omega | (simp only [lnx]; omega)) only [stdh, stdx, ↓reduceIte, seval, r1, r3, r4, he, e1, e2, encM]
  refine callK_fn (fun_sees (.cons (.refl _) (.cons (.agg (sees_bare m.k)) .nil)) (same_ok _ left _ hf _ ?_))
  refine runL_V 100 ?_
  by_cases hs : left = { mg0 with k := m.k }
  ·rw [if_neg (by simp [hs])] at h
   simp (disch := first | omega | (simp only [lnx]; omega)) only [stdh, stdx, ↓reduceIte, seval, hs, r3]
   exact ice_keeps hk trivial h
  ·rw [if_pos ⟨he, hs⟩] at h
   simp (disch := first | omega | (simp only [lnx]; omega)) only [stdh, stdx, ↓reduceIte, seval, hs]
   exact ice_keeps hk trivial h
 ·rw [if_neg (by simp [he])] at h
  simp (disch := first | omega | (simp only [lnx]; omega)) only [stdh, stdx, ↓reduceIte, seval, r1, r3, r4, he, e1, e2, encM]
  exact ice_keeps hk trivial h
end Go.Proofs.Ytiepeiconkjmeaa

namespace Go.Proofs.Ytiepeiconkjmeaa
open Go Go.Am
end Go.Proofs.Ytiepeiconkjmeaa

namespace Go.Proofs.Ytiepeiconkjmeaa
open Go Go.Am
end Go.Proofs.Ytiepeiconkjmeaa

namespace Go.Proofs.Ytiepeiconkjmeaa
open Go Go.Am
def rpathE (l : List (Int × Int)) : Int := if l.length = 0 then 13 else if 16 < l.length then 6 else if l.any farP then 5 else 0
def rcellsE (l : List Int) : Int := if l.length = 0 then 13 else if 32 < l.length then 6 else cellsGo (-1) l
def rtextE (s : ByteArray) (most : Int) : Int := if most < (s.size : Int) then 6 else if (bytesOf s).any badB then 19 else 0
def rwrongE (m : Mg) (f : Fld) : Int :=
 if f.sort = 3 then rpathE m.p else if f.sort = 4 then rcellsE m.c else if f.sort = 5 then rtextE m.t 64 else if f.sort = 6 then rtextE m.g 16
 else if m.num f.place < f.least ∨ f.most < m.num f.place then 5 else 0
def rgo (m : Mg) : List Fld → Int
 | [] => 0
 | f :: fs => if rwrongE m f = 0 then rgo m fs else rwrongE m f
def Fld.ok3 (f : Fld) : Prop := (f.place = -1 ∧ (f.sort = 3 ∨ f.sort = 4 ∨ f.sort = 5 ∨ f.sort = 6)) ∨ ((f.sort = 1 ∨ f.sort = 2) ∧ (f.place = 0 ∨ f.place = 1 ∨ f.place = 2 ∨ f.place = 3 ∨ f.place = 4 ∨ f.place = 5))
instance (f : Fld) : Decidable f.ok3 := by unfold Fld.ok3; infer_instance
theorem fieldsOf_ok3 {k : Int} : ∀ f ∈ fieldsOf k, f.ok3 := by
 unfold fieldsOf
 split
 ·decide +kernel
 split
 ·decide +kernel
 split
 ·decide +kernel
 split
 ·decide +kernel
 split
 ·decide +kernel
 ·simp
def Mg.fine2 (m : Mg) : Prop := m.p.length < 9223372036854775807 ∧ m.c.length < 9223372036854775807 ∧ m.t.size < 9223372036854775807 ∧ m.g.size < 9223372036854775807
def Fld.std (f : Fld) : Prop := (f.sort = 3 → f.least = 1 ∧ f.most = 16) ∧ (f.sort = 4 → f.least = 1 ∧ f.most = 32) ∧ (f.sort = 5 → f.least = 0 ∧ f.most = 64) ∧ (f.sort = 6 → f.least = 0 ∧ f.most = 16)
instance (f : Fld) : Decidable f.std := by unfold Fld.std; infer_instance
theorem fieldsOf_std {k : Int} : ∀ f ∈ fieldsOf k, f.std := by
 unfold fieldsOf
 split
 ·decide +kernel
 split
 ·decide +kernel
 split
 ·decide +kernel
 split
 ·decide +kernel
 split
 ·decide +kernel
 ·simp
theorem wrong_eq {m : Mg} {f : Fld} (h : f.std) : wrongE m f = rwrongE m f := by
 obtain ⟨h3, h4, h5, h6⟩ := h
 unfold wrongE rwrongE
 split
 ·rename_i q; obtain ⟨a, b⟩ := h3 q
  unfold pathE rpathE manyE
  rw [a, b]
  repeat' split
  all_goals first | rfl | omega
 split
 ·rename_i _ q; obtain ⟨a, b⟩ := h4 q
  unfold cellsE rcellsE manyE
  rw [a, b]
  repeat' split
  all_goals first | rfl | omega
 split
 ·rename_i _ _ q; obtain ⟨a, b⟩ := h5 q
  unfold textE rtextE manyE
  rw [a, b]
  repeat' split
  all_goals first | rfl | omega
 split
 ·rename_i _ _ _ q; obtain ⟨a, b⟩ := h6 q
  unfold textE rtextE manyE
  rw [a, b]
  repeat' split
  all_goals first | rfl | omega
 ·rfl
theorem chk_rgo {m : Mg} : ∀ (l : List Fld) (e : Int) (left : Mg), (∀ f ∈ l, f.std) → chkGo m l e left = (if l = [] then (e, left) else if rgo m l = 0 then (0, l.foldl withoutM left) else ((chkGo m l e left).1, (chkGo m l e left).2)) ∧ (l ≠ [] → (chkGo m l e left).1 = rgo m l)
 | [], e, left, _ => ⟨rfl, fun h => absurd rfl h⟩
 | f :: fs, e, left, h => by
  have hw := wrong_eq (m := m) (h f (by simp))
  have ih := chk_rgo (m := m) fs 0 (withoutM left f) fun g hg => h g (by simp [hg])
  unfold chkGo rgo
  rw [hw]
  by_cases h0 : rwrongE m f = 0
  ·simp only [h0, if_true]
   by_cases hfs : fs = []
   ·subst hfs; simp [chkGo, rgo]
   ·obtain ⟨i1, i2⟩ := ih
    rw [if_neg hfs] at i1
    refine ⟨?_, fun _ => i2 hfs⟩
    simp only [reduceCtorEq, if_false, List.foldl_cons]
    exact i1
  ·simp [h0]
theorem checkM_eq (m : Mg) (hl : fieldsOf m.k ≠ []) : checkM m = if rgo m (fieldsOf m.k) = 0 then (if (fieldsOf m.k).foldl withoutM m ≠ { mg0 with k := m.k } then 3 else 0) else rgo m (fieldsOf m.k) := by
 obtain ⟨h1, h2⟩ := chk_rgo (m := m) (fieldsOf m.k) 9 m fun f hf => fieldsOf_std f hf
 rw [if_neg hl] at h1
 have h2 := h2 hl
 unfold checkM
 by_cases h0 : rgo m (fieldsOf m.k) = 0
 ·rw [if_pos h0] at h1 ⊢
  rw [h1]
  simp
 ·rw [if_neg h0, h2]
  simp [h0]
def Fld.ok4 (f : Fld) : Prop := (f.since = 1 ∨ f.since = 2) ∧ (f.since = 2 → (f.sort = 6 ∧ f.place = -1) ∨ (f.sort = 1 ∧ (f.place = 0 ∨ f.place = 1 ∨ f.place = 2 ∨ f.place = 3 ∨ f.place = 4 ∨ f.place = 5)))
instance (f : Fld) : Decidable f.ok4 := by unfold Fld.ok4; infer_instance
def cutB (s : ByteArray) : ByteArray := if s.size ≤ 80 then s else s.extract 0 80
def cutM (m : Mg) : Mg := { m with p := m.p.take 40, c := m.c.take 40, t := cutB m.t, g := cutB m.g }
theorem cutB_size (s : ByteArray) : (cutB s).size ≤ 80 := by
 unfold cutB
 split
 ·assumption
 ·simp [ByteArray.size_extract]; omega
theorem cutM_small (m : Mg) : (cutM m).small := ⟨by simp [cutM]; omega, by simp [cutM]; omega⟩
theorem cutM_fine2 (m : Mg) : (cutM m).fine2 := ⟨by simp [cutM]; omega, by simp [cutM]; omega, by have := cutB_size m.t; simp only [cutM]; omega, by have := cutB_size m.g; simp only [cutM]; omega⟩
theorem Mg.fine2.fine {m : Mg} (h : m.fine2) : m.fine := by obtain ⟨a, b, c, d⟩ := h; exact ⟨by omega, by omega, by omega, by omega⟩
theorem bounds_to {n r : Nat} (h : r ≤ n) : bounds n n none (some (r : Int)) none = (True, 0, r, n) := by
 simp [bounds]; omega
theorem ext_cut (s : ByteArray) : s.extract 0 (min s.size 80) = cutB s := by
 unfold cutB
 by_cases h : s.size ≤ 80
 ·rw [if_pos h, Nat.min_eq_left h]; exact ByteArray.extract_zero_size
 ·rw [if_neg h, Nat.min_eq_right (by omega)]
set_option maxHeartbeats 1000000 in
theorem cut17_ok (H : AHeap) (m : Mg) (hm : m.fine) (Q : AVal → AHeap → Prop) (h : Q (.agg (encM (cutM m))) H) : FunOK Try.prog F.cuneiformlaw17_Cut [.agg (encM m)] H Q := by
 refine fun_iced cuneiformlaw17_Cut_code fun _ => ?_
 refine fun_V 40 cuneiformlaw17_Cut_code rfl ?_
 obtain ⟨g0, g1, g2, g3⟩ := hm
 have hmin : ∀ n : Nat, (if (40 : Int) < (n : Int) then 40 else (n : Int)) = ((min n 40 : Nat) : Int) := fun n => by split <;> omega
 have hmin8 : ∀ n : Nat, (if (80 : Int) < (n : Int) then 80 else (n : Int)) = ((min n 80 : Nat) : Int) := fun n => by split <;> omega
 have hs1 : sliceA 2 (recs encP false m.p) none (some ((min m.p.length 40 : Nat) : Int)) none = some (True, recs encP (false && decide ((min m.p.length 40 : Nat) = m.p.length)) (m.p.take (min m.p.length 40))) := slice_recs_to encP_len (by omega) (by omega)
 have hbt := fun n : Nat => bounds_to (n := n) (r := min n 80) (by omega)
 simp (disch := first | omega | (simp only [lnx]; omega)) only [stdh, stdx, ↓reduceIte, seval, cuneiformlaw17_Cut, cuneiformlaw17_Cut.body, cuneiformlaw17_Cut.d0, cuneiformlaw17_Cut.d1, encM, hmin, hmin8, hs1, hbt]
 refine runD_V 60 ?_
 simp (disch := first | omega | (simp only [lnx]; omega)) only [stdh, stdx, ↓reduceIte, seval, hbt, ext_cut, hmin8]
 have e : (⟨m.k, m.n0, m.n1, m.n2, m.n3, m.n4, m.n5, m.p.take (min m.p.length 40), m.c.take (min m.c.length 40), cutB m.t, cutB m.g⟩ : Mg) = cutM m := by
  simp [cutM, List.take_eq_take_iff, Nat.min_comm]
 have hcl := closeds_encM (L := H.length) (cutM m)
 rw [← e] at h hcl
 exact ice_none hcl h
end Go.Proofs.Ytiepeiconkjmeaa

namespace Go.Proofs.Ytiepeiconkjmeaa
open Go Go.Am
end Go.Proofs.Ytiepeiconkjmeaa

namespace Go.Proofs.Ytiepeiconkjmeaa
open Go Go.Am
def versionFields (k v : Int) : List Fld := (fieldsOf k).filter fun f => decide (f.since ≤ v)
def fldArgs (L : List Fld) (j : Nat) : List AVal := [.agg (encF (L.getD j fld0))]
theorem fieldsOf_le (k : Int) : (fieldsOf k).length ≤ 6 := by
 unfold fieldsOf
 split
 ·simp
 split
 ·simp
 split
 ·simp
 split
 ·simp
 split <;> simp
abbrev fall1C : Ctx := ⟨F.field_All_1, 22, [], none⟩
theorem fall1_loop {n : Nat} {v : Int} {l : List Fld} (hlen : l.length ≤ 6) {L : List Fld} {I : Bool → Nat → List Nat → AHeap → Prop} (hI : Fed Try.prog n (fldArgs L) L.length I)
  (K : List AItem) (Q : AVal → AHeap → Prop) {H0 : AHeap} {fp0 : List Nat}
  (hQ : ∀ b j fp H r, H0.length ≤ H.length → (∀ m, m < H0.length → m ∉ fp0 → H[m]? = H0[m]?) → (b = true → j = L.length) → I b j fp H → Run Try.prog fall1C K r H Q) :
  ∀ (m i j : Nat) (H : AHeap) (fp : List Nat), l.length - i = m → i ≤ l.length → j ≤ L.length → L.drop j = (l.drop i).filter (fun f => decide (f.since ≤ v)) → Touches fp0 H0 fp H → I true j fp H →
  Rounds Try.prog fall1C field_All_1.b0 [.inBlock 0] (.inScope :: K) [(0, .yld n), (2, cell (.int .i64 v)), (7, recs encF false l), (8, .int .i64 l.length), (9, .int .i64 i)] H Q
 | m, i, j, H, fp, h1, h2, h3, h4, ht, hi => by
  refine loop_V 100 field_All_1.b0.eq_1 ?_
  by_cases hil : i < l.length
  ·have hd : l.drop i = l.getD i fld0 :: l.drop (i + 1) := by
    rw [List.drop_eq_getElem_cons hil]; simp [hil]
   rw [hd, List.filter_cons] at h4
   have hld : ∀ H, loadA H (some 7) (.sptr (recs encF false l) (i * 7)) = some (True, .agg (encF (l.getD i fld0))) := fun H => load_recs (enc := encF) (t := false) encF_len hil
   generalize hx : l.getD i fld0 = x at *
   by_cases hs : x.since ≤ v
   ·have hs' : ¬ v < x.since := by omega
    rw [if_pos (by simpa using hs)] at h4
    have hj : j < L.length := by
     refine Classical.byContradiction fun hn => ?_
     rw [List.drop_eq_nil_of_le (by omega : L.length ≤ j)] at h4
     cases h4
    have hdj := List.drop_eq_getElem_cons hj
    rw [hdj] at h4
    obtain ⟨h5, h6⟩ := List.cons.inj h4
    have hargs : fldArgs L j = [.agg (encF x)] := by
     simp [fldArgs, List.getD_eq_getElem?_getD, hj, h5]
    simp (disch := first | omega | (simp only [lnx]; omega)) only [stdh, stdx, ↓reduceIte, seval, hld, encF, hs']
    have hk1 : Touches fp0 H0 fp (H ++ [ABlk.cells (encF x) T.field_Field]) := ht.trans ⟨by simp, fun m hm => .inl hm, fun m hm _ => List.getElem?_append_left hm⟩
    have hi1 : I true j fp (H ++ [ABlk.cells (encF x) T.field_Field]) := (hI.foot true j).stable _ _ _ hi (by simp) fun m hm => List.getElem?_append_left ((hI.foot true j).lt _ _ hi m hm)
    have hstep := hI.step j fp _ hj hi1
    rw [hargs] at hstep
    refine CallV.mono hstep fun av H' hh => ?_
    obtain ⟨fp', ht', hh⟩ := hh
    have ht2 : Touches fp0 H0 fp' H' := hk1.trans ht'
    refine runL_V 40 ?_
    rcases hh with ⟨rfl, hi'⟩ | ⟨rfl, hi'⟩
    ·simp (disch := first | omega | (simp only [lnx]; omega)) only [stdh, stdx, ↓reduceIte, seval]
     exact fall1_loop hlen hI K Q hQ _ (i + 1) (j + 1) H' fp' rfl (by omega) (by omega) h6 ht2 hi'
    ·simp (disch := first | omega | (simp only [lnx]; omega)) only [stdh, stdx, ↓reduceIte, seval]
     refine run_inScope ?_
     exact hQ false _ fp' H' _ ht2.le ht2.kept (fun hh => by cases hh) hi'
   ·have hs' : v < x.since := by omega
    rw [if_neg (by simpa using hs)] at h4
    simp (disch := first | omega | (simp only [lnx]; omega)) only [stdh, stdx, ↓reduceIte, seval, hld, encF, hs']
    have hk1 : Touches fp0 H0 fp (H ++ [ABlk.cells (encF x) T.field_Field]) := ht.trans ⟨by simp, fun m hm => .inl hm, fun m hm _ => List.getElem?_append_left hm⟩
    have hi1 : I true j fp (H ++ [ABlk.cells (encF x) T.field_Field]) := (hI.foot true j).stable _ _ _ hi (by simp) fun m hm => List.getElem?_append_left ((hI.foot true j).lt _ _ hi m hm)
    exact fall1_loop hlen hI K Q hQ _ (i + 1) j _ fp rfl (by omega) h3 h4 hk1 hi1
  ·rw [List.drop_eq_nil_of_le (by omega : l.length ≤ i)] at h4
   have hjl : j = L.length := by
    have := congrArg List.length h4
    simp only [List.length_drop, List.filter_nil, List.length_nil] at this; omega
   simp (disch := first | omega | (simp only [lnx]; omega)) only [stdh, stdx, ↓reduceIte, seval]
   refine run_inScope ?_
   exact hQ true j fp H _ ht.le ht.kept (fun _ => hjl) hi
 termination_by m => m
theorem fall1_iter {H : AHeap} {n : Nat} {k v : Int} : Iter Try.prog F.field_All_1 [.yld n, cell (.int .i64 k), cell (.int .i64 v)] n (fldArgs (versionFields k v)) (versionFields k v).length [] H := by
 intro I hI fp hi hown
 refine fun_V 100 field_All_1_code rfl ?_
 simp (disch := first | omega | (simp only [lnx]; omega)) only [stdh, stdx, ↓reduceIte, seval, field_All_1, field_All_1.body]
 refine callK_fn (of_ok _ _ _ ?_)
 refine runL_V 100 ?_
 simp (disch := first | omega | (simp only [lnx]; omega)) only [stdh, stdx, ↓reduceIte, seval]
 refine fall1_loop (fieldsOf_le k) hI _ _ ?_ _ 0 0 H fp rfl (by omega) (by omega) rfl (Touches.refl _ _) hi
 intro b j fp' H' r h1 h2 h3 h4
 exact run_fin rfl rfl trivial ⟨b, j, fp', h1, h2, h3, h4⟩
theorem fall_ok (H : AHeap) (k v : Int) (Q : AVal → AHeap → Prop) (h : Q (.fn F.field_All_1 [] [cell (.int .i64 k), cell (.int .i64 v)]) H) : FunOK Try.prog F.field_All [.int .i64 k, .int .i64 v] H Q := by
 refine fun_iced field_All_code fun _ => ?_
 refine fun_V 40 field_All_code rfl ?_
 simp (disch := first | omega | (simp only [lnx]; omega)) only [stdh, stdx, ↓reduceIte, seval, field_All, field_All.body]
 exact ice_clo2 trivial trivial h
end Go.Proofs.Ytiepeiconkjmeaa

namespace Go.Proofs.Ytiepeiconkjmeaa
open Go Go.Am
end Go.Proofs.Ytiepeiconkjmeaa

namespace Go.Proofs.Ytiepeiconkjmeaa
open Go Go.Am
end Go.Proofs.Ytiepeiconkjmeaa

namespace Go.Am
open Go
end Go.Am

namespace Go.Am
open Go
def shMsg : Sh := .struct [.int .i64, .arr 6 .i64, .slice (.struct [.int .i64, .int .i64]), .slice (.int .i64), .str, .str]
end Go.Am

namespace Go.Proofs.Ytiepeiconkjmeaa
open Go Go.Am
theorem rgo_zero {m : Mg} : ∀ {l : List Fld}, rgo m l = 0 ↔ ∀ f ∈ l, rwrongE m f = 0
 | [] => by simp [rgo]
 | f :: fs => by
  rw [rgo, List.forall_mem_cons, ← rgo_zero]
  split
  ·rename_i h; simp [h]
  ·rename_i h; simp [h]
theorem checkM_zero (m : Mg) : checkM m = 0 ↔ fieldsOf m.k ≠ [] ∧ (∀ f ∈ fieldsOf m.k, rwrongE m f = 0) ∧ (fieldsOf m.k).foldl withoutM m = { mg0 with k := m.k } := by
 by_cases hl : fieldsOf m.k = []
 ·simp [checkM, hl, chkGo]
 ·rw [checkM_eq m hl, ← rgo_zero]
  by_cases h0 : rgo m (fieldsOf m.k) = 0
  ·rw [if_pos h0]
   by_cases h1 : (fieldsOf m.k).foldl withoutM m = { mg0 with k := m.k }
   ·simp [h1, hl, h0]
   ·simp [h1]
  ·rw [if_neg h0]; simp [h0]
end Go.Proofs.Ytiepeiconkjmeaa
