/-
  Lemmas on the way to the statements of this seat. By an AI agent. No person has read it.
-/
import Derived.Test.YtamcfgdnhgmkpaaAm7
import Derived.Test.YtamcfgdnhgmkpaaAm6
set_option linter.unusedSimpArgs false
set_option linter.unusedVariables false

namespace Go.Am
open Go
set_option linter.unusedVariables false

/-! ### Functions that are told: slices.Delete and maps.Clone -/

variable {P : Program}

theorem fun_of_calls {f : FuncId} {args : List AVal} {H : AHeap} {Q : AVal → AHeap → Prop} (hc : Callable P f)
    (h : ∀ ρ (vs : Array Value) w, vs.size = args.length → VsRel (nm ρ H w) args (fun i => vs[i]?) → HRel (nm ρ H w) →
      Calls P f vs w fun e w' => ∃ v av H' ρ', e = .returned v ∧ Q av H' ∧ VRel (nm ρ' H' w') av v ∧ HRel (nm ρ' H' w') ∧ Pres w.heap.size ρ H w ρ' H' w') : FunOK P f args H Q :=
  ⟨hc, fun ρ vs w h1 h2 h3 cs => by
    obtain ⟨e, w', fr, ⟨v, av, H', ρ', rfl, hq, hv, hr, hp⟩, hs, hf, hl⟩ := h ρ vs w h1 h2 h3 cs
    exact ⟨av, H', ρ', v, w', fr, hq, hs, hl, hf, hv, hr, hp⟩⟩

theorem callable_bears {f : FuncId} {B : Func} (h : Go.Proofs.Bears P f B) {c : Code} (hb : B.body = some c) : Callable P f := by
  obtain ⟨nm, hn, hf⟩ := h
  exact ⟨_, c, hf, hb, hn⟩

theorem clone_ok {s : Go.Shelf.Ren} (L : Go.Proofs.SlLaysW.n5 P s) {H : AHeap} {n : Nat} {es : List (AVal × AVal)} (hn : H[n]? = some (.map es)) {Q : AVal → AHeap → Prop} (hq : Q (.mapv H.length) (H ++ [.map es])) : FunOK P (s.f 5) [.mapv n] H Q := by
  refine fun_of_calls (callable_bears L.f5 rfl) fun ρ vs w h1 h2 h3 => ?_
  have hv0 : ∃ v, vs[0]? = some v ∧ VRel (nm ρ H w) (.mapv n) v := by
    simp only [VsRel] at h2
    exact h2.1
  obtain ⟨v, e0, hv⟩ := hv0
  simp only [VRel] at hv
  obtain ⟨_, b, rfl, hb⟩ := hv
  have hvs : vs = #[.map (some b)] := by
    apply Array.ext_getElem?
    intro i
    match i with
    | 0 => simpa using e0
    | i + 1 => rw [Array.getElem?_eq_none (by rw [h1]; simp), Array.getElem?_eq_none (by simp)]
  subst hvs
  obtain ⟨b', ents, clk, e1, e2, e3⟩ := h3.blk n _ hn
  have hbb : some b = some b' := by rw [← e1]; exact (hb (alive_of hn rfl)).symm
  cases hbb
  refine (Go.Proofs.AnyW.maps_Clone L b ents clk w e2).mono fun e w' he => ?_
  obtain ⟨rfl, rfl⟩ := he
  have hx := ext_new (ρ := ρ) (H := H) (w := w) (.map ents clk) (.map es)
  refine ⟨_, _, _, ρput ρ H.length (some w.heap.size), rfl, hq, ?_, hrel_new h3 _ _ ⟨w.heap.size, ents, clk, rfl, alloc_new, e3.1, fun i hi => ?_⟩, pres_new _ (Nat.le_refl _) _ _⟩
  · simp only [VRel]
    exact ⟨by simp [nm], _, rfl, fun _ => by simp [nm, ρput]⟩
  · obtain ⟨m, g1, g2, g3⟩ := e3.2 i hi
    exact ⟨m, g1, g2.ext hx, g3.ext hx⟩

theorem clone_nat {s : Go.Shelf.Ren} (L : Go.Proofs.SlLaysW.n5 P s) : NatOk P (s.f 5) .clone := by
  intro args H v H1 h Q hq
  unfold natX at h
  split at h
  · rename_i h'; cases h'
  · rename_i H _ _ _ n h'
    cases hb : H[n]? with
    | none => simp [hb] at h
    | some b =>
      cases b <;> simp only [hb] at h <;> first | (cases h; done) | skip
      cases h
      exact clone_ok L hb hq
  · cases h
end Go.Am

namespace Go.Am
open Go
set_option linter.unusedVariables false
variable {P : Program}

theorem pres_ahead (B q : Nat) {ρ : Nat → Option Nat} {H : AHeap} {w : World} : Pres B ρ H w ρ H (Go.Sort.ahead w q) := ⟨Nat.le_refl _, rfl, rfl, rfl, Nat.le_refl _, fun _ _ h => ⟨h, rfl⟩, fun _ _ _ => rfl, fun _ _ h => h, fun _ _ _ h => h⟩

theorem putRow_put {enc : Int → Value} {w : World} {b : Nat} {d : Array Int} {arr : Array Value} {el : TypeId} {fz : Nat × Nat} (h : w.heap[b]? = some (.cells arr el fz)) : Go.Sort.putRow enc w b 0 d = put w b (.cells (Go.Sort.putCells enc 0 d arr) el fz) := by
  unfold Go.Sort.putRow Go.Sort.mapBlock put
  congr 1
  apply Array.ext_getElem?
  intro i
  rw [Array.getElem?_modify, Array.getElem?_setIfInBounds]
  by_cases hi : b = i
  · subst hi
    have := (Array.getElem?_eq_some_iff.1 h).1
    rw [if_pos rfl, if_pos rfl, if_pos this, h]
    rfl
  · rw [if_neg hi, if_neg hi]

/-- slices.Delete of a list of one owner: what is left is a new list, the old one has gone. -/
theorem delete_ok {s : Go.Shelf.Ren} (L : Go.Proofs.SlLaysE.n45 P s) {k : IntKind} (v23 : ∀ w, (zeroValue (s.t 23)).run P w = .ok (.int k 0) w) {i0 : TypeInfo} (hi0 : P.info? (s.t 23) = some i0) (hz1 : i0.size = 1)
    {H : AHeap} {n : Nat} {ds : List Int} {el : TypeId} {i j : Nat} (hn : H[n]? = some (.vec (ds.map (.int k)) el 1)) (hl : ds.length ≤ 9223372036854775807) (hij : i < j) (hj : j ≤ ds.length) {Q : AVal → AHeap → Prop}
    (hq : Q (.slc H.length 0 (ds.length - (j - i)) 1) (H.set n .dead ++ [.vec ((ds.take i ++ ds.drop j).map (.int k)) el 1])) : FunOK P (s.f 45) [.slc n 0 ds.length 1, .int .i64 (i : Nat), .int .i64 (j : Nat)] H Q := by
  refine fun_of_calls (callable_bears L.f45 rfl) fun ρ vs w h1 h2 h3 => ?_
  have hv0 : ∃ v, vs[0]? = some v ∧ VRel (nm ρ H w) (.slc n 0 ds.length 1) v := by
    simp only [VsRel] at h2
    exact h2.1
  have hv1 : vs[1]? = some (.int .i64 (i : Nat)) := by
    simp only [VsRel, VRel] at h2
    obtain ⟨v, a, rfl⟩ := h2.2.1
    exact a
  have hv2 : vs[2]? = some (.int .i64 (j : Nat)) := by
    simp only [VsRel, VRel] at h2
    obtain ⟨v, a, rfl⟩ := h2.2.2.1
    exact a
  obtain ⟨v, e0, hv⟩ := hv0
  simp only [VRel] at hv
  obtain ⟨_, a, cap, rfl, hc, hv⟩ := hv
  have hal := alive_of hn (c := .vec (ds.map (.int k)) el 1) rfl
  obtain ⟨b, r, b1, b2, b3, b4⟩ : ∃ b r, ρ n = some b ∧ a = some ⟨b, 0, none⟩ ∧ room w.heap b = some r ∧ 0 + cap * 1 ≤ r := by
    rcases hv hal with ⟨_, h0, _⟩ | ⟨h0, _⟩ | h
    · omega
    · omega
    · exact h
  subst b2
  have hvs : vs = #[.slice (some ⟨b, 0, none⟩) ds.length cap, .int .i64 (i : Nat), .int .i64 (j : Nat)] := by
    apply Array.ext_getElem?
    intro x
    match x with
    | 0 => simpa using e0
    | 1 => simpa using hv1
    | 2 => simpa using hv2
    | x + 3 => rw [Array.getElem?_eq_none (by rw [h1]; simp), Array.getElem?_eq_none (by simp)]
  subst hvs
  obtain ⟨arr, q2, q3⟩ : ∃ arr, w.heap[b]? = some (.cells arr el (0, 0)) ∧ VsRel (nm ρ H w) (ds.map (.int k)) (fun i => arr[i]?) := by
    rcases h3.blk n _ hn with ⟨h0, _⟩ | ⟨b', arr, q1, q2, q3⟩
    · rw [show (nm ρ H w).ρ n = ρ n from rfl, b1] at h0; cases h0
    · rw [show (nm ρ H w).ρ n = ρ n from rfl, b1] at q1
      cases q1
      exact ⟨arr, q2, q3⟩
  have hcell : ∀ t (ht : t < ds.length), arr[t]? = some (.int k ds[t]) := by
    intro t ht
    rw [vsRel_iff] at q3
    obtain ⟨v, g1, g2⟩ := q3 t (by simpa using ht)
    simp only [List.getElem_map, VRel] at g2
    rw [g1, g2]
  have hH : Go.Sort.Holds (Value.int k) w b 0 ds.toArray := by
    intro t ht
    have ht' : t < ds.length := by simpa using ht
    refine ⟨?_, ?_⟩
    · have := hcell t ht'
      simp [World.cell?, q2, this, ht']
    · simp [World.frozen?, q2]
  have hw := Go.Am.del_walk L v23 i0 hi0 hz1 b 0 cap i j ds.toArray w hH (by simpa using hc) (by simpa using hl) hij (by simpa using hj)
  have hsz : ds.toArray.size = ds.length := by simp
  rw [hsz] at hw
  refine hw.mono fun e w' he => ?_
  obtain ⟨rfl, q, rfl⟩ := he
  have q2' : (Go.Sort.ahead w q).heap[b]? = some (.cells arr el (0, 0)) := q2
  rw [putRow_put q2']
  have h3' : HRel (nm ρ H (Go.Sort.ahead w q)) := h3
  have hroom : ∀ o : Nat, room (Go.Sort.ahead w q).heap b = some o → ∃ arr' el' fz, Obj.cells (Go.Sort.putCells (Value.int k) 0 (ds.toArray.toList.take i ++ ds.toArray.toList.drop j ++ List.replicate (j - i) 0).toArray arr) el (0, 0) = .cells arr' el' fz ∧ arr'.size = o := by
    intro o ho
    have : room (Go.Sort.ahead w q).heap b = some arr.size := by unfold room; rw [q2']
    rw [this] at ho
    cases ho
    exact ⟨_, _, _, rfl, by simp [Go.Sort.putCells]⟩
  have hlen : (ds.take i ++ ds.drop j).length = ds.length - (j - i) := by simp; omega
  have hr0 : room w.heap b = some arr.size := by unfold room; rw [q2]
  refine ⟨_, _, _, ρput ρ H.length (some b), rfl, hq, ?_, hrel_move h3' hn rfl b1 _ (.vec ((ds.take i ++ ds.drop j).map (.int k)) el 1) hroom (.inr ⟨b, _, rfl, put_same (lt_of_some q2'), ?_⟩), (pres_ahead w.heap.size q).trans (pres_move w.heap.size hn rfl b1 _ _ hroom)⟩
  · simp only [VRel]
    refine ⟨by simp [nm], _, cap, rfl, by omega, fun _ => .inr (.inr ⟨b, r, by simp [nm, ρput], rfl, ?_, b4⟩)⟩
    unfold room
    simp only [nm]
    rw [put_same (lt_of_some q2')]
    rw [hr0] at b3
    cases b3
    simp [Go.Sort.putCells]
  · rw [vsRel_iff]
    intro x hx
    rw [List.length_map, hlen] at hx
    refine ⟨.int k ((ds.take i ++ ds.drop j)[x]'(by omega)), ?_, by rw [List.getElem_map]; simp only [VRel]⟩
    have hxs : x < arr.size := by
      have := hcell x (by omega)
      exact (Array.getElem?_eq_some_iff.1 this).1
    simp only [Go.Sort.putCells, Array.getElem?_mapIdx, Array.getElem?_eq_getElem hxs, Option.map_some, Nat.zero_add, Nat.sub_zero]
    rw [if_pos ⟨Nat.zero_le _, by simp; omega⟩]
    rw [getElem!_pos _ x (by simp; omega)]
    congr 2
    simp only [List.getElem_toArray]
    rw [List.getElem_append_left (by simp; omega)]

theorem delete_nat {s : Go.Shelf.Ren} (L : Go.Proofs.SlLaysE.n45 P s) (v23 : ∀ w, (zeroValue (s.t 23)).run P w = .ok (.int .u32 0) w) (hsz : (P.info? (s.t 23)).map (·.size) = some 1) : NatOk P (s.f 45) .del := by
  obtain ⟨i0, hi0, hz1⟩ : ∃ i0, P.info? (s.t 23) = some i0 ∧ i0.size = 1 := by
    cases h : P.info? (s.t 23) with
    | none => rw [h] at hsz; cases hsz
    | some i => rw [h] at hsz; exact ⟨i, rfl, by simpa using hsz⟩
  intro args H v H1 h Q hq
  unfold natX at h
  split at h
  · rename_i H _ _ _ n o l z i j h'
    cases hb : H[n]? with
    | none => simp [hb] at h
    | some b =>
      cases b <;> simp only [hb] at h <;> first | (cases h; done) | skip
      rename_i cs el z'
      split at h
      · rename_i hc
        simp only [Bool.and_eq_true, decide_eq_true_eq] at hc
        obtain ⟨⟨⟨⟨⟨⟨⟨⟨rfl, rfl⟩, rfl⟩, rfl⟩, h5⟩, h6⟩, h7⟩, h8⟩, h9⟩ := hc
        cases h
        have : ∃ ds : List Int, cs = ds.map (.int .u32) := by
          clear hb hq h6 h7 h8 h9
          induction cs with
          | nil => exact ⟨[], rfl⟩
          | cons c cs ih =>
            simp only [List.all_cons, Bool.and_eq_true] at h5
            obtain ⟨ds, rfl⟩ := ih h5.2
            have := h5.1
            split at this
            · rename_i d; exact ⟨d :: ds, rfl⟩
            · cases this
        obtain ⟨ds, rfl⟩ := this
        simp only [List.length_map] at h8 h9 hq ⊢
        obtain ⟨i, rfl⟩ := Int.eq_ofNat_of_zero_le h6
        obtain ⟨j, rfl⟩ := Int.eq_ofNat_of_zero_le (show 0 ≤ j by omega)
        simp only [Int.toNat_natCast] at hq
        rw [← List.map_take, ← List.map_drop, ← List.map_append] at hq
        exact delete_ok L v23 hi0 hz1 hb h9 (by omega) (by omega) hq
      · cases h
  · rename_i h'; cases h'
  · cases h
end Go.Am
