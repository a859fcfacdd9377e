/-
  The operations of that machine, each shown to be the model's, whatever the places. By an AI agent. No person has read it.
-/
import Derived.Test.YtamcfgdnhgmkpaaAm1
set_option linter.unusedSimpArgs false
set_option linter.unusedVariables false

namespace Go.Am
open Go
set_option linter.unusedVariables false

section
variable {P : Program} {ρ : Nat → Option Nat} {H : AHeap} {w : World}

/-! ### New blocks -/

theorem new_cells (hr : HRel (nm ρ H w)) {arr : Array Value} {cs : List AVal} (el : TypeId) (hs : arr.size = cs.length) (hc : VsRel (nm ρ H w) cs (fun i => arr[i]?)) :
    HRel (nm (ρput ρ H.length (some w.heap.size)) (H ++ [.cells cs el]) (w.alloc (.cells arr el))) ∧
    Pres w.heap.size ρ H w (ρput ρ H.length (some w.heap.size)) (H ++ [.cells cs el]) (w.alloc (.cells arr el)) ∧
    VRel (nm (ρput ρ H.length (some w.heap.size)) (H ++ [.cells cs el]) (w.alloc (.cells arr el))) (.ptr H.length 0) (.pointer (some ⟨w.heap.size, 0, none⟩)) := by
  have hx := ext_new (ρ := ρ) (H := H) (w := w) (.cells arr el) (.cells cs el)
  refine ⟨hrel_new hr _ _ ⟨w.heap.size, arr, rfl, alloc_new, hs, hc.ext hx⟩, pres_new _ (Nat.le_refl _) _ _, ?_⟩
  simp only [VRel]
  exact ⟨by simp [nm], _, rfl, fun _ => ⟨by simp [nm, ρput], rfl⟩⟩

theorem room_new (arr : Array Value) (el : TypeId) : room (w.alloc (.cells arr el)).heap w.heap.size = some arr.size := by
  unfold room; rw [alloc_new]

theorem new_vec (hr : HRel (nm ρ H w)) {arr : Array Value} {cs : List AVal} (el sz : Nat) (hc : VsRel (nm ρ H w) cs (fun i => arr[i]?)) (len cap : Nat) (h1 : len ≤ cap) (h2 : cap * sz ≤ arr.size) :
    HRel (nm (ρput ρ H.length (some w.heap.size)) (H ++ [.vec cs el sz]) (w.alloc (.cells arr el))) ∧
    Pres w.heap.size ρ H w (ρput ρ H.length (some w.heap.size)) (H ++ [.vec cs el sz]) (w.alloc (.cells arr el)) ∧
    VRel (nm (ρput ρ H.length (some w.heap.size)) (H ++ [.vec cs el sz]) (w.alloc (.cells arr el))) (.slc H.length 0 len sz) (.slice (some ⟨w.heap.size, 0, none⟩) len cap) := by
  have hx := ext_new (ρ := ρ) (H := H) (w := w) (.cells arr el) (.vec cs el sz)
  refine ⟨hrel_new hr _ _ (.inr ⟨w.heap.size, arr, rfl, alloc_new, hc.ext hx⟩), pres_new _ (Nat.le_refl _) _ _, ?_⟩
  simp only [VRel]
  refine ⟨by simp [nm], _, _, rfl, h1, fun _ => .inr (.inr ⟨w.heap.size, arr.size, by simp [nm, ρput], rfl, room_new arr el, by simpa using h2⟩)⟩

theorem alloc_ok (hr : HRel (nm ρ H w)) {el : TypeId} {i : TypeInfo} {z : Value} (hi : P.info? el = some i) (hz : i.zero = some z) {cs : List AVal} (hs : z.cells.size = cs.length) (hc : VsRel (nm ρ H w) cs (fun j => z.cells[j]?)) :
    ResOk P (Instr.alloc el true (.tuple #[])) ρ H w (.ptr H.length 0) (H ++ [.cells cs el]) := by
  obtain ⟨h1, h2, h3⟩ := new_cells hr el hs hc
  refine ⟨_, _, _, ?_, h3, h1, h2⟩
  simp [Instr.alloc, zeroValue, typeInfo, hi, hz, newVar, newRow]

theorem box_ok (hr : HRel (nm ρ H w)) {el : TypeId} {a : AVal} {v : Value} (ha : VRel (nm ρ H w) a v) (hc : a.cells.all AVal.cellish = true) :
    ResOk P (Instr.box el v) ρ H w (.ptr H.length 0) (H ++ [.cells a.cells el]) := by
  obtain ⟨k1, k2⟩ := cells_of ha hc
  obtain ⟨h1, h2, h3⟩ := new_cells hr el k1 k2
  refine ⟨_, _, _, ?_, h3, h1, h2⟩
  simp [Instr.box, newVar, newRow]

/-! ### Stores -/

def arrFill : Array Value → Nat → List Value → Array Value
  | arr, _, [] => arr
  | arr, o, v :: vs => arrFill (arr.setIfInBounds o v) (o + 1) vs

theorem arrFill_size : ∀ (vs : List Value) (arr : Array Value) (o : Nat), (arrFill arr o vs).size = arr.size
  | [], arr, o => rfl
  | v :: vs, arr, o => by simp [arrFill, arrFill_size vs]

theorem fillAt_length : ∀ (vs cs : List AVal) (o : Nat), (fillAt cs o vs).length = cs.length
  | [], cs, o => rfl
  | v :: vs, cs, o => by simp [fillAt, fillAt_length vs]

theorem fill_rel {e : Nm} : ∀ (vs : List Value) (avs cs : List AVal) (arr : Array Value) (o : Nat), vs.length = avs.length → o + vs.length ≤ arr.size → VsRel e cs (fun i => arr[i]?) →
    VsRel e avs (fun i => vs[i]?) → VsRel e (fillAt cs o avs) (fun i => (arrFill arr o vs)[i]?)
  | [], avs, cs, arr, o, hl, _, hc, _ => by
    cases avs with
    | nil => exact hc
    | cons _ _ => simp at hl
  | v :: vs, avs, cs, arr, o, hl, hb, hc, hv => by
    cases avs with
    | nil => simp at hl
    | cons a avs =>
      simp only [fillAt, arrFill]
      refine fill_rel vs avs _ _ (o + 1) (by simpa using hl) (by simp at hb ⊢; omega) ?_ ?_
      · rw [vsRel_iff] at hc hv ⊢
        intro i hi
        by_cases hio : i = o
        · subst hio
          obtain ⟨u, h1, h2⟩ := hv 0 (by simp)
          simp at h1
          subst h1
          refine ⟨v, ?_, by simpa using h2⟩
          simp at hb
          rw [Array.getElem?_setIfInBounds_self, if_pos (by omega)]
        · obtain ⟨u, h1, h2⟩ := hc i (by simpa using hi)
          refine ⟨u, ?_, ?_⟩
          · rw [Array.getElem?_setIfInBounds_ne (by omega)]; exact h1
          · rw [List.getElem_set_ne (by omega)]; exact h2
      · rw [vsRel_iff] at hv ⊢
        intro i hi
        obtain ⟨u, h1, h2⟩ := hv (i + 1) (by simpa using hi)
        exact ⟨u, by simpa using h1, by simpa using h2⟩

theorem setCell_put {b o : Nat} {arr : Array Value} {el : TypeId} {fz : Nat × Nat} (h : w.heap[b]? = some (.cells arr el fz)) (v : Value) :
    w.setCell ⟨b, o, none⟩ v = put w b (.cells (arr.setIfInBounds o v) el fz) := by
  unfold World.setCell put
  congr 1
  apply Array.ext
  · simp
  · intro i h1 h2
    have hb := lt_of_some h
    by_cases hib : b = i
    · subst hib
      have : w.heap[b] = .cells arr el fz := by rw [Array.getElem?_eq_getElem hb] at h; exact Option.some.inj h
      simp [Array.getElem_modify, this]
    · rw [Array.getElem_setIfInBounds (by simpa using h2)]; simp [Array.getElem_modify, hib]

theorem put_put {b : Nat} {x y : Obj} : put (put w b x) b y = put w b y := by
  unfold put; simp

theorem put_id {b : Nat} {x : Obj} (h : w.heap[b]? = some x) : put w b x = w := by
  unfold put
  have hb := lt_of_some h
  have : w.heap.setIfInBounds b x = w.heap := by
    apply Array.ext
    · simp
    · intro i h1 h2
      rw [Array.getElem_setIfInBounds]
      split
      · subst_vars; rw [Array.getElem?_eq_getElem hb] at h; exact (Option.some.inj h).symm
      · rfl
  rw [this]

theorem run_storeCells : ∀ (vs : List Value) (w : World) (b o i : Nat) (arr : Array Value) (el : TypeId), w.heap[b]? = some (.cells arr el (0, 0)) → o + i + vs.length ≤ arr.size → (∀ v ∈ vs, v.oneCell' = true) →
    (storeCells ⟨b, o, none⟩ vs i).run P w = .ok () (put w b (.cells (arrFill arr (o + i) vs) el (0, 0)))
  | [], w, b, o, i, arr, el, h, _, _ => by simp [storeCells, arrFill, put_id h]
  | v :: vs, w, b, o, i, arr, el, h, hb, hv => by
    have hlt := lt_of_some h
    simp at hb
    have hcell : w.cell? ⟨b, o + i, none⟩ = some (arr[o + i]'(by omega)) := by rw [cell_at h]; simp
    simp only [storeCells, Sem.run_bind, add_none]
    rw [run_store P w _ v .plain (hv v (by simp)), hcell, frozen_at h]
    simp only [Bool.false_eq_true, if_false, Result.andThen_ok]
    rw [setCell_put h, run_storeCells vs _ b o (i + 1) (arr.setIfInBounds (o + i) v) el (put_same hlt) (by simp; omega) (fun u hu => hv u (by simp [hu])), put_put]
    simp [arrFill, Nat.add_assoc]

theorem room_at {b : Nat} {arr : Array Value} {el : TypeId} {fz : Nat × Nat} (h : w.heap[b]? = some (.cells arr el fz)) : room w.heap b = some arr.size := by
  unfold room; rw [h]

/-- A named block's cells are written. -/
theorem write_ok (hr : HRel (nm ρ H w)) {n b o : Nat} {arr : Array Value} {el : TypeId} {d : ABlk} (hd : H[n]? = some d) (hdl : d.isLive = true) (hb : ρ n = some b) (hh : w.heap[b]? = some (.cells arr el (0, 0)))
    {vs : List Value} (hsz : o + vs.length ≤ arr.size) (c : ABlk)
    (hc : ∀ e, Ext (nm ρ H w) e → (arrFill arr o vs).size = arr.size → e.heap[b]? = some (.cells (arrFill arr o vs) el (0, 0)) → BRel e (some b) c) :
    HRel (nm ρ (H.set n c) (put w b (.cells (arrFill arr o vs) el (0, 0)))) ∧ Pres w.heap.size ρ H w ρ (H.set n c) (put w b (.cells (arrFill arr o vs) el (0, 0))) := by
  have hroom : ∀ r, room w.heap b = some r → ∃ arr' el' fz, (Obj.cells (arrFill arr o vs) el (0, 0)) = .cells arr' el' fz ∧ arr'.size = r := by
    intro r h
    rw [room_at hh] at h
    cases h
    exact ⟨_, _, _, rfl, arrFill_size _ _ _⟩
  have hp := pres_set (w := w) w.heap.size hd hdl hb (.cells (arrFill arr o vs) el (0, 0)) c hroom
  refine ⟨hrel_set hr hd hdl hb _ c hroom (hc _ hp.ext (arrFill_size _ _ _) ?_), hp⟩
  exact put_same (lt_of_some hh)

theorem one_all {e : Nm} : ∀ {as : List AVal} {vs : List Value}, vs.length = as.length → VsRel e as (fun i => vs[i]?) → as.all AVal.cellish = true → ∀ v ∈ vs, v.oneCell' = true
  | [], vs, hl, _, _, v, hv => by cases vs with | nil => simp at hv | cons _ _ => simp at hl
  | a :: as, vs, hl, hr, hc, v, hv => by
    cases vs with
    | nil => simp at hv
    | cons u vs =>
      simp only [VsRel] at hr
      obtain ⟨⟨u', h1, h2⟩, h3⟩ := hr
      simp at h1
      subst h1
      simp at hc
      rcases List.mem_cons.1 hv with rfl | hv
      · exact one_of h2 hc.1
      · exact one_all (by simpa using hl) (h3.congr fun i _ => by simp) (by simpa using hc.2) v hv

/-- A store at a place of a named block. -/
theorem store_at (hr : HRel (nm ρ H w)) {t : TypeId} {i : TypeInfo} (hi : P.info? t = some i) {n o : Nat} {d : ABlk} (hd : H[n]? = some d) {cs : List AVal} (hcs : content (some d) = some cs) {b : Nat}
    (hb : ρ n = some b) {av : AVal} {v : Value} (hv : VRel (nm ρ H w) av v) (h1 : o + i.size ≤ cs.length) (h2 : av.cells.length = i.size) (h3 : av.cells.all AVal.cellish = true)
    (d' : ABlk) (hd' : (∃ el, d = .cells cs el ∧ d' = .cells (fillAt cs o av.cells) el) ∨ (∃ el z, d = .vec cs el z ∧ d' = .vec (fillAt cs o av.cells) el z)) :
    ∃ w', (storeVar t ⟨b, o, none⟩ v).run P w = .ok () w' ∧ HRel (nm ρ (H.set n d') w') ∧ Pres w.heap.size ρ H w ρ (H.set n d') w' := by
  obtain ⟨k1, k2⟩ := cells_of hv h3
  have hbr := hr.blk n d hd
  have hall := one_all (as := av.cells) (vs := v.cells.toList) (by simpa using k1) (k2.congr fun i _ => by simp) h3
  have main : ∀ arr el, w.heap[b]? = some (.cells arr el (0, 0)) → cs.length ≤ arr.size → VsRel (nm ρ H w) cs (fun i => arr[i]?) → d.isLive = true →
      (∀ e, Ext (nm ρ H w) e → (arrFill arr o v.cells.toList).size = arr.size → e.heap[b]? = some (.cells (arrFill arr o v.cells.toList) el (0, 0)) → BRel e (some b) d') →
      ∃ w', (storeVar t ⟨b, o, none⟩ v).run P w = .ok () w' ∧ HRel (nm ρ (H.set n d') w') ∧ Pres w.heap.size ρ H w ρ (H.set n d') w' := by
    intro arr el hh hle hrel hl hc
    have hlen : v.cells.toList.length = i.size := by simp [k1, h2]
    obtain ⟨g1, g2⟩ := write_ok hr hd hl hb hh (vs := v.cells.toList) (o := o) (by omega) d' hc
    refine ⟨_, ?_, g1, g2⟩
    have hsz : ¬ (v.cells.size ≠ i.size) := by simp [k1, h2]
    simp only [storeVar, Sem.run_bind, run_sizeOf hi, Result.andThen_ok, Sem.run_ite]
    rw [if_neg hsz]
    have := run_storeCells (P := P) v.cells.toList w b o 0 arr el hh (by omega) hall
    simpa using this
  rcases hd' with ⟨el, rfl, rfl⟩ | ⟨el, z, rfl, rfl⟩
  · obtain ⟨b', arr, e1, e2, e3, e4⟩ := hbr
    have : some b' = some b := by rw [← e1]; exact hb
    cases this
    refine main arr el e2 (by omega) e4 rfl fun e hx hs hh => ⟨b, _, rfl, hh, ?_, ?_⟩
    · rw [hs, e3, fillAt_length]
    · exact fill_rel _ _ _ _ _ (by simp [k1]) (by simp [k1, h2]; omega) (e4.ext hx) ((k2.congr fun i _ => by simp).ext hx)
  · rcases hbr with ⟨e1, e2⟩ | ⟨b', arr, e1, e2, e3⟩
    · rw [show (nm ρ H w).ρ n = ρ n from rfl, hb] at e1; cases e1
    · have : some b' = some b := by rw [← e1]; exact hb
      cases this
      have hle : cs.length ≤ arr.size := by
        by_cases h0 : cs.length = 0
        · omega
        · rw [vsRel_iff] at e3
          obtain ⟨u, hu, _⟩ := e3 (cs.length - 1) (by omega)
          have := lt_of_some hu
          omega
      refine main arr el e2 hle e3 rfl fun e hx hs hh => .inr ⟨b, _, rfl, hh, ?_⟩
      exact fill_rel _ _ _ _ _ (by simp [k1]) (by simp [k1, h2]; omega) (e3.ext hx) ((k2.congr fun i _ => by simp).ext hx)

end
end Go.Am

namespace Go.Am
open Go
set_option linter.unusedVariables false

section
variable {P : Program} {ρ : Nat → Option Nat} {H : AHeap} {w : World}

/-! ### Slices -/

/-- A slice's value: its length, and where it begins. -/
theorem slice_inv {e : Nm} {s : AVal} {v : Value} (h : VRel e s v) {n : Nat} (hn : slen s = some n) : ∃ a cap, v = .slice a n cap ∧ n ≤ cap := by
  cases s <;> simp [slen] at hn
  · subst hn; simp only [VRel] at h; exact ⟨none, 0, h, Nat.le_refl _⟩
  · subst hn; simp only [VRel] at h; obtain ⟨_, a, cap, rfl, hc, _⟩ := h; exact ⟨a, cap, rfl, hc⟩
  · subst hn; simp only [VRel] at h; obtain ⟨a, cap, rfl, hc, _⟩ := h; exact ⟨a, cap, rfl, hc⟩

theorem content_alive {n : Nat} {cs : List AVal} (h : content H[n]? = some cs) : alive H n = true := by
  cases hn : H[n]? with
  | none => simp [hn, content] at h
  | some c => cases c <;> simp [hn, content] at h <;> exact alive_of hn rfl

/-- A slice that can be seen, and has elements, begins somewhere. -/
theorem slice_base {s : AVal} {v : Value} (h : VRel (nm ρ H w) s v) (hv : (view H s).isSome = true) {n : Nat} (hn : slen s = some n) (hpos : 0 < n) :
    ∃ b o cap, v = .slice (some ⟨b, o, none⟩) n cap ∧ n ≤ cap := by
  cases s <;> simp [slen] at hn
  · omega
  · rename_i m off len sz
    subst hn
    simp only [VRel] at h
    obtain ⟨_, a, cap, rfl, hc, h⟩ := h
    simp only [view] at hv
    cases hcn : content H[m]? with
    | none => simp [hcn] at hv
    | some cs =>
      rcases h (content_alive hcn) with ⟨_, h1, _⟩ | ⟨h1, _⟩ | ⟨b, r, _, h1, _⟩
      · omega
      · omega
      · exact ⟨b, off, cap, by rw [h1], hc⟩
  · subst hn
    simp only [VRel] at h
    obtain ⟨a, cap, rfl, hc, _, h⟩ := h
    rcases h with ⟨_, h⟩ | ⟨b, o, rfl, _⟩
    · omega
    · exact ⟨b, o, cap, rfl, hc⟩

theorem asInt_int (k : IntKind) (n : Int) : (asIntOf (.int k n)).run P w = .ok (k, n) w := by simp [asIntOf]

/-- An element's address. -/
theorem idx_slice_ok (hr : HRel (nm ρ H w)) {t el : TypeId} {i : TypeInfo} (ht : P.underlying t = some (.slice el)) (hi : P.info? el = some i) {s : AVal} {k : IntKind} {j : Int} {x y : Value}
    (hs : VRel (nm ρ H w) s x) (hj : VRel (nm ρ H w) (.int k j) y) {n : Nat} (hn : slen s = some n) (h0 : 0 ≤ j) (h1 : j < n) (hv : (view H s).isSome = true) :
    ResOk P (Instr.indexAt t x y) ρ H w (.sptr s (j.toNat * i.size)) H := by
  obtain ⟨b, o, cap, rfl, hc⟩ := slice_base hs hv hn (by omega)
  obtain rfl := inv_int hj
  refine ResOk.pure hr (v := .pointer (some ⟨b, o + j.toNat * i.size, none⟩)) ?_ ?_
  · simp only [VRel]; exact ⟨b, o, n, cap, rfl, hs⟩
  · simp [Instr.indexAt, asInt_int, run_underlying ht, h0, h1, run_sizeOf hi, add_none]

theorem add_off (a : Addr) (k b o : Nat) (h : a = ⟨b, o, none⟩) : a.add k = ⟨b, o + k, none⟩ := by subst h; exact add_none _ _ _

theorem add_block (a : Addr) (k : Nat) : (a.add k).block = a.block := by unfold Addr.add; split <;> rfl

/-- An address k cells on. -/
theorem ptr_add {e : Nm} {n o k : Nat} {a : Addr} (h : VRel e (.ptr n o) (.pointer (some a))) : VRel e (.ptr n (o + k)) (.pointer (some (a.add k))) := by
  simp only [VRel] at h ⊢
  obtain ⟨hn, a', h0, h⟩ := h
  cases h0
  refine ⟨hn, _, rfl, fun hl => ?_⟩
  obtain ⟨h1, h2⟩ := h hl
  rw [add_block]
  exact ⟨h1, by rw [h2]; simp [add_none]⟩

theorem sptr_add {e : Nm} {s : AVal} {o k : Nat} {a : Addr} (h : VRel e (.sptr s o) (.pointer (some a))) : VRel e (.sptr s (o + k)) (.pointer (some (a.add k))) := by
  simp only [VRel] at h ⊢
  obtain ⟨b, o', len, cap, h0, h⟩ := h
  cases h0
  exact ⟨b, o', len, cap, by rw [add_none, Nat.add_assoc], h⟩

theorem ptr_some {e : Nm} {a : AVal} (ha : (∃ n o, a = .ptr n o) ∨ ∃ s o, a = .sptr s o) {v : Value} (h : VRel e a v) : ∃ p, v = .pointer (some p) := by
  rcases ha with ⟨n, o, rfl⟩ | ⟨s, o, rfl⟩
  · simp only [VRel] at h; obtain ⟨_, a, rfl, _⟩ := h; exact ⟨a, rfl⟩
  · simp only [VRel] at h; obtain ⟨_, _, _, _, rfl, _⟩ := h; exact ⟨_, rfl⟩

theorem idx_array_ok (hr : HRel (nm ρ H w)) {t el : TypeId} {m : Nat} {i : TypeInfo} (ht : P.underlying t = some (.array m el)) (hi : P.info? el = some i) {p : Addr} {k : IntKind} {j : Int} {y : Value}
    (hj : VRel (nm ρ H w) (.int k j) y) (h0 : 0 ≤ j) (h1 : j < m) {av : AVal} (ha : VRel (nm ρ H w) av (.pointer (some (p.add (j.toNat * i.size))))) :
    ResOk P (Instr.indexAt t (.pointer (some p)) y) ρ H w av H := by
  obtain rfl := inv_int hj
  refine ResOk.pure hr ha ?_
  simp [Instr.indexAt, asInt_int, run_underlying ht, Instr.sureAddr, h0, h1, run_sizeOf hi]

theorem field_ok (hr : HRel (nm ρ H w)) {t : TypeId} {fs : Array Field} {f : Field} {j : Nat} {i : TypeInfo} (ht : P.underlying t = some (.struct fs)) (hf : fs[j]? = some f) (hi : P.info? f.type = some i) (hz : i.size ≠ 0)
    {p : Addr} {av : AVal} (ha : VRel (nm ρ H w) av (.pointer (some (p.add f.offset)))) : ResOk P (Instr.fieldAt t (.pointer (some p)) j) ρ H w av H := by
  refine ResOk.pure hr ha ?_
  simp [Instr.fieldAt, run_underlying ht, hf, Instr.sureAddr, fieldPlace, run_sizeOf hi, hz]

theorem nilc_ok (hr : HRel (nm ρ H w)) {x : Value} {a : AVal} (ha : VRel (nm ρ H w) a x) (hk : (∃ n o, a = .ptr n o) ∨ (∃ s o, a = .sptr s o) ∨ ∃ f p q, a = .fn f p q) (ρ' : Operand → Value) (X : Operand) (hX : ρ' X = x) (o : Oper) (ho : o.op = .nilCheck X) :
    (execOp ρ' o).run P w = .ok (.value x) w := by
  unfold execOp
  rw [ho]
  simp only [hX]
  rcases hk with ⟨n, o, rfl⟩ | ⟨s, o, rfl⟩ | ⟨f, p, q, rfl⟩
  · simp only [VRel] at ha; obtain ⟨_, a, rfl, _⟩ := ha; rfl
  · simp only [VRel] at ha; obtain ⟨_, _, _, _, rfl, _⟩ := ha; rfl
  · simp only [VRel] at ha; obtain ⟨xs, ys, rfl, _⟩ := ha; rfl

theorem len_ok (hr : HRel (nm ρ H w)) {t el : TypeId} (ht : P.underlying t = some (.slice el)) {s : AVal} {x : Value} (hs : VRel (nm ρ H w) s x) {n : Nat} (hn : slen s = some n) (ts : Array TypeId) (h0 : ts[0]? = some t) (ty : TypeId) :
    ResOk P (Builtin.len_ ts ty #[x]) ρ H w (.int .i64 n) H := by
  obtain ⟨a, cap, rfl, hc⟩ := slice_inv hs hn
  refine ResOk.pure hr (rel_int _ _ _) ?_
  simp [Builtin.len_, h0, run_underlying ht, goInt]

theorem lenstr_ok (hr : HRel (nm ρ H w)) {t : TypeId} (ht : P.underlying t = some .string) {s : ByteArray} {x : Value} (hs : VRel (nm ρ H w) (.str s) x) (ts : Array TypeId) (h0 : ts[0]? = some t) (ty : TypeId) :
    ResOk P (Builtin.len_ ts ty #[x]) ρ H w (.int .i64 s.size) H := by
  obtain rfl := inv_str hs
  refine ResOk.pure hr (rel_int _ _ _) ?_
  simp [Builtin.len_, h0, run_underlying ht, goInt]

theorem lenmap_ok (hr : HRel (nm ρ H w)) {t k el : TypeId} (ht : P.underlying t = some (.map k el)) {m : AVal} {x : Value} (hs : VRel (nm ρ H w) m x) {es : List (AVal × AVal)} (hm : (m = .nilm ∧ es = []) ∨ ∃ n, m = .mapv n ∧ H[n]? = some (.map es))
    (ts : Array TypeId) (h0 : ts[0]? = some t) (ty : TypeId) : ResOk P (Builtin.len_ ts ty #[x]) ρ H w (.int .i64 es.length) H := by
  refine ResOk.pure hr (rel_int _ _ _) ?_
  rcases hm with ⟨rfl, rfl⟩ | ⟨n, rfl, hn⟩
  · simp only [VRel] at hs; subst hs
    simp [Builtin.len_, h0, run_underlying ht, goInt]
  · simp only [VRel] at hs
    obtain ⟨_, b, rfl, hb⟩ := hs
    obtain ⟨b', ents, clk, e1, e2, e3, _⟩ := hr.blk n _ hn
    have : some b = some b' := by rw [← e1]; exact (hb (alive_of hn rfl)).symm
    cases this
    have e2' : w.heap[b]? = some (.map ents clk) := e2
    simp [Builtin.len_, h0, run_underlying ht, goInt, getObj, Sem.run, e2', e3]

/-! the bounds of a slice expression -/

theorem bound_ok {k : IntKind} {j : Int} {y : Value} (hj : VRel (nm ρ H w) (.int k j) y) {n : Nat} (h0 : 0 ≤ j) (h1 : j ≤ n) (c : BoundsCode) : (Instr.sliceBound y n c).run P w = .ok j.toNat w := by
  obtain rfl := inv_int hj
  simp [Instr.sliceBound, asInt_int, h0, h1]

/-- What stands at an optional bound. -/
def OptRel (e : Nm) : Option Int → Option Value → Prop
  | none, none => True
  | some j, some y => ∃ k, VRel e (.int k j) y
  | _, _ => False

theorem bounds_ok {isSlice : Bool} {len cap : Nat} (hc : len ≤ cap) {lo hi mx : Option Int} {lo' hi' mx' : Option Value} (h1 : OptRel (nm ρ H w) lo lo') (h2 : OptRel (nm ρ H w) hi hi') (h3 : OptRel (nm ρ H w) mx mx')
    (hmh : mx = none ∨ hi ≠ none) (hp : (bounds len len lo hi mx).1) :
    (Instr.sliceBounds isSlice len cap lo' hi' mx').run P w = .ok ((bounds len len lo hi mx).2.1, (bounds len len lo hi mx).2.2.1, if mx = none then cap else (bounds len len lo hi mx).2.2.2) w := by
  simp only [bounds] at hp ⊢
  obtain ⟨p1, p2, p3, p4⟩ := hp
  unfold Instr.sliceBounds
  cases mx with
  | none =>
    cases mx' with
    | some _ => exact h3.elim
    | none =>
      simp only [Option.getD_none] at p3 p4
      cases hi with
      | none =>
        cases hi' with
        | some _ => exact h2.elim
        | none =>
          cases lo with
          | none => cases lo' with
            | some _ => exact h1.elim
            | none => simp
          | some l => cases lo' with
            | none => exact h1.elim
            | some y =>
              obtain ⟨k, hk⟩ := h1
              simp only [Option.getD_none, Option.getD_some] at p1 p2
              simp [bound_ok hk p1 p2]
      | some h =>
        cases hi' with
        | none => exact h2.elim
        | some z =>
          obtain ⟨k', hk'⟩ := h2
          simp only [Option.getD_some] at p2 p3
          have hb := fun c => bound_ok (P := P) hk' (n := cap) (j := h) (by cases lo <;> simp at p1 p2 <;> omega) (by omega) c
          cases lo with
          | none => cases lo' with
            | some _ => exact h1.elim
            | none => cases isSlice <;> simp [hb]
          | some l => cases lo' with
            | none => exact h1.elim
            | some y =>
              obtain ⟨k, hk⟩ := h1
              simp only [Option.getD_some] at p1 p2
              have hb2 := fun c => bound_ok (P := P) hk (n := h.toNat) p1 (by omega) c
              cases isSlice <;> simp [hb, hb2]
  | some m =>
    cases mx' with
    | none => exact h3.elim
    | some u =>
      obtain ⟨km, hkm⟩ := h3
      simp only [Option.getD_some] at p3 p4
      cases hi with
      | none => rcases hmh with h | h <;> simp at h
      | some h =>
        cases hi' with
        | none => exact h2.elim
        | some z =>
          obtain ⟨k', hk'⟩ := h2
          simp only [Option.getD_some] at p2 p3
          have h0 : 0 ≤ h := by cases lo <;> simp at p1 p2 <;> omega
          have hbm := fun c => bound_ok (P := P) hkm (n := cap) (j := m) (by omega) (by omega) c
          have hb := fun c => bound_ok (P := P) hk' (n := m.toNat) (j := h) h0 (by omega) c
          cases lo with
          | none => cases lo' with
            | some _ => exact h1.elim
            | none => cases isSlice <;> simp [hb, hbm]
          | some l => cases lo' with
            | none => exact h1.elim
            | some y =>
              obtain ⟨k, hk⟩ := h1
              simp only [Option.getD_some] at p1 p2
              have hb2 := fun c => bound_ok (P := P) hk (n := h.toNat) p1 (by omega) c
              cases isSlice <;> simp [hb, hbm, hb2]

end
end Go.Am

namespace Go.Am
open Go
set_option linter.unusedVariables false

section
variable {P : Program} {ρ : Nat → Option Nat} {H : AHeap} {w : World}

/-- A slice of a slice. -/
theorem slice_ok (hr : HRel (nm ρ H w)) {t el : TypeId} {i : TypeInfo} (ht : P.underlying t = some (.slice el)) (hi : P.info? el = some i) {s : AVal} {x : Value} (hs : VRel (nm ρ H w) s x)
    {lo hi' mx : Option Int} {lo' hi'' mx' : Option Value} (h1 : OptRel (nm ρ H w) lo lo') (h2 : OptRel (nm ρ H w) hi' hi'') (h3 : OptRel (nm ρ H w) mx mx') (hmh : mx = none ∨ hi' ≠ none) {p : Prop} {av : AVal}
    (h : sliceA i.size s lo hi' mx = some (p, av)) (hp : p) : ResOk P (Instr.sliceAt t x lo' hi'' mx') ρ H w av H := by
  have fin : ∀ (a : Option Addr) (n cap : Nat), n ≤ cap → x = .slice a n cap → (bounds n n lo hi' mx).1 →
      (Instr.sliceAt t x lo' hi'' mx').run P w = .ok (.slice (if (if mx = none then cap else (bounds n n lo hi' mx).2.2.2) = (bounds n n lo hi' mx).2.1 then a else a.map (·.add ((bounds n n lo hi' mx).2.1 * i.size)))
        ((bounds n n lo hi' mx).2.2.1 - (bounds n n lo hi' mx).2.1) ((if mx = none then cap else (bounds n n lo hi' mx).2.2.2) - (bounds n n lo hi' mx).2.1)) w := by
    rintro a n cap hc rfl hb
    simp [Instr.sliceAt, Instr.slice, run_underlying ht, bounds_ok hc h1 h2 h3 hmh hb, run_sizeOf hi]
  cases s <;> simp only [sliceA] at h <;> first | (cases h; done) | skip
  · -- nils
    simp only [Option.some.injEq, Prod.mk.injEq] at h
    obtain ⟨rfl, rfl⟩ := h
    simp only [VRel] at hs
    refine ResOk.pure hr (v := .slice none 0 0) (by simp [VRel]) ?_
    rw [fin none 0 0 (Nat.le_refl _) hs hp]
    simp only [bounds] at hp ⊢
    obtain ⟨p1, p2, p3, p4⟩ := hp
    have e1 : lo.getD 0 = 0 := by have := p4; omega
    have e2 : hi'.getD ((0 : Nat) : Int) = 0 := by omega
    have e3 : mx.getD ((0 : Nat) : Int) = 0 := by omega
    simp only [e1, e2, e3]
    cases mx <;> simp
  · -- slc
    rename_i n off len z
    simp only [Option.some.injEq, Prod.mk.injEq] at h
    obtain ⟨rfl, rfl⟩ := h
    obtain ⟨hb, rfl⟩ := hp
    simp only [VRel] at hs
    obtain ⟨hn, a, cap, hx, hc, hs⟩ := hs
    have hb' := hb
    simp only [bounds] at hb'
    obtain ⟨p1, p2, p3, p4⟩ := hb'
    generalize hl : (bounds len len lo hi' mx).2.1 = l at *
    generalize hh : (bounds len len lo hi' mx).2.2.1 = h at *
    have hlh : l ≤ h := by rw [← hl, ← hh]; simp only [bounds]; omega
    have hm0 : ∃ m, (if mx = none then cap else (bounds len len lo hi' mx).2.2.2) = m ∧ h ≤ m ∧ m ≤ cap := by
      refine ⟨_, rfl, ?_, ?_⟩
      · split
        · rw [← hh]; simp only [bounds]; omega
        · rw [← hh]; simp only [bounds]; omega
      · split
        · exact Nat.le_refl _
        · simp only [bounds]; omega
    have hrun := fin a len cap hc hx hb
    rw [hl, hh] at hrun
    obtain ⟨m, hm, hm1, hm2⟩ := hm0
    rw [hm] at hrun
    refine ResOk.pure hr ?_ hrun
    simp only [VRel]
    refine ⟨hn, _, _, rfl, by omega, fun ha => ?_⟩
    by_cases hml : m = l
    · exact .inr (.inl ⟨by omega, by omega⟩)
    · rcases hs ha with ⟨_, h4, _⟩ | ⟨_, h4⟩ | ⟨b, r, h4, h5, h6, h7⟩
      · omega
      · omega
      · refine .inr (.inr ⟨b, r, h4, ?_, h6, ?_⟩)
        · rw [if_neg hml, h5]; simp [add_none]
        · have : (m - l) * i.size + l * i.size ≤ cap * i.size := by rw [← Nat.add_mul]; exact Nat.mul_le_mul_right _ (by omega)
          omega
  · -- imm
    rename_i cs len tight
    simp only [Option.some.injEq, Prod.mk.injEq] at h
    obtain ⟨rfl, rfl⟩ := h
    obtain ⟨hb, hlen⟩ := hp
    simp only [VRel] at hs
    obtain ⟨a, cap, hx, hc, htg, hs⟩ := hs
    have hb' := hb
    simp only [bounds] at hb'
    obtain ⟨p1, p2, p3, p4⟩ := hb'
    generalize hl : (bounds len len lo hi' mx).2.1 = l at *
    generalize hh : (bounds len len lo hi' mx).2.2.1 = h at *
    generalize hmm : (bounds len len lo hi' mx).2.2.2 = m0 at *
    have hlh : l ≤ h := by rw [← hl, ← hh]; simp only [bounds]; omega
    have hhl : h ≤ len := by rw [← hh]; simp only [bounds]; omega
    have hm0 : ∃ m, (if mx = none then cap else m0) = m ∧ h ≤ m ∧ m ≤ cap := by
      refine ⟨_, rfl, ?_, ?_⟩
      · split
        · omega
        · rw [← hh, ← hmm]; simp only [bounds]; omega
      · split
        · exact Nat.le_refl _
        · rw [← hmm]; simp only [bounds]; omega
    have hrun := fin a len cap hc hx hb
    rw [hl, hh, hmm] at hrun
    obtain ⟨m, hm, hm1, hm2⟩ := hm0
    rw [hm] at hrun
    refine ResOk.pure hr ?_ hrun
    simp only [VRel]
    refine ⟨_, _, rfl, by omega, ?_, ?_⟩
    · intro htt
      simp only [Bool.or_eq_true, Bool.and_eq_true, decide_eq_true_eq] at htt
      rcases htt with ⟨⟨t1, t2⟩, t3⟩ | ⟨t1, t2⟩
      · have t2' : mx = none := by cases mx <;> simp at t2 ⊢
        rw [if_pos t2'] at hm
        have := htg t1
        omega
      · have : mx ≠ none := by cases mx <;> simp at t1 ⊢
        rw [if_neg this] at hm
        omega
    · by_cases hhe : l = h
      · left; subst hhe; simp
      · right
        rcases hs with ⟨h4, h5⟩ | ⟨b, o, h4, h5, arr, el', fz, h6, h7⟩
        · omega
        · have hml : ¬ m = l := by omega
          refine ⟨b, o + l * i.size, ?_, h5, arr, el', fz, h6, ?_⟩
          · rw [if_neg hml, h4]; simp [add_none]
          · exact ((h7.drop (l * i.size)).take ((h - l) * i.size)).congr fun j _ => by rw [Nat.add_assoc]

theorem slicestr_ok (hr : HRel (nm ρ H w)) {t : TypeId} (ht : P.underlying t = some .string) {s : ByteArray} {x : Value} (hs : VRel (nm ρ H w) (.str s) x) {lo hi' : Option Int} {lo' hi'' : Option Value} (h1 : OptRel (nm ρ H w) lo lo') (h2 : OptRel (nm ρ H w) hi' hi'')
    (hp : (bounds s.size s.size lo hi' none).1) : ResOk P (Instr.sliceAt t x lo' hi'' none) ρ H w (.str (s.extract (bounds s.size s.size lo hi' none).2.1 (bounds s.size s.size lo hi' none).2.2.1)) H := by
  obtain rfl := inv_str hs
  refine ResOk.pure hr (rel_str _ _) ?_
  have := bounds_ok (P := P) (isSlice := false) (Nat.le_refl s.size) h1 h2 (mx := none) (mx' := none) trivial (.inl rfl) hp
  simp [Instr.sliceAt, Instr.slice, run_underlying ht, this]

theorem slicearr_ok (hr : HRel (nm ρ H w)) {t el : TypeId} {m : Nat} {i : TypeInfo} (ht : P.underlying t = some (.array m el)) (hi : P.info? el = some i) {n o : Nat} {x : Value} (hs : VRel (nm ρ H w) (.ptr n o) x) {cs : List AVal} {el' : TypeId} (hn : H[n]? = some (.cells cs el'))
    (hsz : o + m * i.size ≤ cs.length) {lo hi' mx : Option Int} {lo' hi'' mx' : Option Value} (h1 : OptRel (nm ρ H w) lo lo') (h2 : OptRel (nm ρ H w) hi' hi'') (h3 : OptRel (nm ρ H w) mx mx') (hmh : mx = none ∨ hi' ≠ none)
    (hp : (bounds m m lo hi' mx).1) :
    ResOk P (Instr.sliceAt t x lo' hi'' mx') ρ H w (.slc n (o + (bounds m m lo hi' mx).2.1 * i.size) ((bounds m m lo hi' mx).2.2.1 - (bounds m m lo hi' mx).2.1) i.size) H := by
  simp only [VRel] at hs
  obtain ⟨hnl, a, rfl, hs⟩ := hs
  have hal : alive H n = true := alive_of hn rfl
  obtain ⟨h4, h5⟩ := hs hal
  obtain ⟨b, arr, e1, e2, e3, e4⟩ := hr.blk n _ hn
  have : some b = some a.block := by rw [← e1]; exact h4
  cases this
  have hbo := bounds_ok (P := P) (isSlice := false) (Nat.le_refl m) h1 h2 h3 hmh hp
  have hlh : (bounds m m lo hi' mx).2.1 ≤ (bounds m m lo hi' mx).2.2.1 ∧ (bounds m m lo hi' mx).2.2.1 ≤ (if mx = none then m else (bounds m m lo hi' mx).2.2.2) ∧ (if mx = none then m else (bounds m m lo hi' mx).2.2.2) ≤ m := by
    simp only [bounds] at hp ⊢
    obtain ⟨p1, p2, p3, p4⟩ := hp
    refine ⟨by omega, ?_, ?_⟩
    · split
      · omega
      · omega
    · split
      · omega
      · omega
  generalize (bounds m m lo hi' mx).2.1 = l at *
  generalize (bounds m m lo hi' mx).2.2.1 = h at *
  generalize (if mx = none then m else (bounds m m lo hi' mx).2.2.2) = q at *
  refine ResOk.pure hr (v := .slice (some (if q = l then a else a.add (l * i.size))) (h - l) (q - l)) ?_ ?_
  · simp only [VRel]
    refine ⟨hnl, _, _, rfl, by omega, fun _ => ?_⟩
    by_cases hql : q = l
    · exact .inr (.inl ⟨by omega, by omega⟩)
    · refine .inr (.inr ⟨a.block, arr.size, e1, ?_, room_at e2, ?_⟩)
      · rw [if_neg hql, h5]; simp [add_none]
      · have e3' : arr.size = cs.length := e3
        have : (q - l) * i.size + l * i.size ≤ m * i.size := by rw [← Nat.add_mul]; exact Nat.mul_le_mul_right _ (by omega)
        omega
  · simp [Instr.sliceAt, run_underlying ht, Instr.sureAddr, hbo, run_sizeOf hi]

theorem toArr_ok (hr : HRel (nm ρ H w)) {t el : TypeId} {m : Nat} (ht : P.underlying t = some (.array m el)) {s : AVal} {x : Value} (hs : VRel (nm ρ H w) s x) {n : Nat} (hn : slen s = some n) (h1 : m ≤ n) (h0 : 0 < m) (hv : (view H s).isSome = true) :
    ResOk P (Instr.arrayAt t x) ρ H w (.sptr s 0) H := by
  obtain ⟨b, o, cap, rfl, hc⟩ := slice_base hs hv hn (by omega)
  refine ResOk.pure hr (v := .pointer (some ⟨b, o, none⟩)) ?_ ?_
  · simp only [VRel]; exact ⟨b, o, n, cap, rfl, hs⟩
  · have : ¬ n < m := by omega
    simp [Instr.arrayAt, run_underlying ht, this]

theorem sidx_ok (hr : HRel (nm ρ H w)) {t : TypeId} (ht : P.underlying t = some .string) {s : ByteArray} {k : IntKind} {j : Int} {x y : Value} (hs : VRel (nm ρ H w) (.str s) x) (hj : VRel (nm ρ H w) (.int k j) y) (h0 : 0 ≤ j) (h1 : j < s.size) :
    ResOk P (Instr.index t x y) ρ H w (.int .u8 (s.get! j.toNat).toNat) H := by
  obtain rfl := inv_str hs
  obtain rfl := inv_int hj
  refine ResOk.pure hr (rel_int _ _ _) ?_
  have hlt : j.toNat < s.size := by omega
  have : s[j.toNat]? = some (s.get! j.toNat) := by
    rw [getElem?_pos s j.toNat hlt]
    congr 1
    obtain ⟨⟨l⟩⟩ := s
    simp [ByteArray.get!, getElem!_def]
    have hl : j.toNat < l.length := hlt
    simp [hl]
    rfl
  simp [Instr.index, asInt_int, run_underlying ht, h0, this]

theorem mkfn_ok (hr : HRel (nm ρ H w)) {f : FuncId} {first captured : List AVal} {xs ys : Array Value} (h1 : xs.size = first.length) (h2 : ys.size = captured.length) (h3 : VsRel (nm ρ H w) first (fun i => xs[i]?)) (h4 : VsRel (nm ρ H w) captured (fun i => ys[i]?)) :
    ResOk P (Instr.makeFunc (.func f) xs ys) ρ H w (.fn f first captured) H :=
  ResOk.pure hr (v := .func (.func f) xs ys) (by simp only [VRel]; exact ⟨xs, ys, rfl, h1, h2, h3, h4⟩) (by simp [Instr.makeFunc])

end
end Go.Am

namespace Go.Am
open Go
set_option linter.unusedVariables false

section
variable {P : Program} {ρ : Nat → Option Nat} {H : AHeap} {w : World}

/-! ### append -/

theorem heap_nm {w w2 : World} (h : w2.heap = w.heap) : nm ρ H w2 = nm ρ H w := by simp [nm, h]

/-- What is appended: how many elements, and their cells. -/
theorem src_ok (hr : HRel (nm ρ H w)) {x : AVal} {v : Value} (hx : VRel (nm ρ H w) x v) {n : Nat} {xs : List AVal} {sz : Nat}
    (hn : srcLen x = some n) (hxs : srcCells H x = some xs)
    (hl : xs.length = n * sz) : ∃ news : List Value, news.length = n * sz ∧ VsRel (nm ρ H w) xs (fun i => news[i]?) ∧ (∀ w2 : World, (Builtin.lenOf v).run P w2 = .ok n w2) ∧
      (∀ w2 : World, w2.heap = w.heap → (Builtin.firstCells sz n v).run P w2 = .ok news.toArray w2) := by
  have plain : slen x = some n → view H x = some xs → ∃ news : List Value, news.length = n * sz ∧ VsRel (nm ρ H w) xs (fun i => news[i]?) ∧ (∀ w2 : World, (Builtin.lenOf v).run P w2 = .ok n w2) ∧
      (∀ w2 : World, w2.heap = w.heap → (Builtin.firstCells sz n v).run P w2 = .ok news.toArray w2) := by
    intro h1 h2
    obtain ⟨a, cap, rfl, hc⟩ := slice_inv hx h1
    by_cases h0 : xs.length = 0
    · have hxs0 : xs = [] := List.length_eq_zero_iff.1 h0
      refine ⟨[], by simp; omega, by rw [hxs0]; simp [VsRel], fun w2 => by simp [Builtin.lenOf], fun w2 _ => ?_⟩
      cases a with
      | none => simp [Builtin.firstCells]
      | some a => simp [Builtin.firstCells, ← hl, h0, loadCells, loadCellsFrom]
    · have hnpos : 0 < n := by
        cases n with
        | zero => simp at hl; simp [hl] at h0
        | succ n => omega
      obtain ⟨b, o, cap', hv, _⟩ := slice_base hx (by simp [h2]) h1 hnpos
      cases hv
      have hp : VRel (nm ρ H w) (.sptr x 0) (.pointer (some ⟨b, o, none⟩)) := by simp only [VRel]; exact ⟨b, o, n, cap, rfl, hx⟩
      obtain ⟨b', o', arr, el, fz, g1, g2, g3⟩ := cellsAt_ok hr hp (cs := xs) (by simp [cellsAt, h2]) (by omega)
      cases g1
      obtain ⟨vs, k1, k2, k3, k4⟩ := load_cells (P := P) g2 g3
      refine ⟨vs, by rw [k1, hl], k3, fun w2 => by simp [Builtin.lenOf], fun w2 hw => ?_⟩
      obtain ⟨vs', q1, q2, q3, q4⟩ := load_cells (P := P) (w := w2) (b := b) (o := o) (by rw [hw]; exact g2) g3
      have : vs' = vs := by
        apply List.ext_getElem?
        intro j
        by_cases hj : j < xs.length
        · have e1 := k4 j (vs[j]'(by omega)) (by simp [k1, hj])
          have e2 := q4 j (vs'[j]'(by omega)) (by simp [q1, hj])
          rw [add_none, cell_at g2] at e1
          rw [add_none, cell_at (w := w2) (by rw [hw]; exact g2)] at e2
          rw [List.getElem?_eq_getElem (by omega), List.getElem?_eq_getElem (by omega)]
          exact (Option.some.inj (e1.symm.trans e2)) ▸ rfl
        · simp [k1, q1, hj]
      subst this
      simp only [Builtin.firstCells, ← hl, q2]
  cases x <;> first | (exact plain hn hxs) | skip
  rename_i s
  obtain rfl := inv_str hx
  simp only [srcLen, srcCells, Option.some.injEq] at hn hxs
  subst hn hxs
  refine ⟨s.data.toList.map fun c => .int .u8 c.toNat, by simpa using hl, ?_, fun w2 => by simp [Builtin.lenOf], fun w2 _ => ?_⟩
  · rw [vsRel_iff]
    intro i hi
    simp at hi
    exact ⟨.int .u8 s.data[i].toNat, by simp [hi], by simp [VRel]⟩
  · simp [Builtin.firstCells]
    have hx : (Array.map (fun b : UInt8 => Value.int IntKind.u8 (b.toNat : Int)) s.data).extract 0 s.size = Array.map (fun b : UInt8 => Value.int IntKind.u8 (b.toNat : Int)) s.data := by
      apply Array.extract_eq_self_of_le; simp
    first
    | (apply Array.ext'; simp; done)
    | (rw [hx])
    | simp [hx]

theorem run_grow {t t' ty e : TypeId} {d' : TypeDesc} {i : TypeInfo} {z : Value} (ht : P.underlying t = some (.slice e)) (ht' : P.underlying t' = some d') (hd : (∃ e2, d' = .slice e2) ∨ d' = .string) (hi : P.info? e = some i) (hz : i.zero = some z)
    {a : Option Addr} {len cap n : Nat} {x : Value} {olds news : List Value} (hlen : ∀ w2 : World, (Builtin.lenOf x).run P w2 = .ok n w2)
    (hn : ∀ w2 : World, w2.heap = w.heap → (Builtin.firstCells i.size n x).run P w2 = .ok news.toArray w2) (ho : ∀ w2 : World, w2.heap = w.heap → (Builtin.firstCells i.size len (.slice a len cap)).run P w2 = .ok olds.toArray w2)
    (hg : cap < len + n) (h63 : len + n ≤ 9223372036854775807) (hfit : (len + n) * i.bytes ≤ 140737488355328) :
    (Builtin.append_ #[t, t'] ty #[.slice a len cap, x]).run P w =
      .ok (.slice (some ⟨w.heap.size, 0, none⟩) (len + n) (grownCap w (len + n) cap e))
        (w.drew.alloc (.cells (olds.toArray ++ news.toArray ++ Builtin.zeroCells z.cells (grownCap w (len + n) cap e - (len + n))) e)) := by
  have hn0 : ¬ (len + n ≤ cap) := by omega
  have h63' : ¬ (9223372036854775807 < ((len : Int) + (n : Int))) := by omega
  have h48' : ¬ (281474976710656 < Builtin.nextslicecap (len + n) cap * i.bytes) := by have := growslice_fits hg hfit; omega
  have hnd := hn w.drew rfl
  have hod := ho w.drew rfl
  rcases hd with ⟨e2, rfl⟩ | rfl
  all_goals
    simp [Builtin.append_, run_underlying ht, run_underlying ht', sizeOf, typeInfo, zeroValue, hi, hz, hlen, hn0, h63', h48', Question.forced, hnd, hod, newRow, grownCap]
    congr 2
    apply Array.ext'
    simp [List.append_assoc]

theorem run_inplace {t t' ty e : TypeId} {d' : TypeDesc} {i : TypeInfo} (ht : P.underlying t = some (.slice e)) (ht' : P.underlying t' = some d') (hd : (∃ e2, d' = .slice e2) ∨ d' = .string) (hi : P.info? e = some i)
    {a : Option Addr} {len cap n : Nat} {x : Value} {news : List Value} (hlen : ∀ w2 : World, (Builtin.lenOf x).run P w2 = .ok n w2)
    (hn : ∀ w2 : World, w2.heap = w.heap → (Builtin.firstCells i.size n x).run P w2 = .ok news.toArray w2) (hg : len + n ≤ cap) {w' : World}
    (hs : ∀ p, a = some p → (storeCells (p.add (len * i.size)) news).run P w = .ok () w') (hs0 : a = none → w' = w) :
    (Builtin.append_ #[t, t'] ty #[.slice a len cap, x]).run P w = .ok (.slice a (len + n) cap) w' := by
  have hnd := hn w rfl
  rcases hd with ⟨e2, rfl⟩ | rfl
  all_goals
    cases a with
    | none =>
      have := hs0 rfl; subst this
      simp [Builtin.append_, run_underlying ht, run_underlying ht', sizeOf, typeInfo, hi, hlen, hg, hnd]
    | some p =>
      have := hs p rfl
      simp [Builtin.append_, run_underlying ht, run_underlying ht', sizeOf, typeInfo, hi, hlen, hg, hnd, this]

theorem grown_ge (w : World) {need old : Nat} (e : TypeId) (h : need ≤ 9223372036854775807) : need ≤ grownCap w need old e := by
  simp only [grownCap, Question.cut]; omega

theorem zeroCells_size (z : Array Value) (n : Nat) : (Builtin.zeroCells z n).size = n * z.size := by simp [Builtin.zeroCells]

theorem VsRel.append {e : Nm} {as bs : List AVal} {xs ys : List Value} (hl : xs.length = as.length) (h1 : VsRel e as (fun i => xs[i]?)) (h2 : VsRel e bs (fun i => ys[i]?)) : VsRel e (as ++ bs) (fun i => (xs ++ ys)[i]?) := by
  rw [vsRel_iff] at *
  intro i hi
  simp at hi
  by_cases hlt : i < as.length
  · obtain ⟨v, g1, g2⟩ := h1 i hlt
    exact ⟨v, by rw [List.getElem?_append_left (by omega)]; exact g1, by rw [List.getElem_append_left hlt]; exact g2⟩
  · obtain ⟨v, g1, g2⟩ := h2 (i - as.length) (by omega)
    refine ⟨v, ?_, ?_⟩
    · rw [List.getElem?_append_right (by omega), hl]; exact g1
    · rw [List.getElem_append_right (by omega)]; exact g2

/-- The slice has grown into a new block; its elder name has gone. -/
theorem grow_ok (hr : HRel (nm ρ H w)) {t t' ty e : TypeId} {d' : TypeDesc} {i : TypeInfo} {z : Value} (ht : P.underlying t = some (.slice e)) (ht' : P.underlying t' = some d') (hd : (∃ e2, d' = .slice e2) ∨ d' = .string) (hi : P.info? e = some i) (hz : i.zero = some z)
    (hzs : z.cells.size = i.size) {a : Option Addr} {len cap n : Nat} {x : Value} {olds news : List Value} {cs xs : List AVal} (hlen : ∀ w2 : World, (Builtin.lenOf x).run P w2 = .ok n w2)
    (hn : ∀ w2 : World, w2.heap = w.heap → (Builtin.firstCells i.size n x).run P w2 = .ok news.toArray w2) (ho : ∀ w2 : World, w2.heap = w.heap → (Builtin.firstCells i.size len (.slice a len cap)).run P w2 = .ok olds.toArray w2)
    (hg : cap < len + n) (h63 : len + n ≤ 9223372036854775807) (hfit : (len + n) * i.bytes ≤ 140737488355328) (hol : olds.length = len * i.size) (hnl : news.length = n * i.size) (hcl : olds.length = cs.length)
    (h1 : VsRel (nm ρ H w) cs (fun i => olds[i]?)) (h2 : VsRel (nm ρ H w) xs (fun i => news[i]?)) :
    ResOk P (Builtin.append_ #[t, t'] ty #[.slice a len cap, x]) ρ H w (.slc H.length 0 (len + n) i.size) (H ++ [.vec (cs ++ xs) e i.size]) := by
  have hge := grown_ge w (old := cap) e h63
  obtain ⟨g1, g2, g3⟩ := new_vec (w := w.drew) (H := H) (ρ := ρ) hr (arr := olds.toArray ++ news.toArray ++ Builtin.zeroCells z.cells (grownCap w (len + n) cap e - (len + n))) (cs := cs ++ xs) e i.size
    (by
      refine (VsRel.append hcl h1 h2).congr fun j hj => ?_
      simp at hj
      have hb : j < olds.length + news.length := by
        have : xs.length ≤ news.length := by
          by_cases hx : xs.length = 0
          · omega
          · rw [vsRel_iff] at h2
            obtain ⟨v, hv, _⟩ := h2 (xs.length - 1) (by omega)
            have := (List.getElem?_eq_some_iff.1 hv).1
            omega
        omega
      rw [Array.getElem?_append_left (by simpa using hb)]
      simp) (len + n) (grownCap w (len + n) cap e) hge
    (by
      simp only [Array.size_append, zeroCells_size, hzs, List.size_toArray, hol, hnl]
      rw [← Nat.add_mul, ← Nat.add_mul]
      exact Nat.mul_le_mul_right _ (by omega))
  exact ⟨_, _, _, run_grow ht ht' hd hi hz hlen hn ho hg h63 hfit, g3, g1, (pres_drew w.heap.size).trans g2⟩

theorem append_nil_ok (hr : HRel (nm ρ H w)) {t t' ty e : TypeId} {d' : TypeDesc} {i : TypeInfo} {z : Value} (ht : P.underlying t = some (.slice e)) (ht' : P.underlying t' = some d') (hd : (∃ e2, d' = .slice e2) ∨ d' = .string) (hi : P.info? e = some i) (hz : i.zero = some z)
    (hzs : z.cells.size = i.size) {s x : AVal} {vs vx : Value} (hs : VRel (nm ρ H w) s vs) (hx : VRel (nm ρ H w) x vx) {p : Prop} {av : AVal} {H' : AHeap}
    (h : appendA H e i.size i.bytes s x = some (p, av, H')) (hp : p) : ResOk P (Builtin.append_ #[t, t'] ty #[vs, vx]) ρ H w av H' := by
  unfold appendA at h
  generalize hn : srcLen x = on at h
  generalize hxs : srcCells H x = oxs at h
  cases on with
  | none => cases oxs <;> simp at h
  | some n =>
    cases oxs with
    | none => simp at h
    | some xs =>
      simp only at h
      cases s <;> simp only at h <;> first | (cases h; done) | skip
      · -- a nil slice
        simp only [Option.some.injEq, Prod.mk.injEq] at h
        obtain ⟨rfl, rfl, rfl⟩ := h
        obtain ⟨hl, hsz, hb, h63⟩ := hp
        obtain ⟨news, k1, k2, k3, k4⟩ := src_ok (P := P) hr hx hn hxs hl
        simp only [VRel] at hs
        subst hs
        by_cases h0 : n = 0
        · subst h0
          have hx0 : xs = [] := List.length_eq_zero_iff.1 (by simpa using hl)
          subst hx0
          refine ⟨.slice none 0 0, w, _, ?_, ?_, hrel_virt hr e i.size, pres_virt _ _⟩
          · have := run_inplace (P := P) (w := w) (w' := w) (ty := ty) (a := none) (len := 0) (cap := 0) ht ht' hd hi k3 k4 (by omega) (by simp) (fun _ => rfl)
            simpa using this
          · simp only [VRel]
            exact ⟨by simp [nm], none, 0, rfl, Nat.le_refl _, fun _ => .inl (by simp [nm, ρput])⟩
        · have := grow_ok (ty := ty) hr ht ht' hd hi hz hzs (a := none) (len := 0) (cap := 0) (olds := []) (cs := []) k3 k4 (fun w2 _ => by simp [Builtin.firstCells]) (by omega) (by omega) (by simpa using hb) (by simp) k1 rfl (by simp [VsRel]) k2
          simpa using this
      · -- a slice of a name
        rename_i m off len zz
        cases hm : H[m]? with
        | none => simp [hm] at h
        | some blk =>
          simp only [hm] at h
          cases blk <;> simp only at h <;> first | (cases h; done) | skip
          · -- a slice of an array, whole
            rename_i cs T
            simp only [Option.some.injEq, Prod.mk.injEq] at h
            obtain ⟨rfl, rfl, rfl⟩ := h
            obtain ⟨hl, hsz, hn0, hb, h63, rfl, rfl, hcl⟩ := hp
            obtain ⟨news, k1, k2, k3, k4⟩ := src_ok (P := P) hr hx hn hxs hl
            obtain ⟨olds, o1, o2, o3, o4⟩ := src_ok (P := P) hr hs (n := len) (xs := cs) (sz := i.size) rfl (by simp [srcCells, view, hm, content, hcl, List.take_of_length_le]) hcl
            simp only [VRel] at hs
            obtain ⟨hml, a, cap, rfl, hc, hs⟩ := hs
            have hal := alive_of hm (c := .cells cs T) rfl
            obtain ⟨b', arr, q1, q2, q3, q4⟩ := hr.blk m _ hm
            have hcap : cap < len + n := by
              rcases hs hal with ⟨_, rfl, _⟩ | ⟨rfl, rfl⟩ | ⟨b, r, h1, _, h3, h4⟩
              · omega
              · omega
              · have : some b' = some b := by rw [← q1]; exact h1
                cases this
                have hroom : room w.heap b' = some arr.size := room_at q2
                have hr0 : some r = some arr.size := by rw [← hroom]; exact h3.symm
                cases hr0
                have h5 : cap * i.size ≤ len * i.size := by omega
                have := Nat.le_of_mul_le_mul_right h5 hsz
                omega
            exact grow_ok hr ht ht' hd hi hz hzs k3 k4 o4 hcap h63 hb o1 k1 (by rw [o1, hcl]) o2 k2
          rename_i cs el' z'
          simp only [Option.some.injEq, Prod.mk.injEq] at h
          obtain ⟨rfl, rfl, rfl⟩ := h
          obtain ⟨hl, hsz, hb, h63, rfl, rfl, rfl, rfl, hcl, hall⟩ := hp
          obtain ⟨news, k1, k2, k3, k4⟩ := src_ok (P := P) hr hx hn hxs hl
          simp only [VRel] at hs
          obtain ⟨hml, a, cap, rfl, hc, hs⟩ := hs
          have hal := alive_of hm (c := .vec cs el' i.size) rfl
          have hbr := hr.blk m _ hm
          have hkl : (H.set m ABlk.dead).length = H.length := by simp
          have hkr := hrel_kill (n := m) hr
          have hkp := pres_kill (ρ := ρ) (H := H) (w := w) w.heap.size (n := m)
          by_cases hfit : len + n ≤ cap
          · -- in place
            rcases hs hal with ⟨h1, rfl, _⟩ | ⟨rfl, rfl⟩ | ⟨b, r, h1, rfl, h3, h4⟩
            · have e1 : n = 0 := by omega
              have e2 : len = 0 := by omega
              subst e1 e2
              have hx0 : xs = [] := List.length_eq_zero_iff.1 (by simpa using hl)
              have hc0 : cs = [] := List.length_eq_zero_iff.1 (by simpa using hcl)
              have hn0 : news = [] := List.length_eq_zero_iff.1 (by simpa using k1)
              subst hx0 hc0 hn0
              refine ⟨.slice a 0 0, w, ρput ρ H.length none, ?_, ?_, ?_, ?_⟩
              · have := run_inplace (P := P) (w := w) (w' := w) (ty := ty) (a := a) (len := 0) (cap := 0) ht ht' hd hi k3 k4 (by omega) (by simp [storeCells]) (fun _ => rfl)
                simpa using this
              · simp only [VRel]
                exact ⟨by simp [nm], a, 0, rfl, Nat.le_refl _, fun _ => .inl (by simp [nm, ρput])⟩
              · have := hrel_virt hkr el' i.size; rwa [hkl] at this
              · have := hkp.trans (pres_virt (ρ := ρ) (H := H.set m .dead) (w := w) w.heap.size (.vec [] el' i.size)); rwa [hkl] at this
            · have e1 : n = 0 := by omega
              subst e1
              have hx0 : xs = [] := List.length_eq_zero_iff.1 (by simpa using hl)
              have hc0 : cs = [] := List.length_eq_zero_iff.1 (by simpa using hcl)
              have hn0 : news = [] := List.length_eq_zero_iff.1 (by simpa using k1)
              subst hx0 hc0 hn0
              refine ⟨.slice a 0 0, w, ρput ρ H.length none, ?_, ?_, ?_, ?_⟩
              · have := run_inplace (P := P) (w := w) (w' := w) (ty := ty) (a := a) (len := 0) (cap := 0) ht ht' hd hi k3 k4 (by omega) (by simp [storeCells]) (fun _ => rfl)
                simpa using this
              · simp only [VRel]
                exact ⟨by simp [nm], a, 0, rfl, Nat.le_refl _, fun _ => .inl (by simp [nm, ρput])⟩
              · have := hrel_virt hkr el' i.size; rwa [hkl] at this
              · have := hkp.trans (pres_virt (ρ := ρ) (H := H.set m .dead) (w := w) w.heap.size (.vec [] el' i.size)); rwa [hkl] at this
            · have h1' : ρ m = some b := h1
              rcases hbr with ⟨q1, _⟩ | ⟨b', arr, q1, q2, q3⟩
              · have q1' : ρ m = none := q1
                rw [h1'] at q1'; cases q1'
              · have : some b' = some b := by rw [← q1]; exact h1
                cases this
                have hroom : room w.heap b = some arr.size := room_at q2
                have hr0 : some r = some arr.size := by rw [← hroom]; exact h3.symm
                cases hr0
                have hbound : len * i.size + news.length ≤ arr.size := by
                  rw [k1, ← Nat.add_mul]
                  have := Nat.mul_le_mul_right i.size hfit
                  omega
                have hone := one_all (by
                  rw [k1, hl]) k2 hall
                have hstore : (storeCells ⟨b, 0 + len * i.size, none⟩ news).run P w = .ok () (put w b (.cells (arrFill arr (len * i.size) news) el' (0, 0))) := by
                  have := run_storeCells (P := P) news w b (0 + len * i.size) 0 arr el' q2 (by omega) hone
                  simpa using this
                have hroom' : ∀ r, room w.heap b = some r → ∃ arr' el'' fz, (Obj.cells (arrFill arr (len * i.size) news) el' (0, 0)) = .cells arr' el'' fz ∧ arr'.size = r := by
                  intro r h
                  rw [hroom] at h; cases h
                  exact ⟨_, _, _, rfl, arrFill_size _ _ _⟩
                have hpm := pres_move (H := H) w.heap.size hm rfl h1' (.cells (arrFill arr (len * i.size) news) el' (0, 0)) (.vec (cs ++ xs) el' i.size) hroom'
                refine ⟨.slice (some ⟨b, 0, none⟩) (len + n) cap, _, _, ?_, ?_, hrel_move hr hm rfl h1' _ (.vec (cs ++ xs) el' i.size) hroom' ?_, hpm⟩
                · refine run_inplace (P := P) (w := w) (ty := ty) ht ht' hd hi k3 k4 hfit (fun p hp => ?_) (by simp)
                  cases hp
                  rw [add_none]
                  exact hstore
                · simp only [VRel]
                  refine ⟨by simp [nm], _, _, rfl, hfit, fun _ => .inr (.inr ⟨b, arr.size, by simp [nm, ρput], rfl, hpm.room b _ (lt_of_some q2) hroom, by omega⟩)⟩
                · refine .inr ⟨b, _, rfl, put_same (lt_of_some q2), ?_⟩
                  have q3' := q3.ext hpm.ext
                  have k2' := k2.ext hpm.ext
                  rw [vsRel_iff] at q3' k2' ⊢
                  intro j hj
                  simp at hj
                  have hfill : ∀ (vs : List Value) (arr : Array Value) (o j : Nat), o + vs.length ≤ arr.size → (arrFill arr o vs)[j]? = if o ≤ j ∧ j < o + vs.length then vs[j - o]? else arr[j]? := by
                    intro vs
                    induction vs with
                    | nil => intro arr o j _; simp [arrFill]; intro h1 h2; omega
                    | cons v vs ih =>
                      intro arr o j hle
                      simp at hle
                      rw [arrFill, ih _ _ _ (by simp; omega)]
                      by_cases hjo : j = o
                      · subst hjo
                        rw [if_neg (by omega), if_pos (by simp)]
                        rw [Array.getElem?_setIfInBounds_self, if_pos (by omega)]; simp
                      · by_cases hin : o ≤ j ∧ j < o + (vs.length + 1)
                        · rw [if_pos (by omega), if_pos (by simpa using hin)]
                          rw [show j - o = (j - (o + 1)) + 1 from by omega]; simp
                        · rw [if_neg (by omega), if_neg (by simpa using hin)]
                          rw [Array.getElem?_setIfInBounds_ne (by omega)]
                  have hfj := hfill news arr (len * i.size) j hbound
                  by_cases hlt : j < cs.length
                  · obtain ⟨v, g1, g2⟩ := q3' j hlt
                    refine ⟨v, ?_, by rw [List.getElem_append_left hlt]; exact g2⟩
                    rw [hfj, if_neg (by omega)]; exact g1
                  · obtain ⟨v, g1, g2⟩ := k2' (j - cs.length) (by omega)
                    refine ⟨v, ?_, by rw [List.getElem_append_right (by omega)]; exact g2⟩
                    rw [hfj, if_pos (by omega), ← hcl]; exact g1
          · -- a new block
            have olds : ∃ olds : List Value, olds.length = len * i.size ∧ VsRel (nm ρ H w) cs (fun j => olds[j]?) ∧ ∀ w2 : World, w2.heap = w.heap → (Builtin.firstCells i.size len (.slice a len cap)).run P w2 = .ok olds.toArray w2 := by
              have empty : len = 0 → ∃ olds : List Value, olds.length = len * i.size ∧ VsRel (nm ρ H w) cs (fun j => olds[j]?) ∧ ∀ w2 : World, w2.heap = w.heap → (Builtin.firstCells i.size len (.slice a len cap)).run P w2 = .ok olds.toArray w2 := by
                rintro rfl
                have hc0 : cs = [] := List.length_eq_zero_iff.1 (by simpa using hcl)
                refine ⟨[], by simp, by rw [hc0]; simp [VsRel], fun w2 _ => ?_⟩
                cases a with
                | none => simp [Builtin.firstCells]
                | some a => simp [Builtin.firstCells, loadCells, loadCellsFrom]
              rcases hs hal with ⟨h1, rfl, _⟩ | ⟨h1, rfl⟩ | ⟨b, r, h1, rfl, h3, h4⟩
              · exact empty (by omega)
              · exact empty h1
              · have h1' : ρ m = some b := h1
                rcases hbr with ⟨q1, _⟩ | ⟨b', arr, q1, q2, q3⟩
                · have q1' : ρ m = none := q1
                  rw [h1'] at q1'; cases q1'
                · have : some b' = some b := by rw [← q1]; exact h1
                  cases this
                  have q3' : VsRel (nm ρ H w) cs (fun j => arr[0 + j]?) := q3.congr fun j _ => by simp
                  obtain ⟨vs, k1', k2', k3', k4'⟩ := load_cells (P := P) (w := w) (b := b) (o := 0) q2 q3'
                  refine ⟨vs, by omega, k3', fun w2 hw => ?_⟩
                  obtain ⟨vs', p1, p2, p3, p4⟩ := load_cells (P := P) (w := w2) (b := b) (o := 0) (by rw [hw]; exact q2) q3'
                  have : vs' = vs := by
                    apply List.ext_getElem?
                    intro j
                    by_cases hj : j < cs.length
                    · have e1 := k4' j (vs[j]'(by omega)) (by simp [k1', hj])
                      have e2 := p4 j (vs'[j]'(by omega)) (by simp [p1, hj])
                      rw [add_none, cell_at q2] at e1
                      rw [add_none, cell_at (w := w2) (by rw [hw]; exact q2)] at e2
                      rw [List.getElem?_eq_getElem (by omega), List.getElem?_eq_getElem (by omega)]
                      exact (Option.some.inj (e1.symm.trans e2)) ▸ rfl
                    · simp [k1', p1, hj]
                  subst this
                  simp only [Builtin.firstCells, ← hcl, p2]
            obtain ⟨olds, o1, o2, o3⟩ := olds
            have hx1 : Ext (nm ρ H w) (nm ρ (H.set m .dead) w) := hkp.ext
            obtain ⟨v, w', ρ', r1, r2, r3, r4⟩ := grow_ok (ty := ty) hkr ht ht' hd hi hz hzs k3 k4 o3 (by omega) h63 hb o1 k1 (by omega) (o2.ext hx1) (k2.ext hx1)
            rw [hkl] at r2
            exact ⟨v, w', ρ', r1, r2, r3, hkp.trans r4⟩

end
end Go.Am

namespace Go.Am
open Go
set_option linter.unusedVariables false

section
variable {P : Program} {ρ : Nat → Option Nat} {H : AHeap} {w : World}

/-! ### Literals -/

def All2 {α β : Type} (R : α → β → Prop) : List α → List β → Prop
  | [], [] => True
  | a :: as, b :: bs => R a b ∧ All2 R as bs
  | _, _ => False

theorem All2.imp {α β : Type} {R S : α → β → Prop} (h : ∀ a b, R a b → S a b) : ∀ {as : List α} {bs : List β}, All2 R as bs → All2 S as bs
  | [], [], _ => trivial
  | _ :: _, _ :: _, hr => ⟨h _ _ hr.1, hr.2.imp h⟩

theorem range0 : Array.range 0 = #[] := rfl


theorem foldl_fill : ∀ (l : List Value) (arr : Array Value) (off k : Nat), (l.zipIdx k).foldl (fun (cs : Array Value) (p : Value × Nat) => cs.setIfInBounds (off + p.2) p.1) arr = arrFill arr (off + k) l
  | [], arr, off, k => rfl
  | v :: l, arr, off, k => by
    simp only [List.zipIdx_cons, List.foldl_cons, arrFill]
    rw [foldl_fill l _ off (k + 1)]
    rfl

theorem fold_fill (vs : Array Value) (arr : Array Value) (off : Nat) : vs.zipIdx.foldl (fun (cs : Array Value) (p : Value × Nat) => cs.setIfInBounds (off + p.2) p.1) arr = arrFill arr off vs.toList := by
  rw [← Array.foldl_toList, Array.toList_zipIdx]
  exact foldl_fill vs.toList arr off 0

theorem fill_ok {e : Nm} {g : AOpd → AVal} {place : Nat → Option (Nat × Nat)} : ∀ (ps : List (Nat × Value)) (qs : List (Nat × Nat × AOpd)) (cs cs' : List AVal) (arr : Array Value),
    All2 (fun p q => place p.1 = some (q.1, q.2.1) ∧ VRel e (g q.2.2) p.2) ps qs → fillParts g cs qs = some cs' → arr.size = cs.length → VsRel e cs (fun i => arr[i]?) →
    ∃ arr', Instr.fill place arr ps = some arr' ∧ arr'.size = cs'.length ∧ VsRel e cs' (fun i => arr'[i]?)
  | [], _ :: _, cs, cs', arr, hf, h, hs, hc => hf.elim
  | _ :: _, [], cs, cs', arr, hf, h, hs, hc => hf.elim
  | [], [], cs, cs', arr, hf, h, hs, hc => by
    simp only [fillParts, Option.some.injEq] at h
    subst h
    exact ⟨arr, rfl, hs, hc⟩
  | (i, v) :: ps, (off, size, x) :: qs, cs, cs', arr, hf, h, hs, hc => by
      obtain ⟨⟨hp, hv⟩, hf⟩ := hf
      simp only at hp hv
      simp only [fillParts] at h
      split at h
      · rename_i hcond
        obtain ⟨h1, h2, h3⟩ := hcond
        obtain ⟨k1, k2⟩ := cells_of hv h3
        have hlen : v.cells.toList.length = (g x).cells.length := by simp [k1]
        have hin : off + v.cells.toList.length ≤ arr.size := by rw [hlen, h1, hs]; exact h2
        have := fill_ok ps qs (fillAt cs off (g x).cells) cs' (arrFill arr off v.cells.toList) hf h (by rw [arrFill_size, fillAt_length, hs])
          (fill_rel _ _ _ _ _ hlen hin hc (k2.congr fun i _ => by simp))
        obtain ⟨arr', a1, a2⟩ := this
        refine ⟨arr', ?_, a2⟩
        simp only [Instr.fill, hp]
        have c1 : (v.cells.size ≠ size || off + v.cells.size > arr.size) = false := by
          have : v.cells.size = size := by omega
          have h2' : off + v.cells.size ≤ arr.size := by simpa using hin
          simp [this]; omega
        rw [if_neg (by simpa using c1)]
        have := fold_fill v.cells arr off
        rw [← a1]
        congr 1
      · cases h

/-- A type's part of a given number, its place and its size. -/
theorem run_places (fs : List Field) (g : Field → Nat) (hg : ∀ f ∈ fs, (sizeOf f.type).run P w = .ok (g f) w) : (fs.mapM (m := Sem) fun f => do pure (f.offset, ← sizeOf f.type)).run P w = .ok (fs.map fun f => (f.offset, g f)) w := by
  induction fs with
  | nil => simp
  | cons f fs ih =>
    simp only [List.mapM_cons, Sem.run_bind, hg f (by simp), Result.andThen_ok, Sem.run_pure, List.map_cons]
    have := ih (fun f hf => hg f (by simp [hf]))
    rw [this]; rfl

theorem build_struct_ok (hr : HRel (nm ρ H w)) {t : TypeId} {fs : Array Field} {ti : TypeInfo} {z : Value} (ht : P.underlying t = some (.struct fs)) (hi : P.info? t = some ti) (hz : ti.zero = some z) {g : AOpd → AVal} {zs cs : List AVal}
    (hzs : z.cells.size = zs.length) (hzr : VsRel (nm ρ H w) zs (fun i => z.cells[i]?)) {ps : Array (Nat × Value)} {qs : List (Nat × Nat × AOpd)}
    (hsz : ∀ f ∈ fs.toList, ∃ fi, P.info? f.type = some fi)
    (hf : All2 (fun p q => (∃ f, fs[p.1]? = some f ∧ f.offset = q.1 ∧ (P.info? f.type).map (·.size) = some q.2.1) ∧ VRel (nm ρ H w) (g q.2.2) p.2) ps.toList qs) (h : fillParts g zs qs = some cs) :
    ResOk P (Instr.build t ps) ρ H w (.agg cs) H := by
  have hpl := run_places (P := P) (w := w) fs.toList (fun f => ((P.info? f.type).map (·.size)).getD 0) (fun f hff => by
    obtain ⟨fi, hfi⟩ := hsz f hff
    simp [run_sizeOf hfi, hfi])
  have hpl' : (fs.mapM (m := Sem) fun f => do pure (f.offset, ← sizeOf f.type)).run P w = .ok (fs.map fun f => (f.offset, ((P.info? f.type).map (·.size)).getD 0)) w := by
    rw [Array.mapM_eq_mapM_toList, Sem.run_map, hpl]
    simp
    apply Array.ext'; simp
  obtain ⟨arr', a1, a2, a3⟩ := fill_ok (e := nm ρ H w) (g := g) (place := ((fs.map fun f => (f.offset, ((P.info? f.type).map (·.size)).getD 0))[·]?)) ps.toList qs zs cs z.cells
    (by
      refine hf.imp fun p q hpq => ?_
      obtain ⟨⟨f, f1, f2, f3⟩, f4⟩ := hpq
      refine ⟨?_, f4⟩
      simp [f1, f2, f3]) h hzs hzr
  refine ResOk.pure hr (v := .agg arr') (by simp only [VRel]; exact ⟨arr', rfl, a2, a3⟩) ?_
  simp only [Instr.build, Sem.run_bind, zeroValue, typeInfo, run_program, hi, hz, Result.andThen_ok, Sem.run_pure, run_underlying ht, hpl', a1]

theorem build_array_ok (hr : HRel (nm ρ H w)) {t el : TypeId} {n : Nat} {ti i : TypeInfo} {z : Value} (ht : P.underlying t = some (.array n el)) (hi : P.info? t = some ti) (hz : ti.zero = some z) (hie : P.info? el = some i) {g : AOpd → AVal} {zs cs : List AVal}
    (hzs : z.cells.size = zs.length) (hzr : VsRel (nm ρ H w) zs (fun i => z.cells[i]?)) {ps : Array (Nat × Value)} {qs : List (Nat × Nat × AOpd)}
    (hf : All2 (fun p q => (q.1 = p.1 * i.size ∧ q.2.1 = i.size) ∧ VRel (nm ρ H w) (g q.2.2) p.2) ps.toList qs) (h : fillParts g zs qs = some cs) :
    ResOk P (Instr.build t ps) ρ H w (.agg cs) H := by
  obtain ⟨arr', a1, a2, a3⟩ := fill_ok (e := nm ρ H w) (g := g) (place := fun j => some (j * i.size, i.size)) ps.toList qs zs cs z.cells
    (by
      refine hf.imp fun p q hpq => ?_
      obtain ⟨⟨f1, f2⟩, f4⟩ := hpq
      exact ⟨by rw [f1, f2], f4⟩) h hzs hzr
  refine ResOk.pure hr (v := .agg arr') (by simp only [VRel]; exact ⟨arr', rfl, a2, a3⟩) ?_
  simp only [Instr.build, Sem.run_bind, zeroValue, typeInfo, run_program, hi, hz, Result.andThen_ok, Sem.run_pure, run_underlying ht, run_sizeOf hie, a1]

theorem rep_get (z : Array Value) (n i : Nat) (hz : 0 < z.size) (hi : i < n * z.size) : ((Array.range (n * z.size)).map (z[· % z.size]!))[i]? = some (z[i % z.size]'(Nat.mod_lt _ hz)) := by
  have : i % z.size < z.size := Nat.mod_lt _ hz
  simp [hi, this]

theorem rep_rel {e : Nm} {z : Array Value} {zs : List AVal} (hs : z.size = zs.length) (hr : VsRel e zs (fun i => z[i]?)) (n : Nat) : VsRel e (List.replicate n zs).flatten (fun i => ((Array.range (n * z.size)).map (z[· % z.size]!))[i]?) := by
  by_cases h0 : z.size = 0
  · have : zs = [] := List.length_eq_zero_iff.1 (by omega)
    subst this
    have : (List.replicate n ([] : List AVal)).flatten = [] := by simp
    rw [this]; simp [VsRel]
  · rw [vsRel_iff] at hr ⊢
    intro i hi
    have hlen : (List.replicate n zs).flatten.length = n * z.size := by simp [hs]
    have hlt : i < n * z.size := by omega
    have hm : i % z.size < z.size := Nat.mod_lt _ (by omega)
    refine ⟨_, rep_get z n i (by omega) hlt, ?_⟩
    obtain ⟨v, h1, h2⟩ := hr (i % z.size) (by omega)
    simp [hm] at h1
    rw [h1]
    have key : ∀ (n i : Nat) (hi : i < (List.replicate n zs).flatten.length) (hm : i % z.size < zs.length), (List.replicate n zs).flatten[i] = zs[i % z.size] := by
      intro n
      induction n with
      | zero => intro i hi; simp at hi
      | succ n ih =>
        intro i hi hm
        simp only [List.replicate_succ, List.flatten_cons] at hi ⊢
        by_cases hlt : i < zs.length
        · rw [List.getElem_append_left hlt]
          congr 1
          rw [hs, Nat.mod_eq_of_lt hlt]
        · rw [List.getElem_append_right (by omega)]
          rw [ih (i - zs.length) (by simp at hi ⊢; omega) (by rw [hs]; exact Nat.mod_lt _ (by omega))]
          congr 1
          rw [hs]
          exact (Nat.mod_eq_sub_mod (by omega)).symm
    rw [key n i hi (by omega)]
    exact h2

theorem lit_ok (hr : HRel (nm ρ H w)) {t el : TypeId} {n : Nat} {i : TypeInfo} {z : Value} (ht : P.underlying t = some (.slice el)) (hi : P.info? el = some i) (hz : i.zero = some z) (hzz : z.cells.size = i.size) (hpos : 0 < i.size) {g : AOpd → AVal} {zn cs : List AVal}
    (hzs : zn.length = n * i.size) (hrep : VsRel (nm ρ H w) zn (fun j => ((Array.range (n * z.cells.size)).map (z.cells[· % z.cells.size]!))[j]?)) {ps : Array (Nat × Value)} {qs : List (Nat × Nat × AOpd)} (hbig : n * i.size ≤ 16777216)
    (hf : All2 (fun p q => (q.1 = p.1 * i.size ∧ q.2.1 = i.size) ∧ VRel (nm ρ H w) (g q.2.2) p.2) ps.toList qs) (h : fillParts g zn qs = some cs) :
    ResOk P (Instr.buildSlice t n ps) ρ H w (.slc H.length 0 n i.size) (H ++ [.vec cs el i.size]) := by
  obtain ⟨arr', a1, a2, a3⟩ := fill_ok (e := nm ρ H w) (g := g) (place := fun j => some (j * i.size, i.size)) ps.toList qs zn cs ((Array.range (n * z.cells.size)).map (z.cells[· % z.cells.size]!))
    (by
      refine hf.imp fun p q hpq => ?_
      obtain ⟨⟨f1, f2⟩, f4⟩ := hpq
      exact ⟨by rw [f1, f2], f4⟩) h (by simp [hzs, hzz]) hrep
  have hcl : cs.length = n * i.size := by
    have : ∀ (qs : List (Nat × Nat × AOpd)) (as cs : List AVal), fillParts g as qs = some cs → cs.length = as.length := by
      intro qs
      induction qs with
      | nil => intro as cs h; simp [fillParts] at h; rw [h]
      | cons q qs ih =>
        intro as cs h
        obtain ⟨o, s, x⟩ := q
        simp only [fillParts] at h
        split at h
        · rw [ih _ _ h, fillAt_length]
        · cases h
    rw [this _ _ _ h, hzs]
  obtain ⟨g1, g2, g3⟩ := new_vec hr (arr := arr') (cs := cs) el i.size a3 n n (Nat.le_refl _) (by omega)
  refine ⟨_, _, _, ?_, g3, g1, g2⟩
  have hb : ¬ (16777216 < n * i.size) := by omega
  by_cases h0 : n * i.size = 0
  · have hn0 : n = 0 := by
      rcases Nat.mul_eq_zero.1 h0 with h | h
      · exact h
      · omega
    subst hn0
    simp only [Instr.buildSlice, Sem.run_bind, run_underlying ht, Result.andThen_ok, run_sizeOf hi]
    simp [range0] at a1
    simp [range0, a1, newRow]
  · rw [hzz] at a1
    simp only [Instr.buildSlice, Sem.run_bind, run_underlying ht, Result.andThen_ok, run_sizeOf hi]
    simp [hb, h0, zeroValue, typeInfo, hi, hz, hzz, newRow, a1]

theorem mkslice_ok (hr : HRel (nm ρ H w)) {t el : TypeId} {i : TypeInfo} {z : Value} (ht : P.underlying t = some (.slice el)) (hi : P.info? el = some i) (hz : i.zero = some z) (hzz : z.cells.size = i.size) (hpos : 0 < i.size) {zs : List AVal}
    (hzs : z.cells.size = zs.length) (hzr : VsRel (nm ρ H w) zs (fun i => z.cells[i]?)) {k k' : IntKind} {l : Int} {x y : Value} (hx : VRel (nm ρ H w) (.int k l) x) (hy : VRel (nm ρ H w) (.int k' l) y) (h0 : 0 ≤ l) (hb : l * i.bytes ≤ 140737488355328) (h63 : l ≤ 9223372036854775807) :
    ResOk P (Instr.makeSlice t x y) ρ H w (.slc H.length 0 l.toNat i.size) (H ++ [.vec (List.replicate l.toNat zs).flatten el i.size]) := by
  obtain rfl := inv_int hx
  obtain rfl := inv_int hy
  have hrep := rep_rel (e := nm ρ H w) hzs hzr l.toNat
  obtain ⟨g1, g2, g3⟩ := new_vec hr (arr := (Array.range (l.toNat * z.cells.size)).map (z.cells[· % z.cells.size]!)) (cs := (List.replicate l.toNat zs).flatten) el i.size hrep l.toNat l.toNat (Nat.le_refl _) (by simp [hzz])
  refine ⟨_, _, _, ?_, g3, g1, g2⟩
  have hw : IntKind.i64.wrap l = l := by
    unfold IntKind.wrap IntKind.bits IntKind.signed
    simp only [Bool.true_and, decide_eq_true_eq]
    split <;> omega
  have c1 : ¬ (281474976710656 < (i.bytes : Int) * l) := by rw [Int.mul_comm]; omega
  have c2 : ¬ (l < 0) := by omega
  simp only [Instr.makeSlice, Sem.run_bind, run_underlying ht, Result.andThen_ok]
  by_cases hl0 : l.toNat * i.size = 0
  · have hn0 : l.toNat = 0 := by
      rcases Nat.mul_eq_zero.1 hl0 with h | h
      · exact h
      · omega
    have : l = 0 := by omega
    subst this
    simp [asInt, asInt_int, typeInfo, hi, hw, newRow, run_sizeOf hi, range0]
  · rw [hzz]
    simp [asInt, asInt_int, typeInfo, hi, hw, c1, c2, newRow, run_sizeOf hi, zeroValue, hz, hzz]
    intro hh
    exact absurd hh hl0

end
end Go.Am

namespace Go.Am
open Go
set_option linter.unusedVariables false

section
variable {P : Program} {ρ : Nat → Option Nat} {H : AHeap} {w : World}

/-! ### Maps -/

def kindOk (d : TypeDesc) (k : AVal) : Prop :=
  match d, k with
  | .int _, .int _ _ => True
  | .string, .str _ => True
  | _, _ => False

theorem find_ok {e : Nm} {d : TypeDesc} {k : AVal} {kv : Value} (hk : VRel e k kv) (hd : kindOk d k) : ∀ (es : List (AVal × AVal)) (l : List MapEntry) (i0 : Nat), l.length = es.length →
    (∀ i (h : i < es.length), ∃ m, l[i]? = some m ∧ VRel e es[i].1 m.key ∧ VRel e es[i].2 m.val) → keyOk k es →
    (find k es = none → Instr.findNow d kv l i0 = some none ∧ ∀ v, upd k v es = es ++ [(k, v)]) ∧
    (∀ av, find k es = some av → ∃ j m, ∃ (hj : j < es.length), l[j]? = some m ∧ Instr.findNow d kv l i0 = some (some (i0 + j, m.val)) ∧ VRel e av m.val ∧ m.key = kv ∧ ∀ v, upd k v es = es.set j (k, v))
  | [], l, i0, hl, hr, hok => by
    have : l = [] := List.length_eq_zero_iff.1 hl
    subst this
    exact ⟨fun _ => ⟨rfl, fun v => rfl⟩, fun av h => by simp [find] at h⟩
  | p :: es, [], i0, hl, hr, hok => by simp at hl
  | p :: es, m :: l, i0, hl, hr, hok => by
    obtain ⟨m', h1, h2, h3⟩ := hr 0 (by simp)
    simp at h1 h2 h3
    subst h1
    have hok' : keyOk k es := by
      unfold keyOk at hok ⊢
      cases k with
      | int kd n => exact fun q hq => hok q (by simp [hq])
      | str s => exact fun q hq => hok q (by simp [hq])
      | _ => exact hok
    have ih := find_ok hk hd es l (i0 + 1) (by simpa using hl) (fun i hi => let ⟨m, a, b, c⟩ := hr (i + 1) (by simpa using hi); ⟨m, by simpa using a, by simpa using b, by simpa using c⟩) hok'
    have same : Instr.sameNow d kv m.key = some (keyEq k p.1) ∧ (keyEq k p.1 = true → m.key = kv) := by
      cases k with
      | int kd n =>
        obtain rfl := inv_int hk
        obtain ⟨n', hp⟩ := hok p (by simp)
        rw [hp] at h2
        have hkey := inv_int h2
        cases d <;> simp [kindOk] at hd
        rw [hp, hkey]
        simp only [Instr.sameNow, keyEq, if_true]
        refine ⟨rfl, fun h => ?_⟩
        simp at h; rw [h]
      | str s =>
        obtain rfl := inv_str hk
        obtain ⟨s', hp⟩ := hok p (by simp)
        rw [hp] at h2
        have hkey := inv_str h2
        cases d <;> simp [kindOk] at hd
        rw [hp, hkey]
        simp only [Instr.sameNow, keyEq]
        refine ⟨?_, fun h => ?_⟩
        · rw [beq_toListBytes, bytes_beq]
        · simp at h; rw [h]
      | _ => cases d <;> simp [kindOk] at hd
    obtain ⟨s1, s2⟩ := same
    by_cases hkq : keyEq k p.1 = true
    · refine ⟨fun h => by simp [find, hkq] at h, fun av h => ?_⟩
      simp [find, hkq] at h
      subst h
      refine ⟨0, m, by simp, rfl, ?_, h3, s2 hkq, fun v => ?_⟩
      · simp [Instr.findNow, s1, hkq]
      · simp [upd, hkq]
    · have hkq' : keyEq k p.1 = false := by simpa using hkq
      refine ⟨fun h => ?_, fun av h => ?_⟩
      · simp [find, hkq'] at h
        obtain ⟨g1, g2⟩ := ih.1 h
        refine ⟨by simp [Instr.findNow, s1, hkq', g1], fun v => by simp [upd, hkq', g2 v]⟩
      · simp [find, hkq'] at h
        obtain ⟨j, m', hj, g1, g2, g3, g4, g5⟩ := ih.2 av h
        refine ⟨j + 1, m', by simpa using hj, by simpa using g1, ?_, g3, g4, fun v => by simp [upd, hkq', g5 v]⟩
        simp [Instr.findNow, s1, hkq', g2]; omega

theorem run_checkKey {t : TypeId} {d : TypeDesc} (ht : P.underlying t = some d) {k : AVal} (hd : kindOk d k) (em : Bool) (n : Nat) (v : Value) : (Instr.checkKey em (n + 1) t v).run P w = .ok () w := by
  unfold Instr.checkKey
  simp only [Sem.run_bind, run_underlying ht, Result.andThen_ok]
  cases d <;> cases k <;> simp [kindOk] at hd <;> rfl

theorem run_findKey {t : TypeId} {d : TypeDesc} (ht : P.underlying t = some d) {k : Value} {l : List MapEntry} {r : Option (Nat × Value)} (h : Instr.findNow d k l 0 = some r) : (Instr.findKey t k l).run P w = .ok r w := by
  simp [Instr.findKey, run_underlying ht, h]

theorem lookup_ok (hr : HRel (nm ρ H w)) {t kt el : TypeId} {d : TypeDesc} {i : TypeInfo} {z : Value} (ht : P.underlying t = some (.map kt el)) (hkt : P.underlying kt = some d) (hi : P.info? el = some i) (hz : i.zero = some z) {za : AVal} (hza : VRel (nm ρ H w) za z)
    {m k : AVal} {mv kv : Value} (hm : VRel (nm ρ H w) m mv) (hk : VRel (nm ρ H w) k kv) (hd : kindOk d k) {es : List (AVal × AVal)} (hes : (m = .nilm ∧ es = []) ∨ ∃ n, m = .mapv n ∧ H[n]? = some (.map es)) (hok : keyOk k es) (ok : Bool) :
    ResOk P (Instr.lookup t mv kv ok) ρ H w (if ok then .tup [(find k es).getD za, .bool (find k es).isSome] else (find k es).getD za) H := by
  have main : ∀ ents : Array MapEntry, ERel (nm ρ H w) es ents → ((mv = .map none ∧ ents = #[]) ∨ ∃ b clk, mv = .map (some b) ∧ w.heap[b]? = some (.map ents clk)) →
      ResOk P (Instr.lookup t mv kv ok) ρ H w (if ok then .tup [(find k es).getD za, .bool (find k es).isSome] else (find k es).getD za) H := by
    intro ents he hmv
    have hf := find_ok hk hd es ents.toList 0 (by simpa using he.1) (fun i hi => by simpa using he.2 i hi) hok
    have hck := run_checkKey (P := P) (w := w) hkt hd ents.isEmpty 9999 kv
    have hrun : ∀ v : Value, ((do
        Instr.checkKey ents.isEmpty 10000 kt kv
        let (v, o) ← match ← Instr.findKey kt kv ents.toList with
          | some (_, v) => pure (v, true)
          | none => pure (← zeroValue el, false)
        pure (if ok then .tuple #[v, .bool o] else v) : Sem Value)).run P w = .ok v w → (Instr.lookup t mv kv ok).run P w = .ok v w := by
      intro v h
      rw [← h]
      rcases hmv with ⟨rfl, rfl⟩ | ⟨b, clk, rfl, hb⟩
      · simp only [Instr.lookup, Sem.run_bind, run_underlying ht, Result.andThen_ok, Sem.run_pure]
        rfl
      · simp only [Instr.lookup, Sem.run_bind, run_underlying ht, Result.andThen_ok, getObj, Sem.run, hb]
        rfl
    cases hfind : find k es with
    | none =>
      have h1 := (hf.1 hfind).1
      refine ResOk.pure hr (v := if ok then .tuple #[z, .bool false] else z) ?_ (hrun _ ?_)
      · cases ok
        · simpa using hza
        · simp only [if_true, VRel]; exact ⟨_, rfl, rfl, by simp [VsRel, VRel, hza]⟩
      · rw [show (10000 : Nat) = 9999 + 1 from rfl]
        simp only [Sem.run_bind, hck, Result.andThen_ok, run_findKey hkt h1, zeroValue, typeInfo, run_program, hi, hz, Sem.run_pure]
    | some av =>
      obtain ⟨j, me, hj, h1, h2, h3, h4, _⟩ := hf.2 av hfind
      refine ResOk.pure hr (v := if ok then .tuple #[me.val, .bool true] else me.val) ?_ (hrun _ ?_)
      · cases ok
        · simpa using h3
        · simp only [if_true, VRel]; exact ⟨_, rfl, rfl, by simp [VsRel, VRel, h3]⟩
      · rw [show (10000 : Nat) = 9999 + 1 from rfl]
        simp only [Sem.run_bind, hck, Result.andThen_ok, run_findKey hkt h2, Sem.run_pure]
  rcases hes with ⟨rfl, rfl⟩ | ⟨n, rfl, hn⟩
  · simp only [VRel] at hm
    exact main #[] ⟨rfl, fun i hi => by simp at hi⟩ (.inl ⟨hm, rfl⟩)
  · simp only [VRel] at hm
    obtain ⟨_, b, hmv, hb⟩ := hm
    obtain ⟨b', ents, clk, e1, e2, e3⟩ := hr.blk n _ hn
    have : some b = some b' := by rw [← e1]; exact (hb (alive_of hn rfl)).symm
    cases this
    exact main ents e3 (.inr ⟨b, clk, hmv, e2⟩)

theorem mapset_ok (hr : HRel (nm ρ H w)) {t kt el : TypeId} {d : TypeDesc} (ht : P.underlying t = some (.map kt el)) (hkt : P.underlying kt = some d) {n : Nat} {k v : AVal} {mv kv vv : Value} (hm : VRel (nm ρ H w) (.mapv n) mv) (hk : VRel (nm ρ H w) k kv) (hv : VRel (nm ρ H w) v vv)
    (hd : kindOk d k) {es : List (AVal × AVal)} (hn : H[n]? = some (.map es)) (hok : keyOk k es) :
    ∃ w', (Instr.mapUpdate t mv kv vv).run P w = .ok () w' ∧ HRel (nm ρ (H.set n (.map (upd k v es))) w') ∧ Pres w.heap.size ρ H w ρ (H.set n (.map (upd k v es))) w' := by
  simp only [VRel] at hm
  obtain ⟨_, b, rfl, hb⟩ := hm
  obtain ⟨b', ents, clk, e1, e2, e3⟩ := hr.blk n _ hn
  have hbb : some b = some b' := by rw [← e1]; exact (hb (alive_of hn rfl)).symm
  cases hbb
  have e2' : w.heap[b]? = some (.map ents clk) := e2
  have hroom : ∀ o : Obj, ∀ r, room w.heap b = some r → ∃ arr el fz, o = .cells arr el fz ∧ arr.size = r := by
    intro o r h; unfold room at h; rw [e2'] at h; cases h
  have hf := find_ok hk hd es ents.toList 0 (by simpa using e3.1) (fun i hi => by simpa using e3.2 i hi) hok
  have hck := run_checkKey (P := P) (w := w) hkt hd false 9999 kv
  have fin : ∀ (ents' : Array MapEntry) (clk' : Nat), (Instr.mapUpdate t (.map (some b)) kv vv).run P w = .ok () (put w b (.map ents' clk')) → (∀ e, Ext (nm ρ H w) e → ERel e (upd k v es) ents') →
      ∃ w', (Instr.mapUpdate t (.map (some b)) kv vv).run P w = .ok () w' ∧ HRel (nm ρ (H.set n (.map (upd k v es))) w') ∧ Pres w.heap.size ρ H w ρ (H.set n (.map (upd k v es))) w' := by
    intro ents' clk' hrun hrel
    have hp := pres_set (w := w) w.heap.size hn rfl e1 (.map ents' clk') (.map (upd k v es)) (hroom _)
    exact ⟨_, hrun, hrel_set hr hn rfl e1 _ _ (hroom _) ⟨b, ents', clk', rfl, put_same (lt_of_some e2'), hrel _ hp.ext⟩, hp⟩
  have hset : ∀ o : Obj, (setObj b o).run P w = .ok () (put w b o) := by
    intro o; simp [setObj, Sem.run, e2', put]
  cases hfind : find k es with
  | none =>
    obtain ⟨h1, h2⟩ := hf.1 hfind
    refine fin (ents.push { key := kv, val := vv, born := clk }) (clk + 1) ?_ fun e hx => ?_
    · simp only [Instr.mapUpdate, Sem.run_bind, run_underlying ht, Result.andThen_ok]
      simp only [getObj, Sem.run, e2', Result.andThen_ok, Sem.run_bind]
      rw [show (10000 : Nat) = 9999 + 1 from rfl, hck]
      simp only [Result.andThen_ok, run_findKey hkt h1, hset]
    · rw [h2]
      refine ⟨by simp [e3.1], fun i hi => ?_⟩
      simp at hi
      by_cases hlt : i < es.length
      · obtain ⟨m, g1, g2, g3⟩ := e3.2 i hlt
        refine ⟨m, ?_, ?_, ?_⟩
        · rw [Array.getElem?_push, if_neg (by have := e3.1; omega)]; exact g1
        · rw [List.getElem_append_left hlt]; exact g2.ext hx
        · rw [List.getElem_append_left hlt]; exact g3.ext hx
      · have : i = es.length := by omega
        subst this
        refine ⟨{ key := kv, val := vv, born := clk }, ?_, ?_, ?_⟩
        · rw [Array.getElem?_push, if_pos e3.1.symm]
        · simp; exact hk.ext hx
        · simp; exact hv.ext hx
  | some av =>
    obtain ⟨j, me, hj, h1, h2, h3, h4, h5⟩ := hf.2 av hfind
    refine fin (ents.modify j fun e => { e with key := kv, val := vv }) clk ?_ fun e hx => ?_
    · have hsame : Instr.sameBits 10000 kv kv = true := by
        cases k with
        | int kd m => obtain rfl := inv_int hk; simp [Instr.sameBits]
        | str s => obtain rfl := inv_str hk; simp [Instr.sameBits, beq_toListBytes]
        | _ => cases d <;> simp [kindOk] at hd
      simp only [Instr.mapUpdate, Sem.run_bind, run_underlying ht, Result.andThen_ok]
      simp only [getObj, Sem.run, e2', Result.andThen_ok, Sem.run_bind]
      rw [show (10000 : Nat) = 9999 + 1 from rfl, hck]
      have hj' : ents[j]? = some me := by simpa using h1
      simp only [Result.andThen_ok, run_findKey hkt h2, Sem.run_bind, Nat.zero_add, hj', Option.map_some, Option.getD_some, h4, Instr.keyThatStays]
      rw [if_pos hsame]
      simp only [Sem.run_pure, Result.andThen_ok, hset]
    · rw [h5]
      refine ⟨by simp [e3.1], fun i hi => ?_⟩
      simp at hi
      by_cases hij : i = j
      · subst hij
        have hsz : i < ents.size := by have := e3.1; omega
        refine ⟨{ ents[i] with key := kv, val := vv }, ?_, ?_, ?_⟩
        · rw [Array.getElem?_modify, if_pos rfl, Array.getElem?_eq_getElem hsz]; rfl
        · simp; exact hk.ext hx
        · simp; exact hv.ext hx
      · obtain ⟨m, g1, g2, g3⟩ := e3.2 i hi
        refine ⟨m, ?_, ?_, ?_⟩
        · rw [Array.getElem?_modify, if_neg (by omega)]; exact g1
        · rw [List.getElem_set_ne (by omega)]; exact g2.ext hx
        · rw [List.getElem_set_ne (by omega)]; exact g3.ext hx

theorem del_idx {k : AVal} : ∀ {es : List (AVal × AVal)} {j : Nat}, j < es.length → (∀ v, upd k v es = es.set j (k, v)) → del k es = es.eraseIdx j
  | [], j, hj, _ => by simp at hj
  | p :: es, j, hj, h => by
    have h1 := h .nilp
    have h2 := h .nils
    unfold upd at h1 h2
    unfold del
    split
    · rename_i hk
      rw [if_pos hk] at h1 h2
      cases j with
      | zero => rfl
      | succ j =>
        simp at h1 h2
        obtain ⟨a, _⟩ := h1
        obtain ⟨b, _⟩ := h2
        rw [← a] at b
        simp at b
    · rename_i hk
      rw [if_neg hk] at h1 h2
      cases j with
      | zero =>
        simp at h1 h2
        obtain ⟨a, _⟩ := h1
        obtain ⟨b, _⟩ := h2
        rw [a] at b
        simp at b
      | succ j =>
        rw [List.eraseIdx_cons_succ]
        congr 1
        refine del_idx (by simpa using hj) fun v => ?_
        have := h v
        unfold upd at this
        rw [if_neg hk] at this
        simpa using this
theorem del_none {k : AVal} : ∀ {es : List (AVal × AVal)}, find k es = none → del k es = es
  | [], _ => rfl
  | p :: es, h => by
    unfold find at h
    unfold del
    split at h
    · cases h
    · rename_i hk
      rw [if_neg hk, del_none h]

theorem mapdel_ok (hr : HRel (nm ρ H w)) {t kt el t' ty : TypeId} {d : TypeDesc} (ht : P.underlying t = some (.map kt el)) (hkt : P.underlying kt = some d) {n : Nat} {k : AVal} {mv kv : Value} (hm : VRel (nm ρ H w) (.mapv n) mv) (hk : VRel (nm ρ H w) k kv)
    (hd : kindOk d k) {es : List (AVal × AVal)} (hn : H[n]? = some (.map es)) (hok : keyOk k es) :
    ResOk P (Builtin.delete_ #[t, t'] ty #[mv, kv]) ρ H w (.tup []) (H.set n (.map (del k es))) := by
  simp only [VRel] at hm
  obtain ⟨_, b, rfl, hb⟩ := hm
  obtain ⟨b', ents, clk, e1, e2, e3⟩ := hr.blk n _ hn
  have hbb : some b = some b' := by rw [← e1]; exact (hb (alive_of hn rfl)).symm
  cases hbb
  have e2' : w.heap[b]? = some (.map ents clk) := e2
  have hroom : ∀ o : Obj, ∀ r, room w.heap b = some r → ∃ arr el fz, o = .cells arr el fz ∧ arr.size = r := by
    intro o r h; unfold room at h; rw [e2'] at h; cases h
  have hf := find_ok hk hd es ents.toList 0 (by simpa using e3.1) (fun i hi => by simpa using e3.2 i hi) hok
  have hck := run_checkKey (P := P) (w := w) hkt hd ents.isEmpty 9999 kv
  have fin : ∀ (ents' : Array MapEntry), (Builtin.delete_ #[t, t'] ty #[.map (some b), kv]).run P w = .ok (.tuple #[]) (put w b (.map ents' clk)) → (∀ e, Ext (nm ρ H w) e → ERel e (del k es) ents') →
      ResOk P (Builtin.delete_ #[t, t'] ty #[.map (some b), kv]) ρ H w (.tup []) (H.set n (.map (del k es))) := by
    intro ents' hrun hrel
    have hp := pres_set (w := w) w.heap.size hn rfl e1 (.map ents' clk) (.map (del k es)) (hroom _)
    exact ⟨_, _, ρ, hrun, by simp [VRel, VsRel], hrel_set hr hn rfl e1 _ _ (hroom _) ⟨b, ents', clk, rfl, put_same (lt_of_some e2'), hrel _ hp.ext⟩, hp⟩
  have hset : ∀ o : Obj, (setObj b o).run P w = .ok () (put w b o) := by
    intro o; simp [setObj, Sem.run, e2', put]
  have hget : (getObj b).run P w = .ok (.map ents clk) w := by simp only [getObj, Sem.run, e2']
  cases hfind : find k es with
  | none =>
    obtain ⟨h1, h2⟩ := hf.1 hfind
    refine fin ents ?_ fun e hx => ?_
    · simp [Builtin.delete_, run_underlying ht, hget, hck, run_findKey hkt h1, hset, Result.andThen]
    · rw [del_none hfind]
      refine ⟨e3.1, fun i hi => ?_⟩
      obtain ⟨m, g1, g2, g3⟩ := e3.2 i hi
      exact ⟨m, g1, g2.ext hx, g3.ext hx⟩
  | some av =>
    obtain ⟨j, me, hj, h1, h2, h3, h4, h5⟩ := hf.2 av hfind
    rw [Nat.zero_add] at h2
    have hjs : j < ents.size := by have := e3.1; omega
    refine fin (ents.eraseIdxIfInBounds j) ?_ fun e hx => ?_
    · simp [Builtin.delete_, run_underlying ht, hget, hck, run_findKey hkt h2, hset, Result.andThen]
    · rw [del_idx hj h5]
      have he : ents.eraseIdxIfInBounds j = ents.eraseIdx j hjs := by unfold Array.eraseIdxIfInBounds; rw [dif_pos hjs]
      rw [he]
      refine ⟨by rw [Array.size_eraseIdx, List.length_eraseIdx_of_lt hj, e3.1], fun i hi => ?_⟩
      rw [List.length_eraseIdx_of_lt hj] at hi
      rw [Array.getElem?_eraseIdx, List.getElem_eraseIdx]
      split
      · obtain ⟨m, g1, g2, g3⟩ := e3.2 i (by omega)
        exact ⟨m, g1, g2.ext hx, g3.ext hx⟩
      · obtain ⟨m, g1, g2, g3⟩ := e3.2 (i + 1) (by omega)
        exact ⟨m, g1, g2.ext hx, g3.ext hx⟩

theorem mkmap_ok (hr : HRel (nm ρ H w)) (t : TypeId) (h : Option Value) (hh : h = none) : ResOk P (Instr.makeMap t h) ρ H w (.mapv H.length) (H ++ [.map []]) := by
  subst hh
  have hx := ext_new (ρ := ρ) (H := H) (w := w) (.map #[] 0) (.map [])
  refine ⟨.map (some w.heap.size), w.alloc (.map #[] 0), ρput ρ H.length (some w.heap.size), ?_, ?_, hrel_new hr _ _ ⟨w.heap.size, #[], 0, rfl, alloc_new, rfl, fun i hi => by simp at hi⟩, pres_new _ (Nat.le_refl _) _ _⟩
  · simp [Instr.makeMap]
  · simp only [VRel]
    exact ⟨by simp [nm], _, rfl, fun _ => by simp [nm, ρput]⟩

end
end Go.Am

namespace Go.Am
open Go
set_option linter.unusedVariables false

section
variable {P : Program} {ρ : Nat → Option Nat} {H : AHeap} {w : World}

theorem modify_push {α : Type} (a : Array α) (x : α) (f : α → α) : (a.push x).modify a.size f = a.push (f x) := by
  apply Array.ext_getElem?
  intro i
  rw [Array.getElem?_modify, Array.getElem?_push, Array.getElem?_push]
  by_cases h : a.size = i
  · subst h; simp
  · rw [if_neg h, if_neg (fun e => h e.symm), if_neg (fun e => h e.symm)]

/-- A fresh block that no name has. -/
theorem garbage_imm (hr : HRel (nm ρ H w)) {arr : Array Value} {el : TypeId} {fz : Nat × Nat} {cs : List AVal} {len cap : Nat} (hc : len ≤ cap) (h : VsRel (nm ρ H w) cs (fun i => arr[i]?)) :
    VRel (nm ρ H (w.alloc (.cells arr el fz))) (.imm cs len false) (.slice (some ⟨w.heap.size, 0, none⟩) len cap) ∧ HRel (nm ρ H (w.alloc (.cells arr el fz))) ∧ Pres w.heap.size ρ H w ρ H (w.alloc (.cells arr el fz)) := by
  have hp := pres_garbage (ρ := ρ) (H := H) (w := w) w.heap.size (Nat.le_refl _) (Obj.cells arr el fz)
  refine ⟨?_, hrel_of hr hp.ext (fun n cb hn hlv => .inl ⟨(List.getElem?_eq_some_iff.1 hn).1, hn, fun p hp => alloc_old (by
        have := hr.lt ⟨n, alive_of hn hlv, hp⟩
        have : p < w.heap.size := this
        omega)⟩) hr.inj, hp⟩
  simp only [VRel]
  refine ⟨some ⟨w.heap.size, 0, none⟩, cap, rfl, hc, by simp, .inr ⟨w.heap.size, 0, rfl, ?_, arr, el, fz, alloc_new, ?_⟩⟩
  · intro ho
    have hlt : w.heap.size < w.heap.size := hr.lt (show (nm ρ H w).Owned w.heap.size from ho)
    omega
  · exact (h.ext hp.ext).congr fun i _ => by simp

theorem s2b_ok (hr : HRel (nm ρ H w)) {e : TypeId} {s : ByteArray} : ResOk P (Conv.stringToBytes e s) ρ H w (.imm (s2bA s) s.size false) H := by
  obtain ⟨q1, q2, q3⟩ := garbage_imm (w := w.drew) (ρ := ρ) (H := H) hr (arr := s.data.map (fun b => Value.int .u8 (b.toNat : Int)) ++ Array.replicate (Question.cut (.appendCap s.size 0 e) (w.tape w.drawn (.appendCap s.size 0 e)) - s.size) (.int .u8 0)) (el := e)
    (fz := ((s.data.map (fun b => Value.int .u8 (b.toNat : Int)) ++ Array.replicate (Question.cut (.appendCap s.size 0 e) (w.tape w.drawn (.appendCap s.size 0 e)) - s.size) (Value.int .u8 0)).size, (s.data.map (fun b => Value.int .u8 (b.toNat : Int)) ++ Array.replicate (Question.cut (.appendCap s.size 0 e) (w.tape w.drawn (.appendCap s.size 0 e)) - s.size) (Value.int .u8 0)).size + 1))
    (cs := s2bA s) (len := s.size) (cap := Question.cut (.appendCap s.size 0 e) (w.tape w.drawn (.appendCap s.size 0 e))) (by simp only [Question.cut]; omega) (by
      rw [vsRel_iff]
      intro i hi
      have hi' : i < s.data.size := by simpa [s2bA] using hi
      refine ⟨.int .u8 (s.data[i].toNat : Int), ?_, by simp [s2bA, VRel]⟩
      rw [Array.getElem?_append_left (by simpa using hi'), Array.getElem?_map, Array.getElem?_eq_getElem hi']
      rfl)
  refine ⟨_, _, ρ, ?_, q1, q2, (pres_drew w.heap.size).trans q3⟩
  have hs : ∀ (w : World) (arr : Array Value), (w.alloc (.cells arr e)).shape? w.heap.size = some (e, arr.size) := fun w arr => by
    have := alloc_new (w := w) (o := Obj.cells arr e)
    simp only [World.shape?, this]
  have hf : ∀ (w : World) (arr : Array Value), (w.alloc (.cells arr e)).freeze ⟨w.heap.size, arr.size, none⟩ 1 = w.alloc (.cells arr e (arr.size, arr.size + 1)) := fun w arr => by
    simp only [World.freeze, World.alloc, modify_push]
    simp
  have hs' := hs w.drew
  have hf' := hf w.drew
  have e1 : w.drew.heap.size = w.heap.size := rfl
  rw [e1] at hs' hf'
  simp only [Conv.stringToBytes, Sem.run_bind]
  simp [newRow, markStringish, Question.forced, Sem.run_bind, shape, freeze, Sem.run, hs']
  have h9 := hf' (s.data.map (fun b => Value.int .u8 (b.toNat : Int)) ++ Array.replicate (Question.cut (.appendCap s.size 0 e) (w.tape w.drawn (.appendCap s.size 0 e)) - s.size) (.int .u8 0))
  rw [Array.size_append, Array.size_map, Array.size_replicate] at h9
  exact h9

theorem b2s_loop {w : World} (F : Value → ByteArray → Sem (ForInStep ByteArray)) (hF : ∀ n r, F (.int .u8 n) r = pure (.yield (r.push (UInt8.ofNat n.toNat)))) : ∀ (xs : List Value) (cs : List AVal) (s0 s : ByteArray), VsRel (nm ρ H w) cs (fun i => xs[i]?) → xs.length = cs.length → b2sA cs s0 = some s →
    (forIn xs s0 F : Sem ByteArray).run P w = .ok s w
  | [], [], s0, s, _, _, hb => by simp only [b2sA, Option.some.injEq] at hb; subst hb; simp
  | [], _ :: _, s0, s, _, hl, _ => by simp at hl
  | _ :: _, [], s0, s, _, hl, _ => by simp at hl
  | x :: xs, c :: cs, s0, s, h, hl, hb => by
    simp only [VsRel] at h
    obtain ⟨⟨v, hv, h1⟩, h2⟩ := h
    simp only [List.getElem?_cons_zero, Option.some.injEq] at hv
    subst hv
    cases c <;> first | (simp [b2sA] at hb; done) | skip
    rename_i k n
    cases k <;> first | (simp [b2sA] at hb; done) | skip
    rw [b2sA] at hb
    have hx : x = .int .u8 n := by simpa [VRel] using h1
    subst hx
    rw [List.forIn_cons, hF]
    simp only [Sem.run_bind, Sem.run_pure, Result.andThen_ok]
    exact b2s_loop F hF xs cs _ s (h2.congr fun i _ => by simp) (by simpa using hl) hb

theorem b2s_ok (hr : HRel (nm ρ H w)) {x : AVal} {v : Value} (hx : VRel (nm ρ H w) x v) {n : Nat} {cs : List AVal} (hn : slen x = some n) (hv : view H x = some cs) (hl : cs.length = n) {s : ByteArray} (hb : b2sA cs .empty = some s) :
    ResOk P (Conv.bytesToString v) ρ H w (.str s) H := by
  have hsrc : srcLen x = some n ∧ srcCells H x = some cs := by
    cases x <;> simp only [slen] at hn <;> first | (cases hn; done) | exact ⟨hn, hv⟩
  obtain ⟨news, g1, g2, g3, g4⟩ := src_ok (P := P) hr hx hsrc.1 hsrc.2 (sz := 1) (by omega)
  have g4 := g4 w rfl
  obtain ⟨a, cap, rfl, hc⟩ := slice_inv hx hn
  have hloop := fun F hF => b2s_loop (P := P) (w := w) F hF news cs .empty s g2 (by omega) hb
  refine ResOk.pure (v := .string s) hr (by simp [VRel]) ?_
  cases a with
  | none =>
    simp only [Builtin.firstCells, Sem.run_pure, Result.ok.injEq, and_true] at g4
    have hz : news = [] := by
      have := congrArg Array.size g4
      simp at this
      exact List.length_eq_zero_iff.1 this.symm
    subst hz
    have : cs = [] := List.length_eq_zero_iff.1 (by simp at g1; omega)
    subst this
    simp only [b2sA, Option.some.injEq] at hb
    subst hb
    simp [Conv.bytesToString]
  | some a =>
    simp only [Builtin.firstCells, Nat.mul_one] at g4
    simp only [Conv.bytesToString, Sem.run_bind, g4, Result.andThen_ok]
    simp
    rw [hloop _ (fun n r => rfl)]
    rfl

theorem modify_eq {α : Type} {a : Array α} {b : Nat} {x : α} (h : a[b]? = some x) (f : α → α) : a.modify b f = a.setIfInBounds b (f x) := by
  apply Array.ext_getElem?
  intro i
  rw [Array.getElem?_modify, Array.getElem?_setIfInBounds]
  by_cases hi : b = i
  · subst hi
    obtain ⟨hl, hx⟩ := Array.getElem?_eq_some_iff.1 h
    simp [hl, hx]
  · rw [if_neg hi, if_neg hi]

theorem mark_ok (hr : HRel (nm ρ H w)) {x : AVal} {v : Value} (hx : VRel (nm ρ H w) x v) {p : Prop} {u : AVal} {H' : AHeap} (h : markA H x = some (p, u, H')) (hp : p) :
    ∃ a len cap w', v = .slice (some a) len cap ∧ (markStringish a).run P w = .ok () w' ∧ VRel (nm ρ H' w') u v ∧ HRel (nm ρ H' w') ∧ Pres w.heap.size ρ H w ρ H' w' := by
  unfold markA at h
  split at h <;> first | (cases h; done) | skip
  rename_i n off len z
  split at h <;> first | (cases h; done) | skip
  rename_i cs el z' hn
  simp only [Option.some.injEq, Prod.mk.injEq] at h
  obtain ⟨rfl, rfl, rfl⟩ := h
  obtain ⟨rfl, rfl, hcl, hpos⟩ := hp
  simp only [VRel] at hx
  obtain ⟨hlt, a, cap, rfl, hlc, hh⟩ := hx
  have hal : alive H n = true := alive_of hn rfl
  have hbr := hr.blk n _ hn
  rcases hbr with ⟨hnone, hcs⟩ | ⟨b, arr, hb, hheap, hrel⟩
  · subst hcs; simp at hcl; omega
  rcases hh hal with ⟨h5, h6, _⟩ | ⟨h5, _⟩ | ⟨b', r, h5, h6, h7, h8⟩
  · omega
  · omega
  have hbb : ρ n = some b := hb
  have : some b' = some b := by rw [← hbb]; exact h5.symm
  cases this
  subst h6
  have hroom : ∀ r, room w.heap b = some r → ∃ arr' el' fz, (Obj.cells arr el (arr.size, arr.size + 1)) = .cells arr' el' fz ∧ arr'.size = r := by
    intro r h
    have hh : w.heap[b]? = some (.cells arr el (0, 0)) := hheap
    unfold room at h; rw [hh] at h
    exact ⟨arr, el, _, rfl, by simpa using h⟩
  have hps := pres_set (w := w) w.heap.size hn rfl hbb (Obj.cells arr el (arr.size, arr.size + 1)) .dead hroom
  have hhs := hrel_set hr hn rfl hbb (Obj.cells arr el (arr.size, arr.size + 1)) .dead hroom trivial
  have hlt' : b < w.heap.size := lt_of_some hheap
  refine ⟨⟨b, 0, none⟩, len, cap, put w b (.cells arr el (arr.size, arr.size + 1)), rfl, ?_, ?_, hhs, hps⟩
  · have h1 : w.shape? b = some (el, arr.size) := by
      have hh : w.heap[b]? = some (.cells arr el (0, 0)) := hheap
      simp only [World.shape?, hh]
    have h2 : w.freeze ⟨b, arr.size, none⟩ 1 = put w b (.cells arr el (arr.size, arr.size + 1)) := by
      have hh : w.heap[b]? = some (.cells arr el (0, 0)) := hheap
      simp only [World.freeze, put]
      rw [if_neg (by decide), modify_eq hh]
      rfl
    simp [markStringish, shape, freeze, Sem.run, Sem.run_bind, h1, h2]
  · simp only [VRel]
    refine ⟨some ⟨b, 0, none⟩, cap, rfl, hlc, by simp, .inr ⟨b, 0, rfl, ?_, arr, el, _, put_same hlt', ?_⟩⟩
    · rintro ⟨m, hm, hmb⟩
      have hmb' : ρ m = some b := hmb
      have hm2 : alive H m = true ∧ m ≠ n := by
        obtain ⟨c, hc, hl⟩ := alive_some hm
        have hc : (H.set n ABlk.dead)[m]? = some c := hc
        by_cases hmn : m = n
        · subst hmn
          rw [List.getElem?_set_self (show m < H.length from hlt)] at hc
          cases hc; simp [ABlk.isLive] at hl
        · rw [List.getElem?_set_ne (fun e => hmn e.symm)] at hc
          exact ⟨alive_of hc hl, hmn⟩
      exact hm2.2 (hr.inj m n b hm2.1 hal hmb' hbb)
    · exact (hrel.ext hps.ext).congr fun i _ => by simp

end
end Go.Am

namespace Go.Am
open Go
set_option linter.unusedVariables false

/-! ### Which operation stands for which -/

def cVal : Value → AVal → Bool
  | .bool a, .bool b => a == b
  | .int k a, .int k' b => decide (k = k') && decide (a = b)
  | .string a, .str b => decide (a.data.toList = b.data.toList)
  | .pointer none, .nilp => true
  | .slice none n m, .nils => n == 0 && m == 0
  | .nilFunc, .nilf => true
  | .map none, .nilm => true
  | _, _ => false

def cVals : List Value → List AVal → Bool
  | [], [] => true
  | v :: vs, a :: as => cVal v a && cVals vs as
  | _, _ => false

def cConst : Value → AVal → Bool
  | .agg arr, .agg cs => cVals arr.toList cs
  | v, a => cVal v a

def cOpd : Operand → AOpd → Bool
  | .tmp t, .tmp u => t == u
  | .const v, .const a => cConst v a
  | .func f, .const (.fn g [] []) => f == g
  | _, _ => false

def cOpds : List Operand → List AOpd → Bool
  | [], [] => true
  | x :: xs, y :: ys => cOpd x y && cOpds xs ys
  | _, _ => false

def cOpt : Option Operand → Option AOpd → Bool
  | none, none => true
  | some x, some y => cOpd x y
  | _, _ => false

def zeroOk (P : Program) (t : TypeId) (z : List AVal) : Bool :=
  match P.info? t with
  | some i => (match i.zero with
    | some v => cVals v.cells.toList z && v.cells.size == i.size
    | none => false)
  | none => false

def sizeIs (P : Program) (t : TypeId) (n : Nat) : Bool :=
  match P.info? t with
  | some i => i.size == n
  | none => false

def partsS (P : Program) (fs : Array Field) : List (Nat × Operand) → List (Nat × Nat × AOpd) → Bool
  | [], [] => true
  | (i, x) :: ps, (off, sz, y) :: qs => (match fs[i]? with
    | some f => f.offset == off && sizeIs P f.type sz
    | none => false) && cOpd x y && partsS P fs ps qs
  | _, _ => false

def partsA (n : Nat) : List (Nat × Operand) → List (Nat × Nat × AOpd) → Bool
  | [], [] => true
  | (i, x) :: ps, (off, sz, y) :: qs => off == i * n && sz == n && cOpd x y && partsA n ps qs
  | _, _ => false

def keyKind (P : Program) (t : TypeId) (k : Leaf) : Bool :=
  match P.underlying t, k with
  | some (.int _), .int => true
  | some .string, .str => true
  | _, _ => false

def eqKindOk (P : Program) (t : TypeId) : EKind → Bool
  | .bool => (match P.underlying t with | some .bool => true | _ => false)
  | .ptr => (match P.underlying t with | some (.pointer _) => true | _ => false)
  | .func => (match P.underlying t with | some (.func _ _ _) => true | _ => false)
  | .map => (match P.underlying t with | some (.map _ _) => true | _ => false)
  | .cells ks => aggT P t && decide (plainT P 50 t = some ks)
  | .slice => (match P.underlying t with | some (.slice _) => true | _ => false)

def okOp (P : Program) : Op → AOp → Bool
  | .move x, .mov y => cOpd x y
  | .assign x, .mov y => cOpd x y
  | .pick c a b, .pick c' a' b' => cOpd c c' && cOpd a a' && cOpd b b'
  | .alloc el, .alloc el' z => el == el' && zeroOk P el z
  | .box el x, .box el' y => el == el' && cOpd x y
  | .build t ps, .build z qs => zeroOk P t z && (match P.underlying t with
    | some (.struct fs) => partsS P fs ps.toList qs && fs.toList.all fun f => (P.info? f.type).isSome
    | some (.array _ el) => (match P.info? el with
      | some i => partsA i.size ps.toList qs
      | none => false)
    | _ => false)
  | .buildSlice t n ps, .lit el sz n' z qs => n == n' && (match P.underlying t with
    | some (.slice el') => el == el' && (match P.info? el with
      | some i => sz == i.size && decide (0 < sz) && decide (n * sz ≤ 16777216) && partsA sz ps.toList qs && (match i.zero with
        | some v => v.cells.size == i.size && cVals (List.replicate n v.cells.toList).flatten z
        | none => false)
      | none => false)
    | _ => false)
  | .load t a, .load agg b => cOpd a b && (match P.underlying t, P.info? t with
    | some _, some i => (if aggT P t then decide (agg = some i.size) && decide (0 < i.size) else decide (agg = none))
    | _, _ => false)
  | .store t a v, .store sz b u => cOpd a b && cOpd v u && sizeIs P t sz
  | .binOp op t x y _, .bin op' x' y' => decide (op = op') && cOpd x x' && cOpd y y'
  | .binOp op t x y _, .eq neg k x' y' => decide (op = if neg then .neq else .eql) && cOpd x x' && cOpd y y' && eqKindOk P t k
  | .unOp op _ x, .un op' y => decide (op = op') && cOpd x y
  | .convert s d x, .conv k y => cOpd x y && (match P.underlying s, P.underlying d with
    | some _, some (.int k') => decide (k = k')
    | _, _ => false)
  | .nilCheck x, .nilc y => cOpd x y
  | .fieldAddr s x f, .field off y => cOpd x y && (match P.underlying s with
    | some (.struct fs) => (match fs[f]? with
      | some fd => fd.offset == off && (match P.info? fd.type with
        | some i => i.size != 0
        | none => false)
      | none => false)
    | _ => false)
  | .indexAddr t x i, .idx sz arr x' i' => cOpd x x' && cOpd i i' && (match P.underlying t with
    | some (.slice el) => decide (arr = none) && sizeIs P el sz
    | some (.array n el) => decide (arr = some n) && sizeIs P el sz
    | _ => false)
  | .index t x i, .sidx x' i' => cOpd x x' && cOpd i i' && (match P.underlying t with | some .string => true | _ => false)
  | .slice t x lo hi mx, .slice sz k x' lo' hi' mx' => cOpd x x' && cOpt lo lo' && cOpt hi hi' && cOpt mx mx' && (mx'.isNone || hi'.isSome) && (match P.underlying t, k with
    | some (.slice el), .slice => sizeIs P el sz
    | some (.array n el), .array m => n == m && sizeIs P el sz
    | some .string, .string => mx'.isNone
    | _, _ => false)
  | .sliceToArrayPointer t x, .toArr n y => cOpd x y && (match P.underlying t with | some (.array m _) => m == n | _ => false)
  | .call c, .len k y => (match c.callee, c.args.toList, c.argTypes[0]? with
    | .builtin .len, [x], some t => cOpd x y && (match P.underlying t, k with
      | some (.slice _), .slice => true
      | some .string, .str => true
      | some (.map _ _), .map => true
      | _, _ => false)
    | _, _, _ => false)
  | .call c, .maxmin isMax x y => (match c.callee, c.args.toList with
    | .builtin b, [x', y'] => decide (b = if isMax then .max else .min) && cOpd x' x && cOpd y' y
    | _, _ => false)
  | .call c, .minN xs => (match c.callee with
    | .builtin b => decide (b = .min) && cOpds c.args.toList xs
    | _ => false)
  | .call c, .append el sz bytes s x => (match c.callee, c.args.toList, c.argTypes.toList with
    | .builtin .append, [s', x'], [t, t'] => cOpd s' s && cOpd x' x && (match P.underlying t with
      | some (.slice el') => el == el' && (match P.info? el with
        | some i => sz == i.size && bytes == i.bytes && (match i.zero with | some z => z.cells.size == i.size | none => false)
        | none => false)
      | _ => false) && (match P.underlying t' with
      | some (.slice _) | some .string => true
      | _ => false)
    | _, _, _ => false)
  | .extract x i, .extract y j => cOpd x y && i == j
  | .makeFunc (.func f) first captured, .mkfn g a b => f == g && cOpds first.toList a && cOpds captured.toList b
  | .makeMap _ none, .mkmap => true
  | .makeSlice t l c, .mkslice el sz bytes z l' c' => cOpd l l' && cOpd c c' && (match P.underlying t with
    | some (.slice el') => el == el' && (match P.info? el with
      | some i => sz == i.size && bytes == i.bytes && zeroOk P el z
      | none => false)
    | _ => false)
  | .lookup t m k ok, .lookup kk z ok' m' k' => ok == ok' && cOpd m m' && cOpd k k' && (match P.underlying t with
    | some (.map kt el) => keyKind P kt kk && (match P.info? el with
      | some i => (match i.zero with
        | some v => cConst v z
        | none => false)
      | none => false)
    | _ => false)
  | .mapUpdate t m k v, .mapset kk m' k' v' => cOpd m m' && cOpd k k' && cOpd v v' && (match P.underlying t with
    | some (.map kt _) => keyKind P kt kk
    | _ => false)
  | .convert s d x, .s2b y => cOpd x y && (match P.underlying s, P.underlying d with
    | some .string, some (.slice e) => (match P.underlying e with
      | some (.int k) => decide (k = .u8)
      | _ => false)
    | _, _ => false)
  | .convert s d x, .b2s y => cOpd x y && (match P.underlying s, P.underlying d with
    | some (.slice e), some .string => (match P.underlying e with
      | some (.int k) => decide (k = .u8)
      | _ => false)
    | _, _ => false)
  | .convert s d x, .mark y => cOpd x y && s == d && (match P.underlying d with
    | some (.slice e) => (match P.underlying e with
      | some (.int k) => decide (k = .u8)
      | _ => false)
    | _ => false)
  | .call c, .mapdel kk m k => (match c.callee, c.args.toList, c.argTypes.toList with
    | .builtin .delete, [m', k'], [t, _] => cOpd m' m && cOpd k' k && (match P.underlying t with
      | some (.map kt _) => keyKind P kt kk
      | _ => false)
    | _, _, _ => false)
  -- an operation of which nothing is said
  | o, .pick (.const .junk) _ _ => (match o with | .defer _ => false | _ => true)
  | _, _ => false

section
variable {P : Program} {ρ : Nat → Option Nat} {H : AHeap} {w : World}

theorem cVal_rel {v : Value} {a : AVal} (h : cVal v a = true) (e : Nm) : VRel e a v := by
  unfold cVal at h
  split at h <;> first | (cases h; done) | skip
  · simp at h; subst h; simp [VRel]
  · simp at h; obtain ⟨rfl, rfl⟩ := h; simp [VRel]
  · rename_i a b
    simp at h
    have : a = b := by
      obtain ⟨a⟩ := a; obtain ⟨b⟩ := b
      congr 1
      skip
    subst this; simp [VRel]
  · simp [VRel]
  · simp at h; obtain ⟨rfl, rfl⟩ := h; simp [VRel]
  · simp [VRel]
  · simp [VRel]

theorem cVals_rel : ∀ {vs : List Value} {as : List AVal}, cVals vs as = true → ∀ (e : Nm), vs.length = as.length ∧ VsRel e as (fun i => vs[i]?)
  | [], [], _, e => ⟨rfl, by simp [VsRel]⟩
  | [], _ :: _, h, e => by simp [cVals] at h
  | _ :: _, [], h, e => by simp [cVals] at h
  | v :: vs, a :: as, h, e => by
    simp [cVals] at h
    obtain ⟨h1, h2⟩ := cVals_rel h.2 e
    refine ⟨by simp [h1], ?_⟩
    simp only [VsRel]
    exact ⟨⟨v, rfl, cVal_rel h.1 e⟩, h2.congr fun i _ => by simp⟩

theorem cConst_rel {v : Value} {a : AVal} (h : cConst v a = true) (e : Nm) : VRel e a v := by
  unfold cConst at h
  split at h
  · rename_i arr cs
    obtain ⟨h1, h2⟩ := cVals_rel h e
    simp only [VRel]
    exact ⟨arr, rfl, by simpa using h1, h2.congr fun i _ => by simp⟩
  · exact cVal_rel h e

def evalv (tmps : Array Value) : Operand → Value := (Act.mk tmps []).eval

theorem eval_act (a : Act) : a.eval = evalv a.tmps := by
  funext x; cases x <;> rfl

theorem cOpd_rel {X : Operand} {x : AOpd} (h : cOpd X x = true) {e : Nm} {regs : Regs} {tmps : Array Value} (hr : RRel e regs tmps) : VRel e (geto regs x) (evalv tmps X) := by
  unfold cOpd at h
  split at h <;> first | (cases h; done) | skip
  · simp at h; subst h; exact hr _
  · exact cConst_rel h e
  · simp at h; subst h
    simp only [geto, VRel, evalv, Act.eval]
    exact ⟨#[], #[], rfl, rfl, rfl, by simp [VsRel], by simp [VsRel]⟩

theorem cOpds_rel : ∀ {Xs : List Operand} {xs : List AOpd}, cOpds Xs xs = true → ∀ {e : Nm} {regs : Regs} {tmps : Array Value}, RRel e regs tmps → (Xs.map (evalv tmps)).length = (xs.map (geto regs)).length ∧ VsRel e (xs.map (geto regs)) (fun i => (Xs.map (evalv tmps))[i]?)
  | [], [], _, e, regs, tmps, hr => ⟨rfl, by simp [VsRel]⟩
  | [], _ :: _, h, _, _, _, _ => by simp [cOpds] at h
  | _ :: _, [], h, _, _, _, _ => by simp [cOpds] at h
  | X :: Xs, x :: xs, h, e, regs, tmps, hr => by
    simp [cOpds] at h
    obtain ⟨h1, h2⟩ := cOpds_rel h.2 hr
    refine ⟨by simpa using h1, ?_⟩
    simp only [List.map_cons, VsRel]
    exact ⟨⟨_, rfl, cOpd_rel h.1 hr⟩, h2.congr fun i _ => by simp⟩

theorem zeroOk_inv {t : TypeId} {z : List AVal} (h : zeroOk P t z = true) : ∃ i v, P.info? t = some i ∧ i.zero = some v ∧ v.cells.size = z.length ∧ v.cells.size = i.size ∧ ∀ e, VsRel e z (fun j => v.cells[j]?) := by
  unfold zeroOk at h
  cases hi : P.info? t with
  | none => simp [hi] at h
  | some i =>
    simp only [hi] at h
    cases hz : i.zero with
    | none => simp [hz] at h
    | some v =>
      simp [hz] at h
      have := fun e => cVals_rel h.1 e
      exact ⟨i, v, rfl, hz, by simpa using (this ⟨fun _ => none, [], #[]⟩).1, h.2, fun e => (this e).2.congr fun j _ => by simp⟩

theorem sizeIs_inv {t : TypeId} {n : Nat} (h : sizeIs P t n = true) : ∃ i, P.info? t = some i ∧ i.size = n := by
  unfold sizeIs at h
  cases hi : P.info? t with
  | none => simp [hi] at h
  | some i => simp [hi] at h; exact ⟨i, rfl, h⟩

theorem partsS_rel {fs : Array Field} {e : Nm} {regs : Regs} {tmps : Array Value} (hr : RRel e regs tmps) : ∀ {ps : List (Nat × Operand)} {qs : List (Nat × Nat × AOpd)}, partsS P fs ps qs = true →
    All2 (fun (p : Nat × Value) (q : Nat × Nat × AOpd) => (∃ f, fs[p.1]? = some f ∧ f.offset = q.1 ∧ (P.info? f.type).map (·.size) = some q.2.1) ∧ VRel e (geto regs q.2.2) p.2) (ps.map fun p => (p.1, evalv tmps p.2)) qs
  | [], [], _ => trivial
  | [], _ :: _, h => by simp [partsS] at h
  | _ :: _, [], h => by simp [partsS] at h
  | (i, x) :: ps, (off, sz, y) :: qs, h => by
    simp only [partsS, Bool.and_eq_true] at h
    obtain ⟨⟨h1, h2⟩, h3⟩ := h
    refine ⟨⟨?_, cOpd_rel h2 hr⟩, partsS_rel hr h3⟩
    cases hf : fs[i]? with
    | none => simp [hf] at h1
    | some f =>
      simp [hf] at h1
      obtain ⟨i', h4, h5⟩ := sizeIs_inv h1.2
      exact ⟨f, by first | exact hf | rfl, h1.1, by simp [h4, h5]⟩

theorem partsA_rel {n : Nat} {e : Nm} {regs : Regs} {tmps : Array Value} (hr : RRel e regs tmps) : ∀ {ps : List (Nat × Operand)} {qs : List (Nat × Nat × AOpd)}, partsA n ps qs = true →
    All2 (fun (p : Nat × Value) (q : Nat × Nat × AOpd) => (q.1 = p.1 * n ∧ q.2.1 = n) ∧ VRel e (geto regs q.2.2) p.2) (ps.map fun p => (p.1, evalv tmps p.2)) qs
  | [], [], _ => trivial
  | [], _ :: _, h => by simp [partsA] at h
  | _ :: _, [], h => by simp [partsA] at h
  | (i, x) :: ps, (off, sz, y) :: qs, h => by
    simp [partsA] at h
    obtain ⟨⟨⟨h1, h2⟩, h3⟩, h4⟩ := h
    exact ⟨⟨⟨h1, h2⟩, cOpd_rel h3 hr⟩, partsA_rel hr h4⟩

/-- An operation's outcome. -/
def OpOk (P : Program) (s : Sem Next) (ρ : Nat → Option Nat) (H : AHeap) (w : World) (av : AVal) (H' : AHeap) : Prop :=
  ∃ r v w' ρ', s.run P w = .ok r w' ∧ (r = .value v ∨ (r = .skip ∧ v = undef)) ∧ VRel (nm ρ' H' w') av v ∧ HRel (nm ρ' H' w') ∧ Pres w.heap.size ρ H w ρ' H' w'

theorem ResOk.val {s : Sem Value} {av : AVal} {H' : AHeap} (h : ResOk P s ρ H w av H') {s' : Sem Next} (hs : ∀ v w', s.run P w = .ok v w' → s'.run P w = .ok (.value v) w') : OpOk P s' ρ H w av H' := by
  obtain ⟨v, w', ρ', h1, h2, h3, h4⟩ := h
  exact ⟨_, v, w', ρ', hs _ _ h1, .inl rfl, h2, h3, h4⟩

theorem OpOk.skip {s : Sem Unit} {H' : AHeap} (h : ∃ w', s.run P w = .ok () w' ∧ HRel (nm ρ H' w') ∧ Pres w.heap.size ρ H w ρ H' w') {s' : Sem Next} (hs : ∀ w', s.run P w = .ok () w' → s'.run P w = .ok .skip w') : OpOk P s' ρ H w .junk H' := by
  obtain ⟨w', h1, h3, h4⟩ := h
  exact ⟨_, undef, w', ρ, hs _ h1, .inr ⟨rfl, rfl⟩, by simp [VRel], h3, h4⟩

theorem run_v {s : Sem Value} {v : Value} {w' : World} (h : s.run P w = .ok v w') : (do pure (Next.value (← s)) : Sem Next).run P w = .ok (.value v) w' := by simp [h]

theorem cOpt_rel {X : Option Operand} {x : Option AOpd} (h : cOpt X x = true) {regs : Regs} {tmps : Array Value} (hr : RRel (nm ρ H w) regs tmps) {n : Option Int} (hn : opdInt (geto regs) x = some n) : OptRel (nm ρ H w) n (X.map (evalv tmps)) := by
  cases X with
  | none => cases x with
    | none => simp [opdInt] at hn; subst hn; trivial
    | some x => simp [cOpt] at h
  | some X => cases x with
    | none => simp [cOpt] at h
    | some x =>
      simp only [cOpt] at h
      have := cOpd_rel h hr
      unfold opdInt at hn
      cases hg : geto regs x <;> simp [hg] at hn
      subst hn
      rw [hg] at this
      exact ⟨_, this⟩

end
end Go.Am

namespace Go.Am
open Go
set_option linter.unusedVariables false

section
variable {P : Program} {ρ : Nat → Option Nat} {H : AHeap} {w : World}

theorem und_of {t : TypeId} {α : Type} {f : Option TypeDesc → α} {d : TypeDesc} (h : P.underlying t = some d) : P.underlying t = some d := h

set_option maxHeartbeats 1600000 in
theorem op_ok {o : Oper} {ao : AOp} (hc : okOp P o.op ao = true) {regs : Regs} {tmps : Array Value} (hrel : RRel (nm ρ H w) regs tmps) (hr : HRel (nm ρ H w)) {p : Prop} {av : AVal} {H' : AHeap}
    (h : evalOp (geto regs) H ao = .ok p av H') (hp : p) : OpOk P (execOp (evalv tmps) o) ρ H w av H' := by
  obtain ⟨dst, op, ty, pos, aft, gd⟩ := o
  simp only at hc
  unfold okOp at hc
  split at hc <;> first | (cases hc; done) | skip
  · -- move
    simp only [evalOp, Res.ok.injEq] at h
    obtain ⟨rfl, rfl, rfl⟩ := h
    exact ⟨_, _, w, ρ, rfl, .inl rfl, cOpd_rel hc hrel, hr, Pres.refl _ _ _ _⟩
  · -- assign
    simp only [evalOp, Res.ok.injEq] at h
    obtain ⟨rfl, rfl, rfl⟩ := h
    exact ⟨_, _, w, ρ, rfl, .inl rfl, cOpd_rel hc hrel, hr, Pres.refl _ _ _ _⟩
  · -- pick
    rename_i c a b c' a' b'
    simp only [Bool.and_eq_true] at hc
    obtain ⟨⟨h1, h2⟩, h3⟩ := hc
    have r1 := cOpd_rel h1 hrel
    simp only [evalOp] at h
    split at h <;> first | (cases h; done) | skip
    · rename_i hg
      simp only [Res.ok.injEq] at h
      obtain ⟨rfl, rfl, rfl⟩ := h
      rw [hg] at r1
      have e := inv_bool r1
      exact ⟨_, _, w, ρ, by simp [execOp, e, asBool], .inl rfl, cOpd_rel h2 hrel, hr, Pres.refl _ _ _ _⟩
    · rename_i hg
      simp only [Res.ok.injEq] at h
      obtain ⟨rfl, rfl, rfl⟩ := h
      rw [hg] at r1
      have e := inv_bool r1
      exact ⟨_, _, w, ρ, by simp [execOp, e, asBool], .inl rfl, cOpd_rel h3 hrel, hr, Pres.refl _ _ _ _⟩
  · -- alloc
    simp only [Bool.and_eq_true, beq_iff_eq] at hc
    obtain ⟨rfl, h2⟩ := hc
    obtain ⟨i, v, hi, hz, hs, hsi, hv⟩ := zeroOk_inv h2
    simp only [evalOp, Res.ok.injEq] at h
    obtain ⟨rfl, rfl, rfl⟩ := h
    exact (alloc_ok hr hi hz hs (hv _)).val fun v w' hh => by simp [execOp, hh]
  · -- box
    simp only [Bool.and_eq_true, beq_iff_eq] at hc
    obtain ⟨rfl, h2⟩ := hc
    simp only [evalOp, Res.ok.injEq] at h
    obtain ⟨rfl, rfl, rfl⟩ := h
    exact (box_ok hr (cOpd_rel h2 hrel) hp).val fun v w' hh => by simp [execOp, hh]
  · -- build
    rename_i t ps z qs
    simp only [Bool.and_eq_true] at hc
    obtain ⟨h1, h2⟩ := hc
    obtain ⟨i, v, hi, hz, hs, hsi, hv⟩ := zeroOk_inv h1
    simp only [evalOp] at h
    cases hf : fillParts (geto regs) z qs with
    | none => simp [hf] at h
    | some cs =>
      simp only [hf, Res.ok.injEq] at h
      obtain ⟨rfl, rfl, rfl⟩ := h
      have hps : (ps.map fun (q : Nat × Operand) => (q.1, evalv tmps q.2)).toList = ps.toList.map fun q => (q.1, evalv tmps q.2) := by simp
      cases hd : P.underlying t with
      | none => simp [hd] at h2
      | some d =>
        cases d <;> simp only [hd] at h2 <;> first | (cases h2; done) | skip
        · rename_i n el
          cases hie : P.info? el with
          | none => simp [hie] at h2
          | some ie =>
            simp only [hie] at h2
            refine (build_array_ok (g := geto regs) (ps := ps.map fun q => (q.1, evalv tmps q.2)) hr hd hi hz hie hs (hv _) (by rw [hps]; exact partsA_rel hrel h2) hf).val fun v w' hh => ?_
            simp only [execOp, Sem.run_bind, hh]; rfl
        · rename_i fs
          simp only [Bool.and_eq_true] at h2
          refine (build_struct_ok (g := geto regs) (ps := ps.map fun q => (q.1, evalv tmps q.2)) hr hd hi hz hs (hv _) ?_ (by rw [hps]; exact partsS_rel hrel h2.1) hf).val fun v w' hh => ?_
          · intro f hf'
            have := List.all_eq_true.1 h2.2 f hf'
            exact Option.isSome_iff_exists.1 this
          · simp only [execOp, Sem.run_bind, hh]; rfl
  · -- a slice's literal
    rename_i t n ps el sz n' z qs
    simp only [Bool.and_eq_true, beq_iff_eq] at hc
    obtain ⟨rfl, h2⟩ := hc
    cases hd : P.underlying t with
    | none => simp [hd] at h2
    | some d =>
      cases d <;> simp only [hd] at h2 <;> first | (cases h2; done) | skip
      rename_i el'
      simp only [Bool.and_eq_true, beq_iff_eq] at h2
      obtain ⟨rfl, h2⟩ := h2
      cases hi : P.info? el with
      | none => simp [hi] at h2
      | some i =>
        simp only [hi, Bool.and_eq_true, beq_iff_eq, decide_eq_true_eq] at h2
        obtain ⟨⟨⟨⟨rfl, hpos⟩, hbig⟩, hparts⟩, hzz⟩ := h2
        cases hz : i.zero with
        | none => simp [hz] at hzz
        | some v =>
          simp only [hz, Bool.and_eq_true, beq_iff_eq] at hzz
          obtain ⟨hvs, hcv⟩ := hzz
          simp only [evalOp] at h
          cases hf : fillParts (geto regs) z qs with
          | none => simp [hf] at h
          | some cs =>
            simp only [hf, Res.ok.injEq] at h
            obtain ⟨rfl, rfl, rfl⟩ := h
            have hps : (ps.map fun (q : Nat × Operand) => (q.1, evalv tmps q.2)).toList = ps.toList.map fun q => (q.1, evalv tmps q.2) := by simp
            obtain ⟨l1, l2⟩ := cVals_rel hcv (nm ρ H w)
            have hrep : VsRel (nm ρ H w) z (fun j => ((Array.range (n * v.cells.size)).map (v.cells[· % v.cells.size]!))[j]?) := by
              refine l2.congr fun j hj => ?_
              have hl : (List.replicate n v.cells.toList).flatten.length = n * v.cells.size := by simp
              have hj' : j < n * v.cells.size := by omega
              have hvpos : 0 < v.cells.size := by omega
              rw [rep_get v.cells n j hvpos hj']
              have key : ∀ (n j : Nat), j < n * v.cells.size → (List.replicate n v.cells.toList).flatten[j]? = some (v.cells[j % v.cells.size]'(Nat.mod_lt _ hvpos)) := by
                intro n
                induction n with
                | zero => intro j hj; omega
                | succ n ih =>
                  intro j hj
                  simp only [List.replicate_succ, List.flatten_cons]
                  by_cases hlt : j < v.cells.size
                  · rw [List.getElem?_append_left (by simpa using hlt)]
                    simp [Nat.mod_eq_of_lt hlt, hlt]
                  · rw [List.getElem?_append_right (by simp; omega)]
                    simp only [Array.length_toList]
                    rw [ih (j - v.cells.size) (by rw [Nat.add_mul] at hj; omega)]
                    congr 2
                    exact (Nat.mod_eq_sub_mod (by omega)).symm
              exact (key n j hj').symm
            refine (lit_ok (g := geto regs) (ps := ps.map fun q => (q.1, evalv tmps q.2)) hr hd hi hz hvs hpos (by rw [← l1]; simp [hvs]) hrep hbig (by rw [hps]; exact partsA_rel hrel hparts) hf).val fun v w' hh => ?_
            simp only [execOp, Sem.run_bind, hh]; rfl
  · -- load
    rename_i t a agg b
    simp only [Bool.and_eq_true] at hc
    obtain ⟨h1, h2⟩ := hc
    cases hd : P.underlying t with
    | none => simp [hd] at h2
    | some d =>
      cases hi : P.info? t with
      | none => simp [hd, hi] at h2
      | some i =>
        simp only [hd, hi] at h2
        simp only [evalOp] at h
        cases hl : loadA H agg (geto regs b) with
        | none => simp [hl] at h
        | some q =>
          obtain ⟨p', v'⟩ := q
          simp only [hl, Res.ok.injEq] at h
          obtain ⟨rfl, rfl, rfl⟩ := h
          have hagg : agg = if aggT P t then some i.size else none := by
            split at h2
            · simp at h2; rw [if_pos ‹_›]; exact h2.1
            · simp at h2; rw [if_neg ‹_›]; exact h2
          have hpos : aggT P t = true → 0 < i.size := by
            intro ha; rw [if_pos ha] at h2; simp at h2; exact h2.2
          exact (load_ok hr hd hi hagg (cOpd_rel h1 hrel) hl hp hpos).val fun v w' hh => by simp [execOp, hh]
  · -- store
    rename_i t a v sz b u
    simp only [Bool.and_eq_true] at hc
    obtain ⟨⟨h1, h2⟩, h3⟩ := hc
    obtain ⟨i, hi, rfl⟩ := sizeIs_inv h3
    simp only [evalOp] at h
    have ra := cOpd_rel h1 hrel
    have rv := cOpd_rel h2 hrel
    generalize geto regs b = A at *
    generalize geto regs u = V at *
    cases hs : storeA H i.size A V with
    | none => simp [hs] at h
    | some q =>
      obtain ⟨p', H''⟩ := q
      simp only [hs, Res.ok.injEq] at h
      obtain ⟨rfl, rfl, rfl⟩ := h
      refine OpOk.skip (s := Instr.storeAt t (evalv tmps a) (evalv tmps v)) ?_ (fun w' hh => by simp [execOp, hh])
      -- the place that is written
      have place : ∀ n o d cs d', H[n]? = some d → content (some d) = some cs → o + i.size ≤ cs.length → V.cells.length = i.size → V.cells.all AVal.cellish = true → (∀ (z : Nat × Nat) (c : List AVal), d = .vec c z.1 z.2 → 0 < i.size) →
          ((∃ el, d = .cells cs el ∧ d' = .cells (fillAt cs o V.cells) el) ∨ (∃ el z, d = .vec cs el z ∧ d' = .vec (fillAt cs o V.cells) el z)) →
          (∀ b, ρ n = some b → evalv tmps a = .pointer (some ⟨b, o, none⟩)) →
          ∃ w', (Instr.storeAt t (evalv tmps a) (evalv tmps v)).run P w = .ok () w' ∧ HRel (nm ρ (H.set n d') w') ∧ Pres w.heap.size ρ H w ρ (H.set n d') w' := by
        intro n o d cs d' hn hcs h1 h2 h3 hvp hd' ha
        have hb : ∃ b, ρ n = some b := by
          rcases content_at hr (n := n) (cs := cs) (by rw [hn]; exact hcs) with ⟨hnone, hc0, _⟩ | ⟨b, arr, el, hb, _⟩
          · exfalso
            have hbr := hr.blk n d hn
            rcases hd' with ⟨el, rfl, _⟩ | ⟨el, z, rfl, _⟩
            · obtain ⟨b, arr, e1, _⟩ := hbr
              have : ρ n = some b := e1
              rw [hnone] at this; cases this
            · have := hvp (el, z) cs rfl
              subst hc0
              simp at h1; omega
          · exact ⟨b, hb⟩
        obtain ⟨b, hb⟩ := hb
        obtain ⟨w', g1, g2, g3⟩ := store_at (P := P) hr hi hn hcs hb rv h1 h2 h3 d' hd'
        refine ⟨w', ?_, g2, g3⟩
        rw [ha b hb]
        simp [Instr.storeAt, Instr.sureAddr, g1]
      cases A <;> simp only [storeA] at hs <;> first | (cases hs; done) | skip
      · rename_i n off
        cases hn : H[n]? with
        | none => simp [hn] at hs
        | some blk =>
          have hptr : ∀ b, alive H n = true → ρ n = some b → evalv tmps a = .pointer (some ⟨b, off, none⟩) := by
            intro b hal hb
            simp only [VRel] at ra
            obtain ⟨_, a', ha, hh⟩ := ra
            obtain ⟨h5, h6⟩ := hh hal
            have : some a'.block = some b := by rw [← hb]; exact h5.symm
            cases this
            rw [ha, h6]
          cases blk <;> simp only [hn, Option.some.injEq, Prod.mk.injEq] at hs <;> first | (cases hs; done) | skip
          · obtain ⟨rfl, rfl⟩ := hs
            obtain ⟨h1, h2, h3⟩ := hp
            exact place n off _ _ _ hn rfl h1 h2 h3 (fun z c hh => by cases hh) (.inl ⟨_, rfl, rfl⟩) fun b hb => hptr b (alive_of hn rfl) hb
          · obtain ⟨rfl, rfl⟩ := hs
            obtain ⟨h1, h0, h2, h3⟩ := hp
            exact place n off _ _ _ hn rfl h1 h2 h3 (fun _ _ _ => h0) (.inr ⟨_, _, rfl, rfl⟩) fun b hb => hptr b (alive_of hn rfl) hb
      · rename_i s k
        cases s <;> simp only at hs <;> first | (cases hs; done) | skip
        rename_i n o len z'
        cases hn : H[n]? with
        | none => simp [hn] at hs
        | some blk =>
          have hptr : ∀ b, alive H n = true → ρ n = some b → 0 < len * z' → evalv tmps a = .pointer (some ⟨b, o + k, none⟩) := by
            intro b hal hb hpos
            simp only [VRel] at ra
            obtain ⟨b', o', len', cap, ha, hnl, a2, cap2, hs2, hc2, hh⟩ := ra
            cases hs2
            rcases hh hal with ⟨h5, _⟩ | ⟨h5, _⟩ | ⟨b'', r, h5, h6, _⟩
            · have h5' : ρ n = none := h5
              rw [hb] at h5'; cases h5'
            · simp [h5] at hpos
            · have : some b'' = some b := by rw [← hb]; exact h5.symm
              cases this
              cases h6
              exact ha
          cases blk <;> simp only [hn, Option.some.injEq, Prod.mk.injEq] at hs <;> first | (cases hs; done) | skip
          · obtain ⟨rfl, rfl⟩ := hs
            obtain ⟨h1, h0, h2, h3, h4⟩ := hp
            exact place n (o + k) _ _ _ hn rfl (by omega) h3 h4 (fun z c hh => by cases hh) (.inl ⟨_, rfl, rfl⟩) fun b hb => hptr b (alive_of hn rfl) hb (by omega)
          · obtain ⟨rfl, rfl⟩ := hs
            obtain ⟨h1, h0, h2, h3, h4⟩ := hp
            exact place n (o + k) _ _ _ hn rfl (by omega) h3 h4 (fun _ _ _ => h0) (.inr ⟨_, _, rfl, rfl⟩) fun b hb => hptr b (alive_of hn rfl) hb (by omega)
  · -- a binary operation
    rename_i op t x y yt op' x' y'
    simp only [Bool.and_eq_true, decide_eq_true_eq] at hc
    obtain ⟨⟨rfl, h1⟩, h2⟩ := hc
    simp only [evalOp] at h
    cases hb : binA op (geto regs x') (geto regs y') with
    | none => simp [hb] at h
    | some q =>
      obtain ⟨p', v'⟩ := q
      simp only [hb, Res.ok.injEq] at h
      obtain ⟨rfl, rfl, rfl⟩ := h
      exact (bin_ok (t := t) (X := x) (Y := y) hr (cOpd_rel h1 hrel) (cOpd_rel h2 hrel) hb hp).val fun v w' hh => by
        simp only [execOp]
        exact run_v hh
  · -- an equality
    rename_i op t x y yt neg k x' y'
    simp only [Bool.and_eq_true, decide_eq_true_eq] at hc
    obtain ⟨⟨⟨rfl, h1⟩, h2⟩, h3⟩ := hc
    simp only [evalOp] at h
    cases hb : eqA k (geto regs x') (geto regs y') with
    | none => simp [hb] at h
    | some q =>
      simp only [hb, Res.ok.injEq] at h
      obtain ⟨rfl, rfl, rfl⟩ := h
      have ra := cOpd_rel h1 hrel
      have rb := cOpd_rel h2 hrel
      have main : ResOk P (do eqGuard (if neg then .neq else .eql) t x y (evalv tmps x) (evalv tmps y); binOp (if neg then .neq else .eql) t (evalv tmps x) (evalv tmps y)) ρ H w (.bool (if neg then !q else q)) H := by
        cases k with
        | bool =>
          simp only [eqKindOk] at h3
          split at h3 <;> first | (cases h3; done) | skip
          rename_i hd
          generalize geto regs x' = A at *
          generalize geto regs y' = B at *
          cases A <;> cases B <;> simp [eqA] at hb
          subst hb
          exact eqbool_ok hr hd ra rb
        | ptr =>
          simp only [eqKindOk] at h3
          split at h3 <;> first | (cases h3; done) | skip
          rename_i hd
          exact eqptr_ok hr hd ra rb hb
        | func =>
          simp only [eqKindOk] at h3
          split at h3 <;> first | (cases h3; done) | skip
          rename_i hd
          exact eqfn_ok hr hd ra rb hb
        | map =>
          simp only [eqKindOk] at h3
          split at h3 <;> first | (cases h3; done) | skip
          rename_i hd
          exact eqmap_ok hr hd ra rb hb
        | slice =>
          simp only [eqKindOk] at h3
          split at h3 <;> first | (cases h3; done) | skip
          rename_i hd
          exact eqslice_ok hr hd ra rb hb
        | cells ks =>
          simp only [eqKindOk, Bool.and_eq_true, decide_eq_true_eq] at h3
          generalize geto regs x' = A at *
          generalize geto regs y' = B at *
          cases A <;> simp only [eqA] at hb <;> first | (cases hb; done) | skip
          cases B <;> simp only at hb <;> first | (cases hb; done) | skip
          exact eqcells_ok hr h3.2 h3.1 ra rb hb
      exact main.val fun v w' hh => by
        simp only [execOp]
        exact run_v hh
  · -- a unary operation
    rename_i op t x op' y
    simp only [Bool.and_eq_true, decide_eq_true_eq] at hc
    obtain ⟨rfl, h1⟩ := hc
    simp only [evalOp] at h
    cases hb : unA op (geto regs y) with
    | none => simp [hb] at h
    | some q =>
      simp only [hb, Res.ok.injEq] at h
      obtain ⟨rfl, rfl, rfl⟩ := h
      exact (un_ok hr (cOpd_rel h1 hrel) hb).val fun v w' hh => by simp [execOp, hh]
  · -- a conversion
    rename_i s d x k y
    simp only [Bool.and_eq_true] at hc
    obtain ⟨h1, h2⟩ := hc
    split at h2 <;> first | (cases h2; done) | skip
    rename_i ds k' hs hd
    simp at h2
    subst h2
    have ra := cOpd_rel h1 hrel
    simp only [evalOp] at h
    split at h <;> first | (cases h; done) | skip
    rename_i kk n hg
    simp only [Res.ok.injEq] at h
    obtain ⟨rfl, rfl, rfl⟩ := h
    rw [hg] at ra
    exact (conv_ok hr hs hd ra).val fun v w' hh => by simp [execOp, hh]
  · -- nilCheck
    rename_i x y
    have ra := cOpd_rel hc hrel
    simp only [evalOp] at h
    split at h <;> first | (cases h; done) | skip
    all_goals
      rename_i hg
      simp only [Res.ok.injEq] at h
      obtain ⟨rfl, rfl, rfl⟩ := h
      rw [hg] at ra
      refine ⟨_, _, w, ρ, nilc_ok hr ra ?_ (evalv tmps) x rfl _ rfl, .inl rfl, ra, hr, Pres.refl _ _ _ _⟩
      first | exact .inl ⟨_, _, rfl⟩ | exact .inr (.inl ⟨_, _, rfl⟩) | exact .inr (.inr ⟨_, _, _, rfl⟩)
  · -- a field's address
    rename_i s x f off y
    simp only [Bool.and_eq_true] at hc
    obtain ⟨h1, h2⟩ := hc
    have ra := cOpd_rel h1 hrel
    cases hd : P.underlying s with
    | none => simp [hd] at h2
    | some d =>
      cases d <;> simp only [hd] at h2 <;> first | (cases h2; done) | skip
      rename_i fs
      cases hf : fs[f]? with
      | none => simp [hf] at h2
      | some fd =>
        simp only [hf, Bool.and_eq_true, beq_iff_eq] at h2
        obtain ⟨rfl, h2⟩ := h2
        cases hi : P.info? fd.type with
        | none => simp [hi] at h2
        | some i =>
          simp [hi] at h2
          simp only [evalOp] at h
          split at h <;> first | (cases h; done) | skip
          · rename_i n o hg
            simp only [Res.ok.injEq] at h
            obtain ⟨rfl, rfl, rfl⟩ := h
            rw [hg] at ra
            obtain ⟨pp, hpp⟩ := ptr_some (.inl ⟨n, o, rfl⟩) ra
            rw [hpp] at ra
            exact (field_ok hr hd hf hi h2 (ptr_add ra)).val fun v w' hh => by simp [execOp, hpp, hh]
          · rename_i n o hg
            simp only [Res.ok.injEq] at h
            obtain ⟨rfl, rfl, rfl⟩ := h
            rw [hg] at ra
            obtain ⟨pp, hpp⟩ := ptr_some (.inr ⟨n, o, rfl⟩) ra
            rw [hpp] at ra
            exact (field_ok hr hd hf hi h2 (sptr_add ra)).val fun v w' hh => by simp [execOp, hpp, hh]
  · -- an element's address
    rename_i t x i sz arr x' i'
    simp only [Bool.and_eq_true] at hc
    obtain ⟨⟨h1, h2⟩, h3⟩ := hc
    have ra := cOpd_rel h1 hrel
    have ri := cOpd_rel h2 hrel
    cases hd : P.underlying t with
    | none => simp [hd] at h3
    | some d =>
      cases d <;> simp only [hd] at h3 <;> first | (cases h3; done) | skip
      · -- slice
        rename_i el
        simp only [Bool.and_eq_true, decide_eq_true_eq] at h3
        obtain ⟨rfl, h3⟩ := h3
        obtain ⟨ii, hi, rfl⟩ := sizeIs_inv h3
        simp only [evalOp] at h
        split at h <;> first | (cases h; done) | skip
        · rename_i heq _; cases heq
        · rename_i k j _ hgi
          rw [hgi] at ri
          cases hn : slen (geto regs x') with
          | none => simp [hn] at h
          | some n =>
            simp only [hn, Res.ok.injEq] at h
            obtain ⟨rfl, rfl, rfl⟩ := h
            obtain ⟨p1, p2, p3, p4⟩ := hp
            exact (idx_slice_ok hr hd hi ra ri hn p1 p2 p3).val fun v w' hh => by simp [execOp, hh]
      · -- array
        rename_i m el
        simp only [Bool.and_eq_true, decide_eq_true_eq] at h3
        obtain ⟨rfl, h3⟩ := h3
        obtain ⟨ii, hi, rfl⟩ := sizeIs_inv h3
        simp only [evalOp] at h
        split at h <;> first | (cases h; done) | skip
        · rename_i m' k j heq hgi
          cases heq
          rw [hgi] at ri
          split at h <;> first | (cases h; done) | skip
          · rename_i n o hg
            simp only [Res.ok.injEq] at h
            obtain ⟨rfl, rfl, rfl⟩ := h
            rw [hg] at ra
            obtain ⟨pp, hpp⟩ := ptr_some (.inl ⟨n, o, rfl⟩) ra
            rw [hpp] at ra
            exact (idx_array_ok hr hd hi ri hp.1 hp.2 (ptr_add ra)).val fun v w' hh => by simp [execOp, hpp, hh]
          · rename_i n o hg
            simp only [Res.ok.injEq] at h
            obtain ⟨rfl, rfl, rfl⟩ := h
            rw [hg] at ra
            obtain ⟨pp, hpp⟩ := ptr_some (.inr ⟨n, o, rfl⟩) ra
            rw [hpp] at ra
            exact (idx_array_ok hr hd hi ri hp.1 hp.2 (sptr_add ra)).val fun v w' hh => by simp [execOp, hpp, hh]
        · rename_i heq _; cases heq
  · -- a string's byte
    rename_i t x i x' i'
    simp only [Bool.and_eq_true] at hc
    obtain ⟨⟨h1, h2⟩, h3⟩ := hc
    split at h3 <;> first | (cases h3; done) | skip
    rename_i hd
    have ra := cOpd_rel h1 hrel
    have ri := cOpd_rel h2 hrel
    simp only [evalOp] at h
    split at h <;> first | (cases h; done) | skip
    rename_i s k j hgs hgi
    simp only [Res.ok.injEq] at h
    obtain ⟨rfl, rfl, rfl⟩ := h
    rw [hgs] at ra
    rw [hgi] at ri
    exact (sidx_ok hr hd ra ri hp.1 hp.2).val fun v w' hh => by simp [execOp, hh]
  · -- a slice
    rename_i t x lo hi mx sz k x' lo' hi' mx'
    simp only [Bool.and_eq_true] at hc
    obtain ⟨⟨⟨⟨⟨h1, h2⟩, h3⟩, h4⟩, h5⟩, h6⟩ := hc
    have ra := cOpd_rel h1 hrel
    simp only [evalOp] at h
    split at h <;> first | (cases h; done) | skip
    rename_i nlo nhi nmx e1 e2 e3
    have r2 := cOpt_rel h2 hrel e1
    have r3 := cOpt_rel h3 hrel e2
    have r4 := cOpt_rel h4 hrel e3
    have hmh : nmx = none ∨ nhi ≠ none := by
      cases mx' with
      | none => simp [opdInt] at e3; exact .inl e3.symm
      | some u =>
        cases hi' with
        | none => simp at h5
        | some u' =>
          right
          intro hh
          subst hh
          unfold opdInt at e2
          cases hg : geto regs u' <;> simp [hg] at e2
    cases hd : P.underlying t with
    | none => simp [hd] at h6
    | some d =>
      cases k <;> cases d <;> simp only [hd] at h6 <;> first | (cases h6; done) | skip
      · -- of a slice
        obtain ⟨ii, hii, rfl⟩ := sizeIs_inv h6
        simp only at h
        cases hs : sliceA ii.size (geto regs x') nlo nhi nmx with
        | none => simp [hs] at h
        | some q =>
          obtain ⟨p', v'⟩ := q
          simp only [hs, Res.ok.injEq] at h
          obtain ⟨rfl, rfl, rfl⟩ := h
          exact (slice_ok hr hd hii ra r2 r3 r4 hmh hs hp).val fun v w' hh => by simp [execOp, hh]
      · -- of a string
        simp only at h
        split at h <;> first | (cases h; done) | skip
        rename_i s hg
        rw [hg] at ra
        simp only [Res.ok.injEq] at h
        obtain ⟨rfl, rfl, rfl⟩ := h
        cases mx' with
        | some u => simp at h6
        | none =>
          simp [opdInt] at e3
          subst e3
          cases mx with
          | some u => simp [cOpt] at h4
          | none => exact (slicestr_ok hr hd ra r2 r3 hp).val fun v w' hh => by simp [execOp, hh]
      · -- of an array
        rename_i m m' el
        simp only [Bool.and_eq_true, beq_iff_eq] at h6
        obtain ⟨rfl, h6⟩ := h6
        obtain ⟨ii, hii, rfl⟩ := sizeIs_inv h6
        simp only at h
        split at h <;> first | (cases h; done) | skip
        rename_i n o hg
        rw [hg] at ra
        split at h <;> first | (cases h; done) | skip
        rename_i cs el' hn
        simp only [Res.ok.injEq] at h
        obtain ⟨rfl, rfl, rfl⟩ := h
        exact (slicearr_ok hr hd hii ra hn hp.2 r2 r3 r4 hmh hp.1).val fun v w' hh => by simp [execOp, hh]
  · -- an array of a slice
    rename_i t x n y
    simp only [Bool.and_eq_true] at hc
    obtain ⟨h1, h2⟩ := hc
    split at h2 <;> first | (cases h2; done) | skip
    rename_i m el hd
    simp at h2
    subst h2
    have ra := cOpd_rel h1 hrel
    simp only [evalOp] at h
    cases hn : slen (geto regs y) with
    | none => simp [hn] at h
    | some len =>
      simp only [hn, Res.ok.injEq] at h
      obtain ⟨rfl, rfl, rfl⟩ := h
      exact (toArr_ok hr hd ra hn hp.1 hp.2.1 hp.2.2).val fun v w' hh => by simp [execOp, hh]
  · -- len
    rename_i c k y
    split at hc <;> first | (cases hc; done) | skip
    rename_i x t hcal hargs hat
    simp only [Bool.and_eq_true] at hc
    obtain ⟨h1, h2⟩ := hc
    have ra := cOpd_rel h1 hrel
    have hargs' : c.args = #[x] := by apply Array.ext'; simpa using hargs
    have hrun : ∀ v w', (Builtin.len_ c.argTypes ty #[evalv tmps x]).run P w = .ok v w' →
        (execOp (evalv tmps) { dst := dst, op := .call c, type := ty, pos := pos, after := aft, guard := gd }).run P w = .ok (.value v) w' := by
      intro v w' hh
      simp only [execOp, resolve, hcal, Sem.run_bind, Sem.run_pure, Result.andThen_ok, invoke, builtin, hargs']
      simp [hh]
    simp only [evalOp] at h
    cases hd : P.underlying t with
    | none => simp [hd] at h2
    | some d =>
      cases k with
      | slice =>
        cases d <;> simp [hd] at h2
        simp only at h
        cases hn : slen (geto regs y) with
        | none => simp [hn] at h
        | some n =>
          simp only [hn, Res.ok.injEq] at h
          obtain ⟨rfl, rfl, rfl⟩ := h
          exact (len_ok hr hd ra hn _ hat _).val hrun
      | str =>
        cases d <;> simp [hd] at h2
        simp only at h
        split at h <;> first | (cases h; done) | skip
        rename_i s hg
        rw [hg] at ra
        simp only [Res.ok.injEq] at h
        obtain ⟨rfl, rfl, rfl⟩ := h
        exact (lenstr_ok hr hd ra _ hat _).val hrun
      | map =>
        cases d <;> simp [hd] at h2
        simp only at h
        split at h <;> first | (cases h; done) | skip
        · rename_i n hg
          rw [hg] at ra
          split at h <;> first | (cases h; done) | skip
          rename_i es hn
          simp only [Res.ok.injEq] at h
          obtain ⟨rfl, rfl, rfl⟩ := h
          exact (lenmap_ok hr hd ra (.inr ⟨n, rfl, hn⟩) _ hat _).val hrun
        · rename_i hg
          rw [hg] at ra
          simp only [Res.ok.injEq] at h
          obtain ⟨rfl, rfl, rfl⟩ := h
          have := (lenmap_ok (ty := ty) hr hd ra (es := []) (.inl ⟨rfl, rfl⟩) _ hat).val hrun
          simpa using this
  · -- max, min
    rename_i c isMax x y
    split at hc <;> first | (cases hc; done) | skip
    rename_i b x' y' hcal hargs
    simp only [Bool.and_eq_true, decide_eq_true_eq] at hc
    obtain ⟨⟨rfl, h1⟩, h2⟩ := hc
    have ra := cOpd_rel h1 hrel
    have rb := cOpd_rel h2 hrel
    have hargs' : c.args = #[x', y'] := by apply Array.ext'; simpa using hargs
    simp only [evalOp] at h
    split at h <;> first | (cases h; done) | skip
    rename_i k a k' b hg1 hg2
    simp only [Res.ok.injEq] at h
    obtain ⟨rfl, rfl, rfl⟩ := h
    subst hp
    rw [hg1] at ra
    rw [hg2] at rb
    refine (maxmin_ok (isMax := isMax) hr ra rb c.argTypes ty).val fun v w' hh => ?_
    cases isMax
    · simp only [Bool.false_eq_true, if_false] at hh hcal
      simp only [execOp, resolve, hcal, Sem.run_bind, Sem.run_pure, Result.andThen_ok, invoke, builtin, hargs']
      simp [hh]
    · simp only [if_true] at hh hcal
      simp only [execOp, resolve, hcal, Sem.run_bind, Sem.run_pure, Result.andThen_ok, invoke, builtin, hargs']
      simp [hh]
  · -- minN
    rename_i c xs
    split at hc <;> first | (cases hc; done) | skip
    rename_i b hcal
    simp only [Bool.and_eq_true, decide_eq_true_eq] at hc
    obtain ⟨rfl, h2⟩ := hc
    obtain ⟨l1, r1⟩ := cOpds_rel h2 hrel
    simp only [evalOp] at h
    split at h <;> first | (cases h; done) | skip
    rename_i v hv
    simp only [Res.ok.injEq] at h
    obtain ⟨rfl, rfl, rfl⟩ := h
    refine (minN_ok (P := P) hr l1 r1 hv c.argTypes ty).val fun v w' hh => ?_
    simp only [execOp, resolve, hcal, Sem.run_bind, Sem.run_pure, Result.andThen_ok, invoke, builtin]
    have ha : Array.map (evalv tmps) c.args = (c.args.toList.map (evalv tmps)).toArray := by apply Array.ext'; simp
    rw [← ha] at hh
    simp [hh]
  · -- append
    rename_i c el sz bytes s x
    split at hc <;> first | (cases hc; done) | skip
    rename_i s' x' t t' hcal hargs htys
    simp only [Bool.and_eq_true] at hc
    obtain ⟨⟨⟨h1, h2⟩, h3⟩, h4⟩ := hc
    have ra := cOpd_rel h1 hrel
    have rb := cOpd_rel h2 hrel
    have hargs' : c.args = #[s', x'] := by apply Array.ext'; simpa using hargs
    have htys' : c.argTypes = #[t, t'] := by apply Array.ext'; simpa using htys
    cases hd : P.underlying t with
    | none => simp [hd] at h3
    | some d =>
      cases d <;> simp only [hd] at h3 <;> first | (cases h3; done) | skip
      rename_i el'
      simp only [Bool.and_eq_true, beq_iff_eq] at h3
      obtain ⟨rfl, h3⟩ := h3
      cases hi : P.info? el with
      | none => simp [hi] at h3
      | some i =>
        simp only [hi, Bool.and_eq_true, beq_iff_eq] at h3
        obtain ⟨⟨rfl, rfl⟩, h3⟩ := h3
        cases hz : i.zero with
        | none => simp [hz] at h3
        | some z =>
          simp [hz] at h3
          cases hd' : P.underlying t' with
          | none => simp [hd'] at h4
          | some d' =>
            have hdd : (∃ e2, d' = .slice e2) ∨ d' = .string := by
              cases d' <;> simp [hd'] at h4 ⊢
            simp only [evalOp] at h
            cases hap : appendA H el i.size i.bytes (geto regs s) (geto regs x) with
            | none => simp [hap] at h
            | some q =>
              obtain ⟨p', v', H''⟩ := q
              simp only [hap, Res.ok.injEq] at h
              obtain ⟨rfl, rfl, rfl⟩ := h
              refine (append_nil_ok (ty := ty) hr hd hd' hdd hi hz h3 ra rb hap hp).val fun v w' hh => ?_
              simp only [execOp, resolve, hcal, Sem.run_bind, Sem.run_pure, Result.andThen_ok, invoke, builtin, hargs', htys']
              simp [hh]
  · -- extract
    rename_i x i y j
    simp only [Bool.and_eq_true, beq_iff_eq] at hc
    obtain ⟨h1, rfl⟩ := hc
    have ra := cOpd_rel h1 hrel
    simp only [evalOp] at h
    split at h <;> first | (cases h; done) | skip
    rename_i vs hg
    simp only [Res.ok.injEq] at h
    obtain ⟨rfl, rfl, rfl⟩ := h
    rw [hg] at ra
    exact (extract_ok hr ra hp).val fun v w' hh => by simp [execOp, hh]
  · -- makeFunc
    rename_i f first captured g a b
    simp only [Bool.and_eq_true, beq_iff_eq] at hc
    obtain ⟨⟨rfl, h1⟩, h2⟩ := hc
    obtain ⟨l1, r1⟩ := cOpds_rel h1 hrel
    obtain ⟨l2, r2⟩ := cOpds_rel h2 hrel
    simp only [evalOp, Res.ok.injEq] at h
    obtain ⟨rfl, rfl, rfl⟩ := h
    refine (mkfn_ok (f := f) (xs := first.map (evalv tmps)) (ys := captured.map (evalv tmps)) hr (by simpa using l1) (by simpa using l2) (r1.congr fun i _ => by simp) (r2.congr fun i _ => by simp)).val fun v w' hh => by simp [execOp, hh]
  · -- makeMap
    simp only [evalOp, Res.ok.injEq] at h
    obtain ⟨rfl, rfl, rfl⟩ := h
    rename_i tm
    exact (mkmap_ok hr tm none rfl).val fun v w' hh => by simp [execOp, hh]
  · -- makeSlice
    rename_i t l c el sz bytes z l' c'
    simp only [Bool.and_eq_true] at hc
    obtain ⟨⟨h1, h2⟩, h3⟩ := hc
    have ra := cOpd_rel h1 hrel
    have rb := cOpd_rel h2 hrel
    cases hd : P.underlying t with
    | none => simp [hd] at h3
    | some d =>
      cases d <;> simp only [hd] at h3 <;> first | (cases h3; done) | skip
      rename_i el'
      simp only [Bool.and_eq_true, beq_iff_eq] at h3
      obtain ⟨rfl, h3⟩ := h3
      cases hi : P.info? el with
      | none => simp [hi] at h3
      | some i =>
        simp only [hi, Bool.and_eq_true, beq_iff_eq] at h3
        obtain ⟨⟨rfl, rfl⟩, h3⟩ := h3
        obtain ⟨i', v, hi', hz, hs, hsi, hv⟩ := zeroOk_inv h3
        rw [hi] at hi'
        cases hi'
        simp only [evalOp] at h
        split at h <;> first | (cases h; done) | skip
        rename_i k n k' m hg1 hg2
        simp only [Res.ok.injEq] at h
        obtain ⟨rfl, rfl, rfl⟩ := h
        obtain ⟨p1, rfl, p3, p4, p5, p6⟩ := hp
        rw [hg1] at ra
        rw [hg2] at rb
        exact (mkslice_ok hr hd hi hz hsi p5 hs (hv _) ra rb p1 p3 p6).val fun v w' hh => by simp [execOp, hh]
  · -- lookup
    rename_i t m k ok kk z ok' m' k'
    simp only [Bool.and_eq_true, beq_iff_eq] at hc
    obtain ⟨⟨⟨rfl, h1⟩, h2⟩, h3⟩ := hc
    have ra := cOpd_rel h1 hrel
    have rb := cOpd_rel h2 hrel
    cases hd : P.underlying t with
    | none => simp [hd] at h3
    | some d =>
      cases d <;> simp only [hd] at h3 <;> first | (cases h3; done) | skip
      rename_i kt el
      simp only [Bool.and_eq_true] at h3
      obtain ⟨h3, h4⟩ := h3
      cases hi : P.info? el with
      | none => simp [hi] at h4
      | some i =>
        simp only [hi] at h4
        cases hz : i.zero with
        | none => simp [hz] at h4
        | some v =>
          simp only [hz] at h4
          have hzr := cConst_rel h4 (nm ρ H w)
          have hkd : ∀ a, kindA kk a = true → ∃ d, P.underlying kt = some d ∧ kindOk d a := by
            intro a ha
            unfold keyKind at h3
            cases hkt : P.underlying kt with
            | none => simp [hkt] at h3
            | some d =>
              refine ⟨d, rfl, ?_⟩
              cases d <;> cases kk <;> simp [hkt] at h3 <;> cases a <;> simp [kindA] at ha <;> trivial
          simp only [evalOp] at h
          split at h <;> first | (cases h; done) | skip
          · rename_i n hg
            rw [hg] at ra
            split at h <;> first | (cases h; done) | skip
            rename_i es hn
            simp only [Res.ok.injEq] at h
            obtain ⟨rfl, rfl, rfl⟩ := h
            obtain ⟨dk, q1, q2⟩ := hkd _ hp.1
            exact (lookup_ok hr hd q1 hi hz hzr ra rb q2 (.inr ⟨n, rfl, hn⟩) hp.2 ok).val fun v w' hh => by simp [execOp, hh]
          · rename_i hg
            rw [hg] at ra
            simp only [Res.ok.injEq] at h
            obtain ⟨rfl, rfl, rfl⟩ := h
            obtain ⟨dk, q1, q2⟩ := hkd _ hp.1
            have := (lookup_ok hr hd q1 hi hz hzr ra rb q2 (es := []) (.inl ⟨rfl, rfl⟩) hp.2 ok).val (s' := execOp (evalv tmps) { dst := dst, op := .lookup t m k ok, type := ty, pos := pos, after := aft, guard := gd }) fun v w' hh => by simp [execOp, hh]
            simpa [find] using this
  · -- mapUpdate
    rename_i t m k v kk m' k' v'
    simp only [Bool.and_eq_true] at hc
    obtain ⟨⟨⟨h1, h2⟩, h3⟩, h4⟩ := hc
    have ra := cOpd_rel h1 hrel
    have rb := cOpd_rel h2 hrel
    have rc := cOpd_rel h3 hrel
    cases hd : P.underlying t with
    | none => simp [hd] at h4
    | some d =>
      cases d <;> simp only [hd] at h4 <;> first | (cases h4; done) | skip
      rename_i kt el
      have hkd : ∀ a, kindA kk a = true → ∃ d, P.underlying kt = some d ∧ kindOk d a := by
        intro a ha
        unfold keyKind at h4
        cases hkt : P.underlying kt with
        | none => simp [hkt] at h4
        | some d =>
          refine ⟨d, rfl, ?_⟩
          cases d <;> cases kk <;> simp [hkt] at h4 <;> cases a <;> simp [kindA] at ha <;> trivial
      simp only [evalOp] at h
      split at h <;> first | (cases h; done) | skip
      rename_i n hg
      rw [hg] at ra
      split at h <;> first | (cases h; done) | skip
      rename_i es hn
      simp only [Res.ok.injEq] at h
      obtain ⟨rfl, rfl, rfl⟩ := h
      obtain ⟨dk, q1, q2⟩ := hkd _ hp.1
      exact OpOk.skip (s := Instr.mapUpdate t (evalv tmps m) (evalv tmps k) (evalv tmps v)) (mapset_ok hr hd q1 ra rb rc q2 hn hp.2) fun w' hh => by simp [execOp, hh]
  · -- bytes of a text
    rename_i s d x y
    simp only [Bool.and_eq_true] at hc
    obtain ⟨h1, h2⟩ := hc
    have ra := cOpd_rel h1 hrel
    cases hs : P.underlying s with
    | none => simp [hs] at h2
    | some ds =>
    cases hd : P.underlying d with
    | none => cases ds <;> simp [hs, hd] at h2
    | some dd =>
      cases ds <;> cases dd <;> simp only [hs, hd] at h2 <;> first | (cases h2; done) | skip
      rename_i e
      cases he : P.underlying e with
      | none => simp [he] at h2
      | some de =>
        cases de <;> simp only [he] at h2 <;> first | (cases h2; done) | skip
        simp only [decide_eq_true_eq] at h2
        subst h2
        simp only [evalOp] at h
        split at h <;> first | (cases h; done) | skip
        rename_i str hg
        simp only [Res.ok.injEq] at h
        obtain ⟨rfl, rfl, rfl⟩ := h
        rw [hg] at ra
        have ra' := inv_str ra
        refine (s2b_ok (P := P) (e := e) (s := str) hr).val fun v w' hh => ?_
        simp [execOp, ra', convert, run_underlying hs, run_underlying hd, run_underlying he, hh]
  · -- the text of bytes
    rename_i s d x y
    simp only [Bool.and_eq_true] at hc
    obtain ⟨h1, h2⟩ := hc
    have ra := cOpd_rel h1 hrel
    cases hs : P.underlying s with
    | none => simp [hs] at h2
    | some ds =>
    cases hd : P.underlying d with
    | none => cases ds <;> simp [hs, hd] at h2
    | some dd =>
      cases ds <;> cases dd <;> simp only [hs, hd] at h2 <;> first | (cases h2; done) | skip
      rename_i e
      cases he : P.underlying e with
      | none => simp [he] at h2
      | some de =>
        cases de <;> simp only [he] at h2 <;> first | (cases h2; done) | skip
        simp only [decide_eq_true_eq] at h2
        subst h2
        simp only [evalOp] at h
        split at h <;> first | (cases h; done) | skip
        rename_i n cs hl hv
        split at h <;> first | (cases h; done) | skip
        rename_i str hb
        simp only [Res.ok.injEq] at h
        obtain ⟨rfl, rfl, rfl⟩ := h
        obtain ⟨a, cap, ea, _⟩ := slice_inv ra hl
        refine (b2s_ok (P := P) hr ra hl hv hp hb).val fun v w' hh => ?_
        rw [ea] at hh
        simp [execOp, ea, convert, run_underlying hs, run_underlying hd, run_underlying he, hh]
  · -- bytes of a text that is told
    rename_i s d x y
    simp only [Bool.and_eq_true, beq_iff_eq] at hc
    obtain ⟨⟨h1, rfl⟩, h2⟩ := hc
    have ra := cOpd_rel h1 hrel
    cases hd : P.underlying s with
    | none => simp [hd] at h2
    | some dd =>
      cases dd <;> simp only [hd] at h2 <;> first | (cases h2; done) | skip
      rename_i e
      cases he : P.underlying e with
      | none => simp [he] at h2
      | some de =>
        cases de <;> simp only [he] at h2 <;> first | (cases h2; done) | skip
        simp only [decide_eq_true_eq] at h2
        subst h2
        simp only [evalOp] at h
        split at h <;> first | (cases h; done) | skip
        rename_i p0 v0 H0 hm
        simp only [Res.ok.injEq] at h
        obtain ⟨rfl, rfl, rfl⟩ := h
        obtain ⟨a, len, cap, w', q1, q2, q3, q4, q5⟩ := mark_ok (P := P) hr ra hm hp
        refine ⟨_, _, w', ρ, ?_, .inl rfl, q3, q4, q5⟩
        simp [execOp, q1, convert, run_underlying hd, run_underlying he, q2]
  · -- delete
    rename_i c kk m k
    split at hc <;> first | (cases hc; done) | skip
    rename_i m' k' t t' hcal hargs htys
    simp only [Bool.and_eq_true] at hc
    obtain ⟨⟨h1, h2⟩, h4⟩ := hc
    have ra := cOpd_rel h1 hrel
    have rb := cOpd_rel h2 hrel
    have hargs' : c.args = #[m', k'] := by apply Array.ext'; simpa using hargs
    have htys' : c.argTypes = #[t, t'] := by apply Array.ext'; simpa using htys
    cases hd : P.underlying t with
    | none => simp [hd] at h4
    | some d =>
      cases d <;> simp only [hd] at h4 <;> first | (cases h4; done) | skip
      rename_i kt et
      have hkd : ∀ a, kindA kk a = true → ∃ d, P.underlying kt = some d ∧ kindOk d a := by
        intro a ha
        unfold keyKind at h4
        cases hkt : P.underlying kt with
        | none => simp [hkt] at h4
        | some d =>
          refine ⟨d, rfl, ?_⟩
          cases d <;> cases kk <;> simp [hkt] at h4 <;> cases a <;> simp [kindA] at ha <;> trivial
      simp only [evalOp] at h
      split at h <;> first | (cases h; done) | skip
      rename_i n hg
      rw [hg] at ra
      split at h <;> first | (cases h; done) | skip
      rename_i es hn
      simp only [Res.ok.injEq] at h
      obtain ⟨rfl, rfl, rfl⟩ := h
      obtain ⟨dk, q1, q2⟩ := hkd _ hp.1
      refine (mapdel_ok (P := P) (ty := ty) (t' := t') hr hd q1 ra rb q2 hn hp.2).val fun v w' hh => ?_
      simp only [execOp, resolve, hcal, Sem.run_bind, Sem.run_pure, Result.andThen_ok, invoke, builtin, hargs', htys']
      simp [hh]
  · -- nothing is said
    simp only [evalOp, geto] at h
    cases h

end
end Go.Am
