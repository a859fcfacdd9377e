/-
  Lemmas on the way to the statements of this seat. By an AI agent. No person has read it.
-/
import Derived.Shelf.SlicesE.Delete
import Derived.Shelf.SlMaps.Clone
import Derived.Test.YtamcfgdnhgmkpaaAm1
set_option linter.unusedSimpArgs false
set_option linter.unusedVariables false

namespace Go.Am
open Go Go.Proofs Go.Shelf Go.RowKit Go.Lib Go.Sort
variable {P : Program} {ρ : Ren}

set_option maxHeartbeats 4000000 in
set_option maxRecDepth 1000000 in
/-- slices.Delete of one element of a list of whole numbers. -/
theorem del_walk (L : SlLaysE.n45 P ρ) {k : IntKind} (v23 : ∀ w, (zeroValue (ρ.t 23)).run P w = .ok (.int k 0) w) (i0 : TypeInfo) (hi0 : P.info? (ρ.t 23) = some i0) (hz1 : i0.size = 1) (blk off cap i j : Nat) (d : Array Int) (w : World)
    (hH : Holds (Value.int k) w blk off d) (hcap : d.size ≤ cap) (hm : d.size ≤ 9223372036854775807) (hlt : i < j) (hj : j ≤ d.size) :
    Calls P (ρ.f 45) #[.slice (some ⟨blk, off, none⟩) d.size cap, .int .i64 i, .int .i64 j] w fun e w' => e = .returned (.slice (some ⟨blk, off, none⟩) (d.size - (j - i)) cap) ∧ ∃ q, w' = putRow (Value.int k) (Sort.ahead w q) blk off (d.toList.take i ++ d.toList.drop j ++ List.replicate (j - i) 0).toArray := by
  have mixed := L.mixed; have t0 := L.t0; have a0 := L.a0; have z0 := L.z0; have v0 := L.v0; have t3 := L.t3; have a3 := L.a3; have z3 := L.z3; have v3 := L.v3; have t4 := L.t4; have a4 := L.a4; have z4 := L.z4; have v4 := L.v4; have t22 := L.t22; have a22 := L.a22; have z22 := L.z22; have v22 := L.v22; have a23 := L.a23; have z23 := L.z23
  obtain ⟨news, hnews⟩ : ∃ news, news = (d.toList.drop j).map (Value.int k) := ⟨_, rfl⟩
  have hlen : news.length = d.size - j := by rw [hnews]; simp
  have hget : ∀ t, t < d.size - j → news[t]? = some (.int k d[j + t]!) := by
    intro t ht
    rw [hnews, List.getElem?_map, List.getElem?_drop, Array.getElem?_toList, getElem!_pos d (j + t) (by omega), Array.getElem?_eq_getElem (by omega)]
    rfl
  obtain ⟨A, hA, hsrc⟩ : ∃ A : Addr, (if cap = j then some (⟨blk, off, none⟩ : Addr) else some ⟨blk, off + j, none⟩) = some A ∧ Hid (∀ t u, news[t]? = some u → w.drew.cell? (A.add t) = some u) := by
    by_cases h : cap = j
    · refine ⟨⟨blk, off, none⟩, by simp [h], fun t u hu => ?_⟩
      have h0 : news.length = 0 := by rw [hlen]; omega
      rw [List.length_eq_zero_iff.1 h0] at hu
      simp at hu
    · refine ⟨⟨blk, off + j, none⟩, by simp [h], fun t u hu => ?_⟩
      have ht : t < d.size - j := by
        have := (List.getElem?_eq_some_iff.1 hu).1
        rwa [hlen] at this
      rw [hget t ht] at hu
      rw [Addr.add_lit, show off + j + t = off + (j + t) by omega]
      exact (hH (j + t) (by omega)).1.trans hu
  have s1 : Hid (news.length = (d.size - j) * 1) := by rw [Nat.mul_one]; exact hlen
  have s2 : Hid (∀ u ∈ news, u.oneCell' = true) := by
    intro u hu
    rw [hnews] at hu
    obtain ⟨x, _, rfl⟩ := List.mem_map.1 hu
    rfl
  have s3 : Hid (∀ t, t < news.length → (w.drew.cell? ⟨blk, off + i * 1 + t, none⟩).isSome = true ∧ w.drew.frozen? ⟨blk, off + i * 1 + t, none⟩ = false) := by
    intro t ht
    rw [hlen] at ht
    rw [Nat.mul_one, Nat.add_assoc]
    exact ⟨by show (w.cell? _).isSome = true; rw [(hH (i + t) (by omega)).1]; rfl, (hH (i + t) (by omega)).2⟩
  obtain ⟨W1, hW1⟩ : ∃ W1, W1 = w.drew.setCells blk (off + i * 1) news := ⟨_, rfl⟩
  have hW1' : W1 = putRow (Value.int k) (Sort.ahead w 1) blk off (lay d i (d.toList.drop j)) := by
    rw [hW1, hnews, Nat.mul_one, ← putRow_setCells (Value.int k) (Sort.ahead w 1) blk off _ d i (by simp; omega), putRow_self (Value.int k) (Sort.ahead w 1) blk off d (holds_ahead (Value.int k) w 1 blk off d hH)]
    rfl
  have hH1 : Holds (Value.int k) W1 blk off (lay d i (d.toList.drop j)) := by rw [hW1']; exact holds_putRow (Value.int k) _ blk off d _ (holds_ahead (Value.int k) w 1 blk off d hH) (lay_size _ _ _)
  have hcl : ∀ ty, (Builtin.clear_ #[ρ.t 22] ty #[.slice (some ⟨blk, off + (i + (d.size - j)), none⟩) (d.size - (i + (d.size - j))) (cap - (i + (d.size - j)))]).run P W1 = .ok (.tuple #[]) (W1.setCells blk (off + (i + (d.size - j))) (List.replicate (d.size - (i + (d.size - j))) (.int k 0))) :=
    fun ty => Lib.run_clear_slice W1 _ _ ty _ t22 v23 rfl rfl blk (off + (i + (d.size - j))) _ _ (by omega) (fun t ht => by rw [show off + (i + (d.size - j)) + t = off + (i + (d.size - j) + t) by omega, (hH1 _ (by rw [lay_size]; omega)).1]; rfl) (fun t ht => by rw [show off + (i + (d.size - j)) + t = off + (i + (d.size - j) + t) by omega]; exact (hH1 _ (by rw [lay_size]; omega)).2)
  have X : Aside (W1 = putRow (Value.int k) (Sort.ahead w 1) blk off (lay d i (d.toList.drop j))) := hW1'
  have hW : Hid (W1 = w.drew.setCells blk (off + i * 1) news) := hW1
  have hic : i ≤ cap := by omega
  have hjc : j ≤ cap := by omega
  clear hW1 hW1' hH1 hH hget hnews hlen
  obtain ⟨_, _, FG⟩ := L.f45
  go_enter FG, SlBodyN.n45_ntmps ρ
  go_wp2_with fail
  go_region_law_o (refine step_append_room rfl (.tmp 22) (.tmp 25) (ρ.t 22) rfl (ρ.t 23) i0 1 t22 hi0 hz1 blk off i cap (by simp [Act.eval, Act.put]) A (d.size - j) (cap - j) news (by simp [Act.eval, Act.put]) s1.out hsrc.out s2.out (by omega) s3.out ?_; rw [← hW.out])
  go_wp2
  go_ret
  refine ⟨by rw [show d.size - (j - i) = i + (d.size - j) by omega]; rfl, 1, ?_⟩
  rw [← delete_arr d i j 0 (by omega) hj, ← putRow_setCells (Value.int k) _ blk off _ _ (i + (d.size - j)) (by rw [lay_size]; simp; omega), ← X.out, List.map_replicate, show d.size - (i + (d.size - j)) = j - i by omega]
end Go.Am
