/-
  Lemmas on the way to the statements of this seat. By an AI agent. No person has read it.
-/
import Derived.Test.YtamcfgdnhgmkpaaAm6
set_option linter.unusedSimpArgs false
set_option linter.unusedVariables false

namespace Go.Am
open Go
set_option linter.unusedVariables false
set_option linter.unusedSimpArgs false

/-- What a function that yields items comes to, and what its own blocks hold then. -/
def IterP (P : Program) (g : FuncId) (args : List AVal) (n : Nat) (item : Nat → List AVal) (len : Nat) (own : List Nat) (cont : Bool → Nat → Nat → Option ABlk) (H : AHeap) : Prop :=
  ∀ I, Fed P n item len I → ∀ fp, I true 0 fp H → (∀ m ∈ own, m ∉ fp) → FunOK P g args H fun av H' => ∃ b j fp', H.length ≤ H'.length ∧ (∀ m, m < H.length → m ∉ fp → m ∉ own → H'[m]? = H[m]?) ∧ (b = true → j = len) ∧ I b j fp' H' ∧ ∀ m ∈ own, H'[m]? = cont b j m

section
variable {P : Program} {c : Ctx} {k : List AItem} {r : Regs} {H : AHeap} {Q : AVal → AHeap → Prop}

theorem range_ofP {f : AOpd} {ps : List Nat} {as bd : ACode} {g : FuncId} {first captured : List AVal} (hf : geto r f = .fn g first captured) (hrd : ∀ n, c.rd = some n → ∃ L, H[n]? = some (.loop L))
    {item : Nat → List AVal} {len : Nat} (hitem : ∀ j, (item j).length = ps.length) (J : Nat → List Nat → AHeap → Prop) (S : AJump → Nat → List Nat → AHeap → Prop) (hJ : ∀ j, Foot (J j)) (hS : ∀ ap j, Foot (S ap j)) {fp0 : List Nat} (h0 : J 0 fp0 H)
    (hbody : ∀ as' bd' j fp H1, j < len → H.length ∉ fp → H.length < H1.length → H1[H.length]? = some (.loop (lrec c r ps as' bd' .ready none)) → J j fp H1 →
      Run P ⟨c.fn, c.nt, [], some H.length⟩ [.code as, .begin, .code bd] ((ps.zip (item j)).reverse ++ r) H1 (RoundQ c r ps as' bd' H.length J S j fp H1))
    (own : List Nat) (cont : Bool → Nat → Nat → Option ABlk) (hown : ∀ m ∈ own, m < H.length ∧ m ∉ fp0)
    (hiter : ∀ H1, H1.length = H.length + 1 → (∀ m, m < H.length → H1[m]? = H[m]?) → IterP P g (first ++ [.yld H.length] ++ captured) H.length item len own cont H1)
    (hend : ∀ fp H', H.length < H'.length → (∀ m, m < H.length → m ∉ fp0 → m ∉ own → H'[m]? = H[m]?) → (∀ m ∈ own, H'[m]? = cont true len m) → J len fp H' → Run P c k r H' Q)
    (hstop : ∀ ap j fp H', H.length < H'.length → (∀ m, m < H.length → m ∉ fp0 → m ∉ own → H'[m]? = H[m]?) → (∀ m ∈ own, H'[m]? = cont false j m) → S ap j fp H' → Run P c (jumpItems (some ap) ++ k) r H' Q) :
    Run P c (.code (.range f ps as bd) :: k) r H Q := by
  refine run_range hf hrd fun as' bd' hc1 hc2 hps => ?_
  have hn0 : H.length ∉ fp0 := fun h => Nat.lt_irrefl _ ((hJ 0).lt _ _ h0 _ h)
  -- what the iterating function knows
  let I : Bool → Nat → List Nat → AHeap → Prop := fun b j fp H' => ∃ fp1, fp = H.length :: fp1 ∧ H.length ∉ fp1 ∧ H.length < H'.length ∧
    ((b = true ∧ H'[H.length]? = some (.loop (lrec c r ps as' bd' .ready none)) ∧ J j fp1 H') ∨ (b = false ∧ ∃ ap, H'[H.length]? = some (.loop (lrec c r ps as' bd' .done (some ap))) ∧ S ap j fp1 H'))
  have hI : Fed P H.length item len I := {
    foot := fun b j => {
      lt := by
        rintro fp H' ⟨fp1, rfl, h1, h2, h3⟩ m hm
        rcases List.mem_cons.1 hm with rfl | hm
        · exact h2
        · rcases h3 with ⟨_, _, h3⟩ | ⟨_, ap, _, h3⟩
          · exact (hJ _).lt _ _ h3 m hm
          · exact (hS _ _).lt _ _ h3 m hm
      stable := by
        rintro fp H' H2 ⟨fp1, rfl, h1, h2, h3⟩ hle hk
        refine ⟨fp1, rfl, h1, Nat.lt_of_lt_of_le h2 hle, ?_⟩
        have hk0 := hk H.length (by simp)
        have hk1 : ∀ m ∈ fp1, H2[m]? = H'[m]? := fun m hm => hk m (by simp [hm])
        rcases h3 with ⟨hb, h4, h3⟩ | ⟨hb, ap, h4, h3⟩
        · exact .inl ⟨hb, hk0.trans h4, (hJ _).stable _ _ _ h3 hle hk1⟩
        · exact .inr ⟨hb, ap, hk0.trans h4, (hS _ _).stable _ _ _ h3 hle hk1⟩ }
    step := by
      rintro j fp H1 hj ⟨fp1, rfl, h1, h2, h3⟩
      rcases h3 with ⟨_, h4, h3⟩ | ⟨hb, _⟩
      rotate_left
      · cases hb
      refine ⟨_, h4, rfl, hitem j, as, bd, hc1, hc2, hps, ?_⟩
      refine (hbody as' bd' j fp1 H1 hj h1 h2 h4 h3).mono ?_
      rintro av H' ⟨fp', ht, hn', h⟩
      refine ⟨H.length :: fp', ht, ?_⟩
      have hlt : H.length < H'.length := Nat.lt_of_lt_of_le h2 ht.le
      rcases h with ⟨rfl, q1, q2⟩ | ⟨ap, rfl, q1, q2⟩
      · exact .inl ⟨rfl, fp', rfl, hn', hlt, .inl ⟨rfl, q1, q2⟩⟩
      · exact .inr ⟨rfl, fp', rfl, hn', hlt, .inr ⟨rfl, ap, q1, q2⟩⟩ }
  have hpush : ∀ m, m < H.length → (H ++ [ABlk.loop ⟨.ready, none, c.fn, c.nt, r, ps, as', bd'⟩])[m]? = H[m]? := fun m hm => List.getElem?_append_left hm
  have hI0 : I true 0 (H.length :: fp0) (H ++ [ABlk.loop ⟨.ready, none, c.fn, c.nt, r, ps, as', bd'⟩]) :=
    ⟨fp0, rfl, hn0, by simp, .inl ⟨rfl, by simp [lrec], (hJ 0).stable _ _ _ h0 (by simp) fun m hm => hpush m ((hJ 0).lt _ _ h0 m hm)⟩⟩
  refine (hiter _ (by simp) hpush I hI _ hI0 fun m hm => by
    obtain ⟨h1, h2⟩ := hown m hm
    simp only [List.mem_cons, not_or]
    exact ⟨by omega, h2⟩).mono ?_
  rintro av H' ⟨b, j, fp', q1, q2, q3, ⟨fp1, rfl, q4, q5, q6⟩, qc⟩
  have hc' : ∀ m ∈ own, (H'.set H.length ABlk.dead)[m]? = cont b j m := fun m hm => by
    rw [List.getElem?_set_ne (by have := (hown m hm).1; omega), qc m hm]
  have hkept : ∀ m, m < H.length → m ∉ fp0 → m ∉ own → (H'.set H.length ABlk.dead)[m]? = H[m]? := by
    intro m hm hmf hmo
    rw [List.getElem?_set_ne (by omega), q2 m (by simp; omega) (by simp [hmf]; omega) hmo, hpush m hm]
  have hset : ∀ m ∈ fp1, (H'.set H.length ABlk.dead)[m]? = H'[m]? := by
    intro m hm
    rw [List.getElem?_set_ne]
    intro he; subst he; exact q4 hm
  rcases q6 with ⟨hb, q7, q8⟩ | ⟨hb, ap, q7, q8⟩
  · refine ⟨_, q7, by simp [lrec], ?_⟩
    have := q3 hb
    subst this
    simpa [lrec, jumpItems] using hend fp1 _ (by simpa using q5) hkept (by rw [hb] at hc'; exact hc') ((hJ _).stable _ _ _ q8 (by simp) hset)
  · refine ⟨_, q7, by simp [lrec], ?_⟩
    simpa [lrec] using hstop ap j fp1 _ (by simpa using q5) hkept (by rw [hb] at hc'; exact hc') ((hS _ _).stable _ _ _ q8 (by simp) hset)



theorem range_varsP {f : AOpd} {ps : List Nat} {as bd : ACode} {g : FuncId} {first captured : List AVal} (hf : geto r f = .fn g first captured) (hrd : ∀ n, c.rd = some n → ∃ L, H[n]? = some (.loop L))
    {item : Nat → List AVal} {len : Nat} (hitem : ∀ j, (item j).length = ps.length) (vs : List VarN) (stop : Nat → Option AJump) (h0 : VarsN vs 0 H) (own : List Nat) (cont : Bool → Nat → Nat → Option ABlk) (hown : ∀ m ∈ own, m < H.length ∧ m ∉ vs.map (·.1))
    (hbody : ∀ as' bd' j H1, j < len → (∀ i, i < j → stop i = none) → H.length < H1.length → (∀ m, m < H.length → m ∉ vs.map (·.1) → m ∉ own → H1[m]? = H[m]?) → H1[H.length]? = some (.loop (lrec c r ps as' bd' .ready none)) → VarsN vs j H1 →
      Run P ⟨c.fn, c.nt, [], some H.length⟩ [.code as, .begin, .code bd] ((ps.zip (item j)).reverse ++ r) H1 (VarsNQ vs H.length (lrec c r ps as' bd') j (stop j) H1))
    (hiter : ∀ H1, H1.length = H.length + 1 → (∀ m, m < H.length → H1[m]? = H[m]?) → IterP P g (first ++ [.yld H.length] ++ captured) H.length item len own cont H1)
    (hend : ∀ H', H.length < H'.length → (∀ m, m < H.length → m ∉ vs.map (·.1) → m ∉ own → H'[m]? = H[m]?) → (∀ m ∈ own, H'[m]? = cont true len m) → (∀ i, i < len → stop i = none) → VarsN vs len H' → Run P c k r H' Q)
    (hstop : ∀ ap j H', H.length < H'.length → (∀ m, m < H.length → m ∉ vs.map (·.1) → m ∉ own → H'[m]? = H[m]?) → (∀ m ∈ own, H'[m]? = cont false (j + 1) m) → j < len → stop j = some ap → (∀ i, i < j → stop i = none) → VarsN vs (j + 1) H' → Run P c (jumpItems (some ap) ++ k) r H' Q) :
    Run P c (.code (.range f ps as bd) :: k) r H Q := by
  let other : List Nat := (List.range H.length).filter (fun m => !(vs.map (·.1)).contains m && !own.contains m)
  have hother : ∀ m, m ∈ other ↔ m < H.length ∧ m ∉ vs.map (·.1) ∧ m ∉ own := fun m => by
    simp only [other, List.mem_filter, List.mem_range, Bool.and_eq_true, Bool.not_eq_true', beq_eq_false_iff_ne, List.contains_eq_mem, decide_eq_false_iff_not, and_assoc]
  have hown2 : ∀ m ∈ own, m < H.length ∧ m ∉ vs.map (·.1) ++ other := fun m hm => by
    refine ⟨(hown m hm).1, fun hh => ?_⟩
    rcases List.mem_append.1 hh with hh | hh
    · exact (hown m hm).2 hh
    · exact ((hother m).1 hh).2.2 hm
  let G : Nat → List Nat → AHeap → Prop := fun j fp H' => fp = vs.map (·.1) ++ other ∧ VarsN vs j H' ∧ (∀ m ∈ other, H'[m]? = H[m]?) ∧ H.length ≤ H'.length
  have hlt : ∀ m ∈ vs.map (·.1), m < H.length := fun m hm => by
    obtain ⟨v, hv, rfl⟩ := List.mem_map.1 hm
    exact (List.getElem?_eq_some_iff.1 (h0 v hv)).1
  have hG : ∀ j, Foot (G j) := fun j => {
    lt := by
      rintro fp H' ⟨rfl, h1, h3, h4⟩ m hm
      rcases List.mem_append.1 hm with hm | hm
      · exact Nat.lt_of_lt_of_le (hlt m hm) h4
      · exact Nat.lt_of_lt_of_le ((hother m).1 hm).1 h4
    stable := by
      rintro fp H' H2 ⟨rfl, h1, h3, h4⟩ hle hk
      exact ⟨rfl, fun v hv => (hk v.1 (by simp; exact .inl ⟨_, _, hv⟩)).trans (h1 v hv), fun m hm => (hk m (by simp [hm])).trans (h3 m hm), Nat.le_trans h4 hle⟩ }
  refine range_ofP hf hrd hitem (fun j fp H' => G j fp H' ∧ ∀ i, i < j → stop i = none) (fun ap j fp H' => G j fp H' ∧ ∃ i, j = i + 1 ∧ i < len ∧ stop i = some ap ∧ ∀ i', i' < i → stop i' = none)
    (fun j => ⟨fun fp H' h => (hG j).lt fp H' h.1, fun fp H' H2 h hle hk => ⟨(hG j).stable fp H' H2 h.1 hle hk, h.2⟩⟩)
    (fun ap j => ⟨fun fp H' h => (hG j).lt fp H' h.1, fun fp H' H2 h hle hk => ⟨(hG j).stable fp H' H2 h.1 hle hk, h.2⟩⟩)
    (fp0 := vs.map (·.1) ++ other) ⟨⟨rfl, h0, fun _ _ => rfl, Nat.le_refl _⟩, fun i hi => by omega⟩ ?_ own cont hown2 hiter ?_ ?_
  · rintro as' bd' j fp H1 hj hn hl hrec ⟨⟨rfl, hv, ho, hle⟩, hst⟩
    have hkm : ∀ m, m < H.length → m ∉ vs.map (·.1) → m ∉ own → H1[m]? = H[m]? := fun m a b e => ho m ((hother m).2 ⟨a, b, e⟩)
    refine (hbody as' bd' j H1 hj hst hl hkm hrec hv).mono ?_
    rintro av H' ⟨q1, q2, q3, rfl, q6⟩
    have ho' : ∀ m ∈ other, H'[m]? = H[m]? := fun m hm => by
      obtain ⟨h1, h2, _⟩ := (hother m).1 hm
      rw [q2 m (by omega) (by omega) h2, ho m hm]
    have hg : G (j + 1) (vs.map (·.1) ++ other) H' := ⟨rfl, q3, ho', by omega⟩
    refine ⟨_, ⟨q1, fun m hm => .inl hm, fun m hm hf => ?_⟩, hn, ?_⟩
    · simp only [List.mem_append, List.mem_cons, not_or] at hf
      exact q2 m hm hf.1 hf.2.1
    · cases hs : stop j with
      | none =>
        rw [hs] at q6
        refine .inl ⟨rfl, q6, hg, fun i hi => ?_⟩
        by_cases hij : i < j
        · exact hst i hij
        · have : i = j := by omega
          subst this; exact hs
      | some ap =>
        rw [hs] at q6
        exact .inr ⟨ap, rfl, q6, hg, j, rfl, hj, hs, hst⟩
  · rintro fp H' hl hk hc ⟨⟨rfl, hv, ho, hle⟩, hst⟩
    exact hend H' hl (fun m a b e => ho m ((hother m).2 ⟨a, b, e⟩)) hc hst hv
  · rintro ap j fp H' hl hk hc ⟨⟨rfl, hv, ho, hle⟩, i, rfl, hi, hs, hst⟩
    exact hstop ap i H' hl (fun m a b e => ho m ((hother m).2 ⟨a, b, e⟩)) hc hi hs hst hv

end
end Go.Am

namespace Go.Am
open Go
set_option linter.unusedVariables false
set_option linter.unusedSimpArgs false

/-- What a loop's body does with items that are told by the heap; their blocks may be taken. -/
structure FedX (P : Program) (n : Nat) (item : Nat → List AVal → List Nat → AHeap → Prop) (len : Nat) (I : Bool → Nat → List Nat → AHeap → Prop) : Prop where
  foot : ∀ b j, Foot (I b j)
  step : ∀ j fp H args gv, j < len → I true j fp H → item j args gv H → (∀ m ∈ gv, m ∉ fp ∧ m < H.length) → CallV P (.yld n) args H fun av H' => ∃ fp', Touches (fp ++ gv) H fp' H' ∧ ((av = .bool true ∧ I true (j + 1) fp' H') ∨ (av = .bool false ∧ I false (j + 1) fp' H'))
def IterX (P : Program) (g : FuncId) (args : List AVal) (n : Nat) (item : Nat → List AVal → List Nat → AHeap → Prop) (len : Nat) (own : List Nat) (H : AHeap) : Prop :=
  ∀ I, FedX P n item len I → ∀ fp, I true 0 fp H → (∀ m ∈ own, m ∉ fp) → FunOK P g args H fun av H' => ∃ b j fp', H.length ≤ H'.length ∧ (∀ m, m < H.length → m ∉ fp → H'[m]? = H[m]?) ∧ (b = true → j = len) ∧ I b j fp' H'

section
variable {P : Program} {c : Ctx} {k : List AItem} {r : Regs} {H : AHeap} {Q : AVal → AHeap → Prop}

theorem range_ofX {f : AOpd} {ps : List Nat} {as bd : ACode} {g : FuncId} {first captured : List AVal} (hf : geto r f = .fn g first captured) (hrd : ∀ n, c.rd = some n → ∃ L, H[n]? = some (.loop L))
    {item : Nat → List AVal → List Nat → AHeap → Prop} {len : Nat} (hitem : ∀ j args gv H, item j args gv H → args.length = ps.length) (J : Nat → List Nat → AHeap → Prop) (S : AJump → Nat → List Nat → AHeap → Prop) (hJ : ∀ j, Foot (J j)) (hS : ∀ ap j, Foot (S ap j)) {fp0 : List Nat} (h0 : J 0 fp0 H)
    (hbody : ∀ as' bd' j fp H1 args gv, j < len → H.length ∉ fp → H.length < H1.length → H1[H.length]? = some (.loop (lrec c r ps as' bd' .ready none)) → J j fp H1 → item j args gv H1 → (∀ m ∈ gv, m ∉ fp ∧ m ≠ H.length ∧ m < H1.length) →
      Run P ⟨c.fn, c.nt, [], some H.length⟩ [.code as, .begin, .code bd] ((ps.zip args).reverse ++ r) H1 (RoundQ c r ps as' bd' H.length J S j (fp ++ gv) H1))
    (own : List Nat) (hown : ∀ m ∈ own, m < H.length ∧ m ∉ fp0)
    (hiter : ∀ H1, H1.length = H.length + 1 → (∀ m, m < H.length → H1[m]? = H[m]?) → IterX P g (first ++ [.yld H.length] ++ captured) H.length item len own H1)
    (hend : ∀ fp H', H.length < H'.length → (∀ m, m < H.length → m ∉ fp0 → H'[m]? = H[m]?) → J len fp H' → Run P c k r H' Q)
    (hstop : ∀ ap j fp H', H.length < H'.length → (∀ m, m < H.length → m ∉ fp0 → H'[m]? = H[m]?) → S ap j fp H' → Run P c (jumpItems (some ap) ++ k) r H' Q) :
    Run P c (.code (.range f ps as bd) :: k) r H Q := by
  refine run_range hf hrd fun as' bd' hc1 hc2 hps => ?_
  have hn0 : H.length ∉ fp0 := fun h => Nat.lt_irrefl _ ((hJ 0).lt _ _ h0 _ h)
  -- what the iterating function knows
  let I : Bool → Nat → List Nat → AHeap → Prop := fun b j fp H' => ∃ fp1, fp = H.length :: fp1 ∧ H.length ∉ fp1 ∧ H.length < H'.length ∧
    ((b = true ∧ H'[H.length]? = some (.loop (lrec c r ps as' bd' .ready none)) ∧ J j fp1 H') ∨ (b = false ∧ ∃ ap, H'[H.length]? = some (.loop (lrec c r ps as' bd' .done (some ap))) ∧ S ap j fp1 H'))
  have hI : FedX P H.length item len I := {
    foot := fun b j => {
      lt := by
        rintro fp H' ⟨fp1, rfl, h1, h2, h3⟩ m hm
        rcases List.mem_cons.1 hm with rfl | hm
        · exact h2
        · rcases h3 with ⟨_, _, h3⟩ | ⟨_, ap, _, h3⟩
          · exact (hJ _).lt _ _ h3 m hm
          · exact (hS _ _).lt _ _ h3 m hm
      stable := by
        rintro fp H' H2 ⟨fp1, rfl, h1, h2, h3⟩ hle hk
        refine ⟨fp1, rfl, h1, Nat.lt_of_lt_of_le h2 hle, ?_⟩
        have hk0 := hk H.length (by simp)
        have hk1 : ∀ m ∈ fp1, H2[m]? = H'[m]? := fun m hm => hk m (by simp [hm])
        rcases h3 with ⟨hb, h4, h3⟩ | ⟨hb, ap, h4, h3⟩
        · exact .inl ⟨hb, hk0.trans h4, (hJ _).stable _ _ _ h3 hle hk1⟩
        · exact .inr ⟨hb, ap, hk0.trans h4, (hS _ _).stable _ _ _ h3 hle hk1⟩ }
    step := by
      rintro j fp H1 args gv hj ⟨fp1, rfl, h1, h2, h3⟩ hit hgv
      rcases h3 with ⟨_, h4, h3⟩ | ⟨hb, _⟩
      rotate_left
      · cases hb
      refine ⟨_, h4, rfl, hitem j args gv H1 hit, as, bd, hc1, hc2, hps, ?_⟩
      refine (hbody as' bd' j fp1 H1 args gv hj h1 h2 h4 h3 hit fun m hm => by
        obtain ⟨g1, g2⟩ := hgv m hm
        simp only [List.mem_cons, not_or] at g1
        exact ⟨g1.2, g1.1, g2⟩).mono ?_
      rintro av H' ⟨fp', ht, hn', h⟩
      refine ⟨H.length :: fp', ht, ?_⟩
      have hlt : H.length < H'.length := Nat.lt_of_lt_of_le h2 ht.le
      rcases h with ⟨rfl, q1, q2⟩ | ⟨ap, rfl, q1, q2⟩
      · exact .inl ⟨rfl, fp', rfl, hn', hlt, .inl ⟨rfl, q1, q2⟩⟩
      · exact .inr ⟨rfl, fp', rfl, hn', hlt, .inr ⟨rfl, ap, q1, q2⟩⟩ }
  have hpush : ∀ m, m < H.length → (H ++ [ABlk.loop ⟨.ready, none, c.fn, c.nt, r, ps, as', bd'⟩])[m]? = H[m]? := fun m hm => List.getElem?_append_left hm
  have hI0 : I true 0 (H.length :: fp0) (H ++ [ABlk.loop ⟨.ready, none, c.fn, c.nt, r, ps, as', bd'⟩]) :=
    ⟨fp0, rfl, hn0, by simp, .inl ⟨rfl, by simp [lrec], (hJ 0).stable _ _ _ h0 (by simp) fun m hm => hpush m ((hJ 0).lt _ _ h0 m hm)⟩⟩
  refine (hiter _ (by simp) hpush I hI _ hI0 fun m hm => by
    obtain ⟨h1, h2⟩ := hown m hm
    simp only [List.mem_cons, not_or]
    exact ⟨by omega, h2⟩).mono ?_
  rintro av H' ⟨b, j, fp', q1, q2, q3, ⟨fp1, rfl, q4, q5, q6⟩⟩
  have hkept : ∀ m, m < H.length → m ∉ fp0 → (H'.set H.length ABlk.dead)[m]? = H[m]? := by
    intro m hm hmf
    rw [List.getElem?_set_ne (by omega), q2 m (by simp; omega) (by simp [hmf]; omega), hpush m hm]
  have hset : ∀ m ∈ fp1, (H'.set H.length ABlk.dead)[m]? = H'[m]? := by
    intro m hm
    rw [List.getElem?_set_ne]
    intro he; subst he; exact q4 hm
  rcases q6 with ⟨hb, q7, q8⟩ | ⟨hb, ap, q7, q8⟩
  · refine ⟨_, q7, by simp [lrec], ?_⟩
    have := q3 hb
    subst this
    simpa [lrec, jumpItems] using hend fp1 _ (by simpa using q5) hkept ((hJ _).stable _ _ _ q8 (by simp) hset)
  · refine ⟨_, q7, by simp [lrec], ?_⟩
    simpa [lrec] using hstop ap j fp1 _ (by simpa using q5) hkept ((hS _ _).stable _ _ _ q8 (by simp) hset)
end
section
variable {P : Program} {n : Nat} {len : Nat} {I : Bool → Nat → List Nat → AHeap → Prop}
theorem relayJ_footX (hI : ∀ b j, Foot (I b j)) (ks : List Nat) (H0 : AHeap) (cnt : Nat → Nat) (j : Nat) : Foot (relayJ I ks H0 cnt j) where
  lt := by
    rintro fp H ⟨fpI, rfl, h1, h2, h3⟩ m hm
    rcases List.mem_append.1 hm with hm | hm
    · exact Nat.lt_of_lt_of_le (h1 m hm).2.1 h2
    · exact (hI true _).lt _ _ h3 m hm
  stable := by
    rintro fp H H' ⟨fpI, rfl, h1, h2, h3⟩ hle hk
    exact ⟨fpI, rfl, fun m hm => ⟨(h1 m hm).1, (h1 m hm).2.1, (hk m (by simp [hm])).trans (h1 m hm).2.2⟩, Nat.le_trans h2 hle, (hI true _).stable _ _ _ h3 hle fun m hm => hk m (by simp [hm])⟩
theorem relayS_footX (hI : ∀ b j, Foot (I b j)) (ks : List Nat) (H0 : AHeap) (e ap : AJump) (j : Nat) : Foot (relayS I ks H0 e ap j) where
  lt := by
    rintro fp H ⟨_, k, fpI, rfl, h1, h2, h3⟩ m hm
    rcases List.mem_append.1 hm with hm | hm
    · exact Nat.lt_of_lt_of_le (h1 m hm).2.1 h2
    · exact (hI false _).lt _ _ h3 m hm
  stable := by
    rintro fp H H' ⟨e1, k, fpI, rfl, h1, h2, h3⟩ hle hk
    exact ⟨e1, k, fpI, rfl, fun m hm => ⟨(h1 m hm).1, (h1 m hm).2.1, (hk m (by simp [hm])).trans (h1 m hm).2.2⟩, Nat.le_trans h2 hle, (hI false _).stable _ _ _ h3 hle fun m hm => hk m (by simp [hm])⟩


variable {item : Nat → List AVal → List Nat → AHeap → Prop}
theorem relay_stepX (hI : FedX P n item len I) {ks : List Nat} {H0 H1 H2 : AHeap} {args : List AVal} {gv : List Nat} {l j : Nat} {b : ABlk} {fpI : List Nat} (hj : j < len) (hl : l < H1.length) (hl0 : H0.length ≤ l) (hln : l ∉ fpI) (hk : ∀ m ∈ ks, m ∉ fpI ∧ m < H0.length ∧ H1[m]? = H0[m]?) (hi : I true j fpI H1) (hK : Keeps (H1.set l b) H2) (hit : item j args gv H2) (hgv : ∀ m ∈ gv, H1.length ≤ m ∧ m < H2.length) :
    CallV P (.yld n) args H2 fun av H' => ∃ fp', Relayed ks H0 H1 l b fpI fp' H' I ∧ ((av = .bool true ∧ I true (j + 1) fp' H') ∨ (av = .bool false ∧ I false (j + 1) fp' H')) := by
  have hKl := hK.1
  rw [List.length_set] at hKl
  have hi2 : I true j fpI H2 := (hI.foot true j).stable _ _ _ hi hKl fun m hm => by
    have h1 := (hI.foot true j).lt _ _ hi m hm
    rw [hK.2 m (by simp; omega), List.getElem?_set_ne (by rintro rfl; exact hln hm)]
  refine CallV.mono (hI.step j fpI _ args gv hj hi2 hit fun m hm => ⟨fun hh => by have := (hI.foot true j).lt _ _ hi m hh; have := (hgv m hm).1; omega, (hgv m hm).2⟩) fun av H' hh => ?_
  obtain ⟨fp', ht, hh⟩ := hh
  have hle := ht.le
  have hgn : ∀ m, m < H1.length → m ∉ fpI → m ∉ fpI ++ gv := fun m h1 h2 hm => by
    rcases List.mem_append.1 hm with hm | hm
    · exact h2 hm
    · have := (hgv m hm).1; omega
  have hq : ∀ m, m < H1.length → m ≠ l → m ∉ fpI → H'[m]? = H1[m]? := fun m h1 h2 h3 => by
    rw [ht.kept m (by omega) (hgn m h1 h3), hK.2 m (by simp; omega), List.getElem?_set_ne (fun e => h2 e.symm)]
  have hnew : ∀ m, m ∈ fp' → m ∈ fpI ∨ H1.length ≤ m := fun m hm => by
    rcases ht.feet m hm with h | h
    · rcases List.mem_append.1 h with h | h
      · exact .inl h
      · exact .inr (hgv m h).1
    · exact .inr (by omega)
  have hln' : l ∉ fp' := fun hm => by
    rcases hnew _ hm with h | h
    · exact hln h
    · omega
  refine ⟨fp', ⟨?_, hln', fun m hm => ?_, by omega, by omega, fun b' => ⟨by simp; omega, fun m hm => ?_, fun m hm hf => ?_⟩, fun b' x k hx => ?_⟩, hh⟩
  · rw [ht.kept l (by omega) (hgn l hl hln), hK.2 l (by simp; omega), List.getElem?_set_self hl]
  · obtain ⟨a1, a2, a3⟩ := hk m hm
    refine ⟨fun h => ?_, a2, (hq m (by omega) (by omega) a1).trans a3⟩
    rcases hnew _ h with h | h
    · exact a1 h
    · omega
  · simp only [List.mem_cons, List.mem_append] at hm ⊢
    rcases hm with rfl | hm | hm
    · exact .inl (.inl rfl)
    · exact .inl (.inr (.inl hm))
    · rcases hnew _ hm with h | h
      · exact .inl (.inr (.inr h))
      · exact .inr h
  · simp only [List.mem_cons, List.mem_append, not_or] at hf
    rw [List.getElem?_set_ne (fun e => hf.1 e.symm)]
    exact hq m hm hf.1 hf.2.2
  · exact (hI.foot x k).stable _ _ _ hx (by simp) fun m hm => by rw [List.getElem?_set_ne (by rintro rfl; exact hln' hm)]
end
end Go.Am
