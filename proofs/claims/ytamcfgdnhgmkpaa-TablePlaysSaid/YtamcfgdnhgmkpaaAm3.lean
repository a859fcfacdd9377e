/-
  Regions, rounds, calls and the order of evaluation in that machine; a proof about it is one about the model. By an AI agent. No person has read it.
-/
import Derived.Test.YtamcfgdnhgmkpaaAm2
import Derived.Defers
import Derived.RangeFuncIn
import Derived.Orders
set_option linter.unusedSimpArgs false
set_option linter.unusedVariables false

namespace Go.Am
open Go
set_option linter.unusedVariables false

/-! ### Code -/

structure AOper where
  dst : Option Nat
  op : AOp
  guard : Option (Nat × Bool)

inductive ACode where
  | skip
  | ret
  | region (ops : List AOper) (live : List Nat)
  | draw (ops : List AOper) (bef : List (List Nat)) (scheds : List (List Nat)) (chk : List (Nat × Nat)) (live : List Nat)
  | seq (a b : ACode)
  | cond (c : AOpd) (x y : ACode)
  | block (id : Nat) (b : ACode)
  | loop (b : ACode)
  | exit (id : Nat)
  | scope (b : ACode)
  | range (f : AOpd) (params : List Nat) (assign body : ACode)

inductive AItem where
  | code (c : ACode)
  | inBlock (id : Nat)
  | inLoop (c : ACode)
  | inScope
  | begin

def okOper (P : Program) (nt : Nat) (ops : Array Oper) (o : Oper) (a : AOper) : Bool :=
  decide (o.dst = a.dst) && (match a.dst with | some d => decide (d < nt) | none => true) &&
  (match o.guard, a.guard with
    | none, none => true
    | some (j, w), some (t, w') => w == w' && decide ((ops[j]?).bind (·.dst) = some t) && decide (t < nt)
    | _, _ => false) &&
  (match o.op, a.op with
    | .call c, .call f args => (match c.callee with
      | .value x => cOpd x f && cOpds c.args.toList args
      | _ => false)
    | op, ao => okOp P op ao)

def okOps (P : Program) (nt : Nat) (ops : Array Oper) : List Oper → List AOper → Bool
  | [], [] => true
  | o :: os, a :: as => okOper P nt ops o a && okOps P nt ops os as
  | _, _ => false

def befOf (ops : Array Oper) : List (List Nat) := (Region.before ops).toList.map fun m => (List.range ops.size).filter fun i => m.testBit i

/-! ### What an operation looks at, and what it does -/

def AOp.opds : AOp → List AOpd
  | .mov x | .box _ x | .load _ x | .un _ x | .conv _ x | .nilc x | .field _ x | .toArr _ x | .len _ x | .extract x _ | .s2b x | .b2s x | .mark x => [x]
  | .pick a b c => [a, b, c]
  | .alloc .. | .mkmap => []
  | .build _ ps | .lit _ _ _ _ ps => ps.map fun q => q.2.2
  | .store _ a v => [a, v]
  | .bin _ x y | .eq _ _ x y | .idx _ _ x y | .sidx x y | .maxmin _ x y | .append _ _ _ x y | .mkslice _ _ _ _ x y | .lookup _ _ _ x y => [x, y]
  | .slice _ _ x a b c => x :: (a.toList ++ b.toList ++ c.toList)
  | .mkfn _ a b => a ++ b
  | .minN xs => xs
  | .mapset _ a b c => [a, b, c]
  | .mapdel _ a b => [a, b]
  | .call f args => f :: args

def opdSlot : AOpd → List Nat
  | .tmp t => [t]
  | .const _ => []

def AOper.uses (o : AOper) : List Nat := o.op.opds.flatMap opdSlot ++ (match o.guard with | some (t, _) => [t] | none => [])

def isEff : AOp → Bool
  | .store .. | .call .. | .append .. | .mapset .. | .mapdel .. | .alloc .. | .box .. | .lit .. | .mkmap | .mkslice .. | .mark .. => true
  | _ => false

def isPure : AOp → Bool
  | .mov _ | .pick .. | .build .. | .bin .. | .eq .. | .un .. | .conv .. | .nilc _ | .field .. | .sidx .. | .maxmin .. | .extract .. | .mkfn .. | .s2b _ | .minN _ => true
  | .len k _ => match k with | .map => false | _ => true
  | .slice _ k _ _ _ _ => match k with | .array _ => false | _ => true
  | .idx _ arr _ _ => arr.isSome
  | _ => false

/-! ### Regions that draw their order -/

def effAt (as : List AOper) (i : Nat) : Bool := ((as[i]?).map fun o => isEff o.op).getD false
def pureAt (as : List AOper) (i : Nat) : Bool := ((as[i]?).map fun o => isPure o.op).getD false
def dstAt (as : List AOper) (i : Nat) : Option Nat := (as[i]?).bind (·.dst)
def usesAt (as : List AOper) (i : Nat) : List Nat := ((as[i]?).map AOper.uses).getD []
def befAt (bef : List (List Nat)) (i : Nat) : List Nat := bef.getD i []

/-- The orders in which the effects may come. -/
def effOrders (bef : List (List Nat)) : Nat → List Nat → List (List Nat)
  | 0, _ => [[]]
  | n + 1, rem => if rem = [] then [[]] else
    (rem.filter fun e => rem.all fun e' => !(befAt bef e).contains e').flatMap fun e => (effOrders bef n (rem.filter (· != e))).map (e :: ·)

/-- A list that all the rest respects. -/
def okSched (as : List AOper) (bef : List (List Nat)) : List Nat → List Nat → Bool
  | done, [] => (List.range as.length).all done.contains
  | done, i :: is => decide (i < as.length) && !done.contains i && (befAt bef i).all done.contains && (effAt as i || (match done.find? (effAt as) with | none => true | some e => (befAt bef i).contains e)) && okSched as bef (i :: done) is

def okDraw (ops : Array Oper) (as : List AOper) (bef : List (List Nat)) (scheds : List (List Nat)) (chk : List (Nat × Nat)) : Bool :=
  let n := as.length
  decide (ops.size = n) &&
  (List.range n).all (fun i => match ops[i]? with
    | some o => o.after.all (fun e => !Region.binds .any e || decide (e.on < i)) &&
      (befAt bef i).all (fun j => decide (j < i) && o.after.any fun e => Region.binds .any e && (e.on == j || (befAt bef e.on).contains j))
    | none => false) &&
  (List.range n).all (fun i => (List.range n).all fun j => i == j || (match dstAt as j with
    | none => true
    | some d => dstAt as i != some d && (!(usesAt as i).contains d || (befAt bef i).contains j || (befAt bef j).contains i))) &&
  scheds.all (okSched as bef []) &&
  (let effs := (List.range n).filter (effAt as)
   (effOrders bef n effs).all fun o => scheds.any fun s => s.filter (effAt as) == o) &&
  (List.range n).all (fun e => !effAt as e || (List.range n).all fun j => effAt as j || pureAt as j || (befAt bef e).contains j || (befAt bef j).contains e || chk.contains (e, j))

def okCode (P : Program) (nt : Nat) : Code → ACode → Bool
  | .skip, .skip => true
  | .label _, .skip => true
  | .ret, .ret => true
  | .region _ ops false, .region as _ => okOps P nt ops ops.toList as
  | .region _ ops true, .draw as bef scheds chk _ => P.follows .mixedOrders && okOps P nt ops ops.toList as && okDraw ops as bef scheds chk
  | .seq a b, .seq a' b' => okCode P nt a a' && okCode P nt b b'
  | .cond c x y, .cond c' x' y' => cOpd c c' && okCode P nt x x' && okCode P nt y y'
  | .block id b, .block id' b' => id == id' && okCode P nt b b'
  | .loop b, .loop b' => okCode P nt b b'
  | .exit id, .exit id' => id == id'
  | .scope b, .scope b' => okCode P nt b b'
  | .rangeFunc f ps as bd, .range f' ps' as' bd' => cOpd f f' && decide (ps.toList = ps') && ps'.all (fun p => decide (p < nt)) && okCode P nt as as' && okCode P nt bd bd'
  | _, _ => false

def LowK (P : Program) (nt : Nat) : List Item → List AItem → Prop
  | [], [] => True
  | .code c :: k, .code a :: k' => okCode P nt c a = true ∧ LowK P nt k k'
  | .inBlock i :: k, .inBlock j :: k' => i = j ∧ LowK P nt k k'
  | .inLoop c :: k, .inLoop a :: k' => okCode P nt c a = true ∧ LowK P nt k k'
  | .inScope _ :: k, .inScope :: k' => LowK P nt k k'
  | .beginRound :: k, .begin :: k' => LowK P nt k k'
  | _, _ => False

def aexitTo (id : Nat) : List AItem → Option (List AItem)
  | .inBlock id' :: k => if id' = id then some k else aexitTo id k
  | _ :: k => aexitTo id k
  | [] => none

theorem exit_some {P : Program} {nt : Nat} {id : Nat} : ∀ {k : List Item} {k' : List AItem} {r' : List AItem}, LowK P nt k k' → aexitTo id k' = some r' → ∃ r, exitTo id k = some r ∧ LowK P nt r r'
  | [], [], r', _, h => by simp [aexitTo] at h
  | [], _ :: _, r', hl, h => by simp [LowK] at hl
  | _ :: _, [], r', hl, h => by simp [aexitTo] at h
  | x :: k, y :: k', r', hl, h => by
    cases x <;> cases y <;> simp only [LowK] at hl <;> first | (exact hl.elim) | skip
    · simp only [aexitTo, exitTo] at h ⊢; exact exit_some hl.2 h
    · obtain ⟨rfl, hl⟩ := hl
      simp only [aexitTo, exitTo] at h ⊢
      split at h
      · rename_i he; cases h; subst he; exact ⟨k, by simp, hl⟩
      · rename_i he
        obtain ⟨r, h1, h2⟩ := exit_some hl h
        exact ⟨r, by rw [if_neg (by simpa using he)]; exact h1, h2⟩
    · simp only [aexitTo, exitTo] at h ⊢; exact exit_some hl.2 h
    · simp only [aexitTo, exitTo] at h ⊢; exact exit_some hl h
    · simp only [aexitTo, exitTo] at h ⊢; exact exit_some hl h

theorem exit_none {P : Program} {nt : Nat} {id : Nat} : ∀ {k : List Item} {k' : List AItem}, LowK P nt k k' → aexitTo id k' = none → exitTo id k = none
  | [], _, _, _ => rfl
  | _ :: _, [], hl, h => by simp [LowK] at hl
  | x :: k, y :: k', hl, h => by
    cases x <;> cases y <;> simp only [LowK] at hl <;> first | (exact hl.elim) | skip
    · simp only [aexitTo, exitTo] at h ⊢; exact exit_none hl.2 h
    · obtain ⟨rfl, hl⟩ := hl
      simp only [aexitTo, exitTo] at h ⊢
      split at h
      · cases h
      · rename_i he
        rw [if_neg (by simpa using he)]; exact exit_none hl h
    · simp only [aexitTo, exitTo] at h ⊢; exact exit_none hl.2 h
    · simp only [aexitTo, exitTo] at h ⊢; exact exit_none hl h
    · simp only [aexitTo, exitTo] at h ⊢; exact exit_none hl h

/-! ### Runs -/

inductive ARes where
  | tmp (t : Nat)
  | cell (t : Nat) (agg : Option Nat)

structure Ctx where
  fn : FuncId
  nt : Nat
  res : List ARes
  rd : Option Nat

def okRes (P : Program) : List ResultVar → List ARes → Bool
  | [], [] => true
  | .tmp t :: rs, .tmp u :: as => t == u && okRes P rs as
  | .cell t ty :: rs, .cell u agg :: as => t == u && (match P.underlying ty, P.info? ty with
    | some _, some i => (if aggT P ty then decide (agg = some i.size) && decide (0 < i.size) else decide (agg = none))
    | _, _ => false) && okRes P rs as
  | _, _ => false

/-- The function of the context has just these results. -/
def CtxOk (P : Program) (c : Ctx) : Prop := c.rd = none → ∃ fn, P.funcs[c.fn]? = some fn ∧ okRes P fn.results.toList c.res = true

def marks (D : List Nat) : List Deferred := D.map fun d => { target := .collected d, args := #[] }

structure DRel (B : Nat) (ρ : Nat → Option Nat) (H : AHeap) (w : World) (D : List Nat) : Prop where
  nodup : D.Nodup
  is : ∀ d ∈ D, B ≤ d ∧ w.heap[d]? = some (.deferred (some [])) ∧ ¬ (nm ρ H w).Owned d

def RdRel (e : Nm) (rd : Option Nat) (b : Frame) (cs : List Frame) (D : List Nat) : Prop :=
  match rd with
  | none => b.roundOf = none
  | some n => ∃ l, b.roundOf = some l ∧ VRel e (.yld n) (.func (.yield l) #[] #[]) ∧ cs ≠ [] ∧ D = []

def Ends (P : Program) (c : Ctx) (cs : List Frame) (v : Value) (w' : World) (m' : Machine) : Prop :=
  match c.rd with
  | none => ∃ fr, m' = lone fr cs w' ∧ fr.fn = c.fn ∧ fr.leaving P w' (.returned v)
  | some _ => ∃ c0 cs', cs = c0 :: cs' ∧ m' = lone (c0.finish v) cs' w'

/-- From the machine m on, by which the abstract state is met. -/
def Goal (P : Program) (c : Ctx) (Q : AVal → AHeap → Prop) (B : Nat) (ρ : Nat → Option Nat) (H : AHeap) (w : World) (cs : List Frame) (m : Machine) : Prop :=
  ∃ av H' ρ' v w' m', Q av H' ∧ Steps P m m' ∧ Ends P c cs v w' m' ∧ VRel (nm ρ' H' w') av v ∧ HRel (nm ρ' H' w') ∧ Pres B ρ H w ρ' H' w'

structure Real (P : Program) (c : Ctx) (r : Regs) (H : AHeap) (B : Nat) (ρ : Nat → Option Nat) (w : World) (tmps : Array Value) (D : List Nat) (b : Frame) (cs : List Frame) : Prop where
  le : B ≤ w.heap.size
  nt : tmps.size = c.nt
  regs : RRel (nm ρ H w) r tmps
  heap : HRel (nm ρ H w)
  dfr : DRel B ρ H w D
  rd : RdRel (nm ρ H w) c.rd b cs D
  fn : b.fn = c.fn
  kind : b.kind = .normal
  ctx : CtxOk P c

def Run (P : Program) (c : Ctx) (todo : List AItem) (r : Regs) (H : AHeap) (Q : AVal → AHeap → Prop) : Prop :=
  ∀ B ρ w tmps D b cs k, Real P c r H B ρ w tmps D b cs → LowK P c.nt k todo → Goal P c Q B ρ H w cs (lone (b.atR ⟨tmps, marks D⟩ k) cs w)

def OpsRel (P : Program) (nt : Nat) (ops : Array Oper) : List Nat → List AOper → Prop
  | [], [] => True
  | i :: is, a :: as => (∃ o, ops[i]? = some o ∧ okOper P nt ops o a = true) ∧ OpsRel P nt ops is as
  | _, _ => False

def RunO (P : Program) (c : Ctx) (as : List AOper) (todo : List AItem) (r : Regs) (H : AHeap) (Q : AVal → AHeap → Prop) : Prop :=
  ∀ B ρ w tmps D b cs k ops is, Real P c r H B ρ w tmps D b cs → LowK P c.nt k todo → OpsRel P c.nt ops is as →
    Goal P c Q B ρ H w cs (lone (b.atR ⟨tmps, marks D⟩ (.inRegion ops is :: k)) cs w)

theorem Goal.steps {P : Program} {c : Ctx} {Q : AVal → AHeap → Prop} {B : Nat} {ρ ρ' : Nat → Option Nat} {H H' : AHeap} {w w' : World} {cs : List Frame} {m m' : Machine}
    (h : Goal P c Q B ρ' H' w' cs m') (hs : Steps P m m') (hp : Pres B ρ H w ρ' H' w') : Goal P c Q B ρ H w cs m := by
  obtain ⟨av, H2, ρ2, v, w2, m2, h1, h2, h3, h4, h5, h6⟩ := h
  exact ⟨av, H2, ρ2, v, w2, m2, h1, hs.trans h2, h3, h4, h5, hp.trans h6⟩

theorem Goal.step {P : Program} {c : Ctx} {Q : AVal → AHeap → Prop} {B : Nat} {ρ : Nat → Option Nat} {H : AHeap} {w : World} {cs : List Frame} {m m' : Machine}
    (h : Goal P c Q B ρ H w cs m') (hs : step P m = .next m') : Goal P c Q B ρ H w cs m := h.steps (.one hs) (Pres.refl _ _ _ _)

theorem DRel.pres {B : Nat} {ρ ρ' : Nat → Option Nat} {H H' : AHeap} {w w' : World} {D : List Nat} (h : DRel B ρ H w D) (hp : Pres w.heap.size ρ H w ρ' H' w') : DRel B ρ' H' w' D where
  nodup := h.nodup
  is d hd := by
    obtain ⟨h1, h2, h3⟩ := h.is d hd
    exact ⟨h1, (hp.keep d (lt_of_some h2) h3).trans h2, hp.out d (lt_of_some h2) h3⟩

theorem RdRel.ext {e e' : Nm} (x : Ext e e') {rd : Option Nat} {b : Frame} {cs : List Frame} {D : List Nat} (h : RdRel e rd b cs D) : RdRel e' rd b cs D := by
  cases rd with
  | none => exact h
  | some n =>
    obtain ⟨l, h1, h2, h3⟩ := h
    exact ⟨l, h1, h2.ext x, h3⟩

/-- What the frame's state says behind a step. -/
theorem Real.next {P : Program} {c : Ctx} {r r' : Regs} {H H' : AHeap} {B : Nat} {ρ ρ' : Nat → Option Nat} {w w' : World} {tmps tmps' : Array Value} {D : List Nat} {b : Frame} {cs : List Frame}
    (h : Real P c r H B ρ w tmps D b cs) (hp : Pres w.heap.size ρ H w ρ' H' w') (hh : HRel (nm ρ' H' w')) (hs : tmps'.size = tmps.size) (hr : RRel (nm ρ' H' w') r' tmps') : Real P c r' H' B ρ' w' tmps' D b cs where
  le := Nat.le_trans h.le hp.size
  nt := hs.trans h.nt
  regs := hr
  heap := hh
  dfr := h.dfr.pres hp
  rd := h.rd.ext hp.ext
  fn := h.fn
  kind := h.kind
  ctx := h.ctx

section
variable {P : Program} {c : Ctx} {k : List AItem} {r : Regs} {H : AHeap} {Q : AVal → AHeap → Prop}

theorem low_code {a : ACode} {k' : List Item} {nt : Nat} (h : LowK P nt k' (.code a :: k)) : ∃ c k2, k' = .code c :: k2 ∧ okCode P nt c a = true ∧ LowK P nt k2 k := by
  cases k' with
  | nil => simp [LowK] at h
  | cons x k2 => cases x <;> simp only [LowK] at h <;> first | (exact h.elim) | exact ⟨_, _, rfl, h.1, h.2⟩

theorem run_skip (h : Run P c k r H Q) : Run P c (.code .skip :: k) r H Q := by
  intro B ρ w tmps D b cs k' hr hl
  obtain ⟨cc, k2, rfl, hc, hl2⟩ := low_code hl
  cases cc <;> simp [okCode] at hc
  · exact (h B ρ w tmps D b cs k2 hr hl2).step stepR_skip
  · exact (h B ρ w tmps D b cs k2 hr hl2).step stepR_label

theorem run_inBlock {id : Nat} (h : Run P c k r H Q) : Run P c (.inBlock id :: k) r H Q := by
  intro B ρ w tmps D b cs k' hr hl
  cases k' with
  | nil => simp [LowK] at hl
  | cons x k2 =>
    cases x <;> simp only [LowK] at hl <;> first | (exact hl.elim) | skip
    exact (h B ρ w tmps D b cs k2 hr hl.2).step stepR_inBlock

theorem stepR_inScope {P : Program} {b : Frame} {a : Act} {body : Code} {k : List Item} {cs : List Frame} {w : World} : step P (lone (b.atR a (.inScope body :: k)) cs w) = .next (lone (b.atR a k) cs w) :=
  step_lone_go (by simp [stepG, stepG.exec, Frame.atR])

theorem stepR_scope {P : Program} {b : Frame} {a : Act} {body : Code} {k : List Item} {cs : List Frame} {w : World} : step P (lone (b.atR a (.code (.scope body) :: k)) cs w) = .next (lone (b.atR a (.code body :: .inScope body :: k)) cs w) :=
  step_lone_go (by simp [stepG, stepG.exec, Frame.atR])

theorem run_inScope (h : Run P c k r H Q) : Run P c (.inScope :: k) r H Q := by
  intro B ρ w tmps D b cs k' hr hl
  cases k' with
  | nil => simp [LowK] at hl
  | cons x k2 =>
    cases x <;> simp only [LowK] at hl <;> first | (exact hl.elim) | skip
    exact (h B ρ w tmps D b cs k2 hr hl).step stepR_inScope

theorem run_scope {a : ACode} (h : Run P c (.code a :: .inScope :: k) r H Q) : Run P c (.code (.scope a) :: k) r H Q := by
  intro B ρ w tmps D b cs k' hr hl
  obtain ⟨cc, k2, rfl, hc, hl2⟩ := low_code hl
  cases cc <;> simp only [okCode] at hc <;> first | (cases hc; done) | skip
  exact (h B ρ w tmps D b cs (.code _ :: .inScope _ :: k2) hr ⟨hc, hl2⟩).step stepR_scope

theorem run_seq {x y : ACode} (h : Run P c (.code x :: .code y :: k) r H Q) : Run P c (.code (.seq x y) :: k) r H Q := by
  intro B ρ w tmps D b cs k' hr hl
  obtain ⟨cc, k2, rfl, hc, hl2⟩ := low_code hl
  cases cc <;> simp only [okCode] at hc <;> first | (cases hc; done) | skip
  simp only [Bool.and_eq_true] at hc
  exact (h B ρ w tmps D b cs (.code _ :: .code _ :: k2) hr ⟨hc.1, hc.2, hl2⟩).step stepR_seq

theorem run_block {id : Nat} {x : ACode} (h : Run P c (.code x :: .inBlock id :: k) r H Q) : Run P c (.code (.block id x) :: k) r H Q := by
  intro B ρ w tmps D b cs k' hr hl
  obtain ⟨cc, k2, rfl, hc, hl2⟩ := low_code hl
  cases cc <;> simp only [okCode] at hc <;> first | (cases hc; done) | skip
  simp only [Bool.and_eq_true, beq_iff_eq] at hc
  obtain ⟨rfl, hc⟩ := hc
  exact (h B ρ w tmps D b cs (.code _ :: .inBlock _ :: k2) hr ⟨hc, rfl, hl2⟩).step stepR_block

theorem run_loop {x : ACode} (h : Run P c (.code x :: .inLoop x :: k) r H Q) : Run P c (.code (.loop x) :: k) r H Q := by
  intro B ρ w tmps D b cs k' hr hl
  obtain ⟨cc, k2, rfl, hc, hl2⟩ := low_code hl
  cases cc <;> simp only [okCode] at hc <;> first | (cases hc; done) | skip
  exact (h B ρ w tmps D b cs (.code _ :: .inLoop _ :: k2) hr ⟨hc, hc, hl2⟩).step stepR_loop

theorem run_inLoop {x : ACode} (h : Run P c (.code x :: .inLoop x :: k) r H Q) : Run P c (.inLoop x :: k) r H Q := by
  intro B ρ w tmps D b cs k' hr hl
  cases k' with
  | nil => simp [LowK] at hl
  | cons y k2 =>
    cases y <;> simp only [LowK] at hl <;> first | (exact hl.elim) | skip
    exact (h B ρ w tmps D b cs (.code _ :: .inLoop _ :: k2) hr ⟨hl.1, hl.1, hl.2⟩).step stepR_inLoop

theorem run_exit {id : Nat} {k1 : List AItem} (hx : aexitTo id k = some k1) (h : Run P c k1 r H Q) : Run P c (.code (.exit id) :: k) r H Q := by
  intro B ρ w tmps D b cs k' hr hl
  obtain ⟨cc, k2, rfl, hc, hl2⟩ := low_code hl
  cases cc <;> simp only [okCode] at hc <;> first | (cases hc; done) | skip
  simp at hc; subst hc
  obtain ⟨k3, h1, h2⟩ := exit_some hl2 hx
  exact (h B ρ w tmps D b cs _ hr h2).step (stepR_exit h1)

theorem run_cond {x : AOpd} {y z : ACode} {t : Bool} (hx : geto r x = .bool t) (h : Run P c (.code (if t then y else z) :: k) r H Q) : Run P c (.code (.cond x y z) :: k) r H Q := by
  intro B ρ w tmps D b cs k' hr hl
  obtain ⟨cc, k2, rfl, hc, hl2⟩ := low_code hl
  cases cc <;> simp only [okCode] at hc <;> first | (cases hc; done) | skip
  simp only [Bool.and_eq_true] at hc
  have hv := cOpd_rel hc.1.1 hr.regs
  rw [hx] at hv
  have hv' := inv_bool hv
  refine (h B ρ w tmps D b cs (.code (if t then _ else _) :: k2) hr ⟨?_, hl2⟩).step (stepR_cond (by rw [eval_act]; exact hv'))
  cases t
  · exact hc.2
  · exact hc.1.2

/-- Fewer things are known. -/
theorem run_weak {r' : Regs} (hs : ∀ i, rget r' i = .junk ∨ rget r' i = rget r i) (h : Run P c k r' H Q) : Run P c k r H Q := by
  intro B ρ w tmps D b cs k' hr hl
  refine h B ρ w tmps D b cs k' { hr with regs := fun i => ?_ } hl
  rcases hs i with hi | hi
  · rw [hi]; simp [VRel]
  · rw [hi]; exact hr.regs i

theorem Run.mono {Q' : AVal → AHeap → Prop} (h : Run P c k r H Q) (hq : ∀ av H', Q av H' → Q' av H') : Run P c k r H Q' := by
  intro B ρ w tmps D b cs k' hr hl
  obtain ⟨av, H2, ρ2, v, w2, m2, h1, h2⟩ := h B ρ w tmps D b cs k' hr hl
  exact ⟨av, H2, ρ2, v, w2, m2, hq _ _ h1, h2⟩

theorem run_region {ops : List AOper} {live : List Nat} (h : RunO P c ops k r H Q) : Run P c (.code (.region ops live) :: k) r H Q := by
  intro B ρ w tmps D b cs k' hr hl
  obtain ⟨cc, k2, rfl, hc, hl2⟩ := low_code hl
  obtain ⟨id, rops, rfl, hc⟩ : ∃ id rops, cc = .region id rops false ∧ okOps P c.nt rops rops.toList ops = true := by
    cases cc with
    | region id rops draw =>
      cases draw
      · exact ⟨id, rops, rfl, hc⟩
      · simp [okCode] at hc
    | _ => simp [okCode] at hc
  refine (h B ρ w tmps D b cs k2 rops (List.range rops.size) hr hl2 ?_).step stepR_region
  have key : ∀ (n : Nat) (os : List Oper) (as : List AOper), okOps P c.nt rops os as = true → (∀ j (hj : j < os.length), rops[n + j]? = some os[j]) → OpsRel P c.nt rops (List.range' n os.length) as := by
    intro n os
    induction os generalizing n with
    | nil => intro as h _; cases as <;> simp [okOps] at h ⊢; trivial
    | cons o os ih =>
      intro as h hj
      cases as with
      | nil => simp [okOps] at h
      | cons a as =>
        simp only [okOps, Bool.and_eq_true] at h
        simp only [List.length_cons, List.range'_succ]
        have h0 := hj 0 (by simp)
        simp only [Nat.add_zero, List.getElem_cons_zero] at h0
        refine ⟨⟨o, h0, h.1⟩, ih (n + 1) as h.2 fun j hj' => ?_⟩
        have := hj (j + 1) (by simpa using hj')
        simp only [List.getElem_cons_succ] at this
        rw [show n + 1 + j = n + (j + 1) from by omega]
        exact this
  have := key 0 rops.toList ops hc (fun j hj => by simp)
  simpa [List.range_eq_range'] using this

theorem runO_nil (h : Run P c k r H Q) : RunO P c [] k r H Q := by
  intro B ρ w tmps D b cs k' ops is hr hl ho
  cases is with
  | nil => exact (h B ρ w tmps D b cs k' hr hl).step stepR_region_end
  | cons _ _ => exact ho.elim

end
end Go.Am

namespace Go.Am
open Go
set_option linter.unusedVariables false

section
variable {P : Program} {c : Ctx} {k : List AItem} {r : Regs} {H : AHeap} {Q : AVal → AHeap → Prop}

/-! ### Operations in their place -/

def rput (dst : Option Nat) (v : AVal) (r : Regs) : Regs :=
  match dst with
  | some d => (d, v) :: r
  | none => r

def wants (r : Regs) : Option (Nat × Bool) → Option Bool
  | none => some true
  | some (t, w) => match rget r t with
    | .bool b => some (b == w)
    | .tup [] => some false
    | _ => none

theorem okOper_inv {P : Program} {nt : Nat} {ops : Array Oper} {o : Oper} {a : AOper} (h : okOper P nt ops o a = true) :
    o.dst = a.dst ∧ (∀ d, a.dst = some d → d < nt) ∧
    (match o.guard, a.guard with
      | none, none => True
      | some (j, w), some (t, w') => w = w' ∧ (ops[j]?).bind (·.dst) = some t ∧ t < nt
      | _, _ => False) ∧
    ((∃ cl x f args, o.op = .call cl ∧ a.op = .call f args ∧ cl.callee = .value x ∧ cOpd x f = true ∧ cOpds cl.args.toList args = true) ∨ (okOp P o.op a.op = true ∧ (∀ f args, a.op ≠ .call f args))) := by
  unfold okOper at h
  simp only [Bool.and_eq_true, decide_eq_true_eq] at h
  obtain ⟨⟨⟨h1, h2⟩, h3⟩, h4⟩ := h
  refine ⟨h1, ?_, ?_, ?_⟩
  · intro d hd; rw [hd] at h2; simpa using h2
  · cases hg : o.guard with
    | none => cases ha : a.guard with
      | none => trivial
      | some q => simp [hg, ha] at h3
    | some p => cases ha : a.guard with
      | none => obtain ⟨j, w⟩ := p; simp [hg, ha] at h3
      | some q =>
        obtain ⟨j, w⟩ := p
        obtain ⟨t, w'⟩ := q
        simp [hg, ha] at h3
        exact ⟨h3.1.1, by simpa using h3.1.2, h3.2⟩
  · obtain ⟨dst, op, ty, pos, aft, gd⟩ := o
    obtain ⟨adst, aop, ag⟩ := a
    simp only at h4 ⊢
    split at h4
    · rename_i cl f args
      left
      cases hcal : cl.callee with
      | value x => simp [hcal] at h4; exact ⟨cl, x, f, args, rfl, rfl, hcal, h4.1, h4.2⟩
      | invoke _ _ => simp [hcal] at h4
      | builtin _ => simp [hcal] at h4
    · rename_i hne
      right
      refine ⟨h4, fun f args he => ?_⟩
      subst he
      unfold okOp at h4
      split at h4 <;> first | (cases h4; done) | simp_all

theorem getD_some {tmps : Array Value} {t : Nat} {v : Value} (h : tmps.getD t undef = v) (hv : v ≠ undef) : tmps[t]? = some v := by
  by_cases ht : t < tmps.size
  · simp [Array.getD, ht] at h; simp [ht, h]
  · simp [Array.getD, ht] at h; exact absurd h.symm hv

theorem wanted_ok {e : Nm} {nt : Nat} {ops : Array Oper} {o : Oper} {a : AOper} (ho : okOper P nt ops o a = true) {tmps : Array Value} (hr : RRel e r tmps) {b : Bool} (hw : wants r a.guard = some b) :
    Region.wanted o (yielded ops tmps) = b := by
  obtain ⟨_, _, h3, _⟩ := okOper_inv ho
  unfold Region.wanted
  cases hg : o.guard with
  | none =>
    cases ha : a.guard with
    | none => simp [wants, ha] at hw; simp [hw]
    | some q => simp [hg, ha] at h3
  | some p =>
    cases ha : a.guard with
    | none => simp [hg, ha] at h3
    | some q =>
      obtain ⟨j, w⟩ := p
      obtain ⟨t, w'⟩ := q
      simp [hg, ha] at h3
      obtain ⟨rfl, h4, h5⟩ := h3
      simp only [wants, ha] at hw
      have hrt := hr t
      have hdst : (ops[j]?.bind fun x => x.dst) = some t := by simpa using h4
      cases hv : rget r t <;> simp [hv] at hw
      rotate_left
      · rename_i vs
        cases vs with
        | cons _ _ => simp at hw
        | nil =>
          simp only [Option.some.injEq] at hw
          subst hw
          rw [hv] at hrt
          simp only [VRel, List.length_nil] at hrt
          obtain ⟨arr, h1, h2, _⟩ := hrt
          have : yielded ops tmps j = none := by
            unfold yielded
            rw [hdst]
            rw [Array.getD_eq_getD_getElem?] at h1
            cases hq : tmps[t]? with
            | none => simp [hq]
            | some u => rw [hq] at h1; simp only [Option.getD_some] at h1; subst h1; simp [hq]
          simp [this]
      rename_i bb
      rw [hv] at hrt
      have hb := inv_bool hrt
      have hs := getD_some hb (by simp [undef])
      have hy : yielded ops tmps j = some bb := by
        unfold yielded
        have : (ops[j]?.bind fun x => x.dst) = some t := by simpa using h4
        rw [this]; simp [hs]
      simp [hy, hw]

theorem put_rel {e : Nm} {tmps : Array Value} (hr : RRel e r tmps) {dst : Option Nat} {av : AVal} {v : Value} (hv : VRel e av v) (hd : ∀ d, dst = some d → d < tmps.size) (D : List Deferred) :
    ∃ tmps', ((Act.mk tmps D).put dst v) = Act.mk tmps' D ∧ tmps'.size = tmps.size ∧ RRel e (rput dst av r) tmps' := by
  cases dst with
  | none => exact ⟨tmps, rfl, rfl, hr⟩
  | some d =>
    refine ⟨tmps.setIfInBounds d v, rfl, by simp, fun i => ?_⟩
    have hlt := hd d rfl
    simp only [rput, rget]
    by_cases hi : d = i
    · subst hi
      rw [if_pos rfl]
      simp [Array.getD, hlt]; exact hv
    · rw [if_neg hi]
      have := hr i
      simp only [Array.getD_eq_getD_getElem?] at this ⊢
      rw [Array.getElem?_setIfInBounds_ne hi]; exact this

theorem opsRel_cons {nt : Nat} {ops : Array Oper} {a : AOper} {as : List AOper} {is : List Nat} (h : OpsRel P nt ops is (a :: as)) : ∃ i is' o, is = i :: is' ∧ ops[i]? = some o ∧ okOper P nt ops o a = true ∧ OpsRel P nt ops is' as := by
  cases is with
  | nil => exact h.elim
  | cons i is => obtain ⟨⟨o, h1, h2⟩, h3⟩ := h; exact ⟨i, is, o, rfl, h1, h2, h3⟩

/-- An operation that isn't wanted. -/
theorem runO_skip {a : AOper} {as : List AOper} (hw : wants r a.guard = some false) (h : RunO P c as k (rput a.dst (.tup []) r) H Q) : RunO P c (a :: as) k r H Q := by
  intro B ρ w tmps D b cs k' ops is hr hl ho
  obtain ⟨i, is', o, rfl, ho1, ho2, ho3⟩ := opsRel_cons ho
  obtain ⟨e1, e2, _⟩ := okOper_inv ho2
  have hnw := wanted_ok ho2 hr.regs hw
  obtain ⟨tmps', p1, p2, p3⟩ := put_rel (av := .tup []) (v := undef) hr.regs (by simp [VRel, undef, VsRel]) (dst := a.dst) (fun d hd => by rw [hr.nt]; exact e2 d hd) (marks D)
  refine (h B ρ w tmps' D b cs k' ops is' (hr.next (Pres.refl _ _ _ _) hr.heap p2 p3) hl ho3).step ?_
  have := stepR_op_skip (P := P) (b := b) (a := ⟨tmps, marks D⟩) (k := k') (cs := cs) (w := w) (ops := ops) (i := i) (rest := is') (by simp [ho1, hnw])
  rw [this]
  simp only [ho1, Option.bind_some, e1, p1]

theorem not_defer {o : Oper} {ao : AOp} (h : okOp P o.op ao = true) : ∀ cl, o.op ≠ .defer cl := by
  intro cl hh
  rw [hh] at h
  unfold okOp at h
  split at h <;> first | (cases h; done) | (rename_i e _; cases e; done) | simp_all

/-- An operation that calls nothing. -/
theorem runO_op {a : AOper} {as : List AOper} (hw : wants r a.guard = some true) {p : Prop} {av : AVal} {H' : AHeap} (he : evalOp (geto r) H a.op = .ok p av H') (hp : p)
    (h : RunO P c as k (rput a.dst av r) H' Q) : RunO P c (a :: as) k r H Q := by
  intro B ρ w tmps D b cs k' ops is hr hl ho
  obtain ⟨i, is', o, rfl, ho1, ho2, ho3⟩ := opsRel_cons ho
  obtain ⟨e1, e2, _, e4⟩ := okOper_inv ho2
  have hwt := wanted_ok ho2 hr.regs hw
  rcases e4 with ⟨cl, x, f, args, _, hop, _⟩ | ⟨e4, _⟩
  · rw [hop] at he; simp [evalOp] at he
  · obtain ⟨rr, v, w', ρ', g1, g2, g3, g4, g5⟩ := op_ok e4 hr.regs hr.heap he hp
    have hx := g5.ext
    obtain ⟨tmps', p1, p2, p3⟩ := put_rel (hr.regs.ext hx) g3 (dst := a.dst) (fun d hd => by rw [hr.nt]; exact e2 d hd) (marks D)
    have hfin : (b.atR ⟨tmps, marks D⟩ (.inRegion ops (i :: is') :: k')).finish v = b.atR ⟨tmps', marks D⟩ (.inRegion ops is' :: k') := by
      rw [Frame.finish_atR, ho1, ← p1, ← e1]; rfl
    have hg := stepGR_op (P := P) (b := b) (a := ⟨tmps, marks D⟩) (k := k') (cs := cs) (w := w) (rest := is') ho1 hwt
    rw [Oper.semAt_eq _ _ _ (not_defer e4), eval_act] at hg
    refine (h B ρ' w' tmps' D b cs k' ops is' (hr.next g5 g4 p2 p3) hl ho3).steps (.one ?_) (g5.mono hr.le)
    refine step_lone_go ?_
    rw [hg, ← hfin]
    rcases g2 with rfl | ⟨rfl, rfl⟩
    · simp [stepG.apply, g1]
    · simp [stepG.apply, g1]

/-! ### Calls -/

def Callable (P : Program) (f : FuncId) : Prop := ∃ fn c, P.funcs[f]? = some fn ∧ fn.body = some c ∧ (fn.name == "runtime.NumGoroutine") = false

def FunOK (P : Program) (f : FuncId) (args : List AVal) (H : AHeap) (Q : AVal → AHeap → Prop) : Prop :=
  Callable P f ∧ ∀ ρ (vs : Array Value) w, vs.size = args.length → VsRel (nm ρ H w) args (fun i => vs[i]?) → HRel (nm ρ H w) → ∀ cs,
    ∃ av H' ρ' v w' fr, Q av H' ∧ Steps P (lone (Frame.enter P f vs .normal) cs w) (lone fr cs w') ∧ fr.leaving P w' (.returned v) ∧ fr.fn = f ∧ VRel (nm ρ' H' w') av v ∧ HRel (nm ρ' H' w') ∧ Pres w.heap.size ρ H w ρ' H' w'

def CallV (P : Program) (fv : AVal) (args : List AVal) (H : AHeap) (Q : AVal → AHeap → Prop) : Prop :=
  match fv with
  | .fn f first captured => FunOK P f (first ++ args ++ captured) H Q
  | .yld n => ∃ L, H[n]? = some (.loop L) ∧ L.state = .ready ∧ args.length = L.params.length ∧ ∃ as bd, okCode P L.nt L.assign as = true ∧ okCode P L.nt L.body bd = true ∧
      (∀ p ∈ L.params, p < L.nt) ∧ Run P ⟨L.fn, L.nt, [], some n⟩ [.code as, .begin, .code bd] ((L.params.zip args).reverse ++ L.regs) H Q
  | _ => False

theorem FunOK.mono {f : FuncId} {args : List AVal} {Q' : AVal → AHeap → Prop} (h : FunOK P f args H Q) (hq : ∀ av H', Q av H' → Q' av H') : FunOK P f args H Q' :=
  ⟨h.1, fun ρ vs w h1 h2 h3 cs => let ⟨av, H', ρ', v, w', fr, a, b⟩ := h.2 ρ vs w h1 h2 h3 cs; ⟨av, H', ρ', v, w', fr, hq _ _ a, b⟩⟩

theorem CallV.mono {fv : AVal} {args : List AVal} {Q' : AVal → AHeap → Prop} (h : CallV P fv args H Q) (hq : ∀ av H', Q av H' → Q' av H') : CallV P fv args H Q' := by
  cases fv <;> first | exact h.elim | skip
  · exact FunOK.mono h hq
  · obtain ⟨L, h1, h2, h3, as, bd, h4, h5, h6, h7⟩ := h
    exact ⟨L, h1, h2, h3, as, bd, h4, h5, h6, h7.mono hq⟩

theorem run_callFunc {f : FuncId} (h : Callable P f) (args : Array Value) (w : World) : (callFunc f args).run P w = .ok (.enter f args) w := by
  obtain ⟨fn, cd, h1, h2, h3⟩ := h
  simp only [callFunc, Sem.run_bind, run_program, Result.andThen_ok, h1]
  rw [if_neg (by simp [h3])]
  rw [if_neg (by simp [h2])]
  rfl

theorem zip_put {e : Nm} : ∀ (ps : List Nat) (args : List AVal) (vs : List Value) (r : Regs) (tmps : Array Value), vs.length = args.length → VsRel e args (fun i => vs[i]?) → (∀ p ∈ ps, p < tmps.size) → RRel e r tmps →
    RRel e ((ps.zip args).reverse ++ r) ((ps.zip vs).foldl (fun (t : Array Value) (q : Nat × Value) => t.setIfInBounds q.1 q.2) tmps) ∧ ((ps.zip vs).foldl (fun (t : Array Value) (q : Nat × Value) => t.setIfInBounds q.1 q.2) tmps).size = tmps.size
  | [], args, vs, r, tmps, _, _, _, hr => by simpa using hr
  | p :: ps, [], vs, r, tmps, hl, _, _, hr => by
    have : vs = [] := List.length_eq_zero_iff.1 (by simpa using hl)
    subst this
    simpa using hr
  | p :: ps, a :: args, [], r, tmps, hl, _, _, hr => by simp at hl
  | p :: ps, a :: args, v :: vs, r, tmps, hl, hv, hp, hr => by
    simp only [VsRel] at hv
    obtain ⟨⟨v', h1, h2⟩, h3⟩ := hv
    simp at h1; subst h1
    obtain ⟨tmps', p1, p2, p3⟩ := put_rel (dst := some p) hr h2 (fun d hd => by cases hd; exact hp p (by simp)) []
    have ht : tmps' = tmps.setIfInBounds p v := by
      have : (Act.mk tmps []).put (some p) v = ⟨tmps.setIfInBounds p v, []⟩ := rfl
      rw [this] at p1
      exact (Act.mk.inj p1).1.symm
    subst ht
    have := zip_put ps args vs ((p, a) :: r) (tmps.setIfInBounds p v) (by simpa using hl) (h3.congr fun i _ => by simp) (fun q hq => by rw [p2]; exact hp q (by simp [hq])) p3
    obtain ⟨q1, q2⟩ := this
    refine ⟨?_, by simpa using q2⟩
    simpa using q1

theorem VsRel.appendA {e : Nm} {as bs : List AVal} {xs ys : Array Value} (hl : xs.size = as.length) (h1 : VsRel e as (fun i => xs[i]?)) (h2 : VsRel e bs (fun i => ys[i]?)) : VsRel e (as ++ bs) (fun i => (xs ++ ys)[i]?) := by
  have := VsRel.append (xs := xs.toList) (ys := ys.toList) (by simpa using hl) (h1.congr fun i _ => by simp) (h2.congr fun i _ => by simp)
  refine this.congr fun i _ => ?_
  rw [← Array.getElem?_toList, Array.toList_append]

/-- A call. -/
theorem runO_call {a : AOper} {as : List AOper} {f : AOpd} {args : List AOpd} (hop : a.op = .call f args) (hw : wants r a.guard = some true)
    (h : CallV P (geto r f) (args.map (geto r)) H (fun av H' => RunO P c as k (rput a.dst av r) H' Q)) : RunO P c (a :: as) k r H Q := by
  intro B ρ w tmps D b cs k' ops is hr hl ho
  obtain ⟨i, is', o, rfl, ho1, ho2, ho3⟩ := opsRel_cons ho
  obtain ⟨e1, e2, _, e4⟩ := okOper_inv ho2
  have hwt := wanted_ok ho2 hr.regs hw
  rcases e4 with ⟨cl, x, f', args', hoc, hop', hcal, hcf, hca⟩ | ⟨_, e4⟩
  rotate_left
  · exact absurd hop (e4 _ _)
  rw [hop] at hop'
  cases hop'
  have hf := cOpd_rel hcf hr.regs
  obtain ⟨hal, har⟩ := cOpds_rel hca hr.regs
  have hnd : ∀ cl', o.op ≠ .defer cl' := by intro cl' hh; rw [hoc] at hh; cases hh
  have hg := stepGR_op (P := P) (b := b) (a := ⟨tmps, marks D⟩) (k := k') (cs := cs) (w := w) (rest := is') ho1 hwt
  rw [Oper.semAt_eq _ _ _ hnd, eval_act] at hg
  have hargs : (cl.args.map (evalv tmps)).size = (args.map (geto r)).length := by simpa using hal
  have hargr : VsRel (nm ρ H w) (args.map (geto r)) (fun i => (cl.args.map (evalv tmps))[i]?) := har.congr fun i _ => by simp
  -- what is done when a value has come back
  have back : ∀ av H' ρ' v w', RunO P c as k (rput a.dst av r) H' Q → VRel (nm ρ' H' w') av v → HRel (nm ρ' H' w') → Pres w.heap.size ρ H w ρ' H' w' →
      Goal P c Q B ρ H w cs (lone ((b.atR ⟨tmps, marks D⟩ (.inRegion ops (i :: is') :: k')).finish v) cs w') := by
    intro av H' ρ' v w' hrun hv hh hp
    obtain ⟨tmps', p1, p2, p3⟩ := put_rel (hr.regs.ext hp.ext) hv (dst := a.dst) (fun d hd => by rw [hr.nt]; exact e2 d hd) (marks D)
    have hfin : (b.atR ⟨tmps, marks D⟩ (.inRegion ops (i :: is') :: k')).finish v = b.atR ⟨tmps', marks D⟩ (.inRegion ops is' :: k') := by
      rw [Frame.finish_atR, ho1, ← p1, ← e1]; rfl
    rw [hfin]
    exact (hrun B ρ' w' tmps' D b cs k' ops is' (hr.next hp hh p2 p3) hl ho3).steps (Steps.refl _ _) (hp.mono hr.le)
  generalize geto r f = F at *
  cases F <;> first | exact h.elim | skip
  · -- a function of the program
    rename_i g first captured
    simp only [CallV] at h
    obtain ⟨hcb, h⟩ := h
    simp only [VRel] at hf
    obtain ⟨xs, ys, hfv, hx1, hy1, hx2, hy2⟩ := hf
    have hrun : (execOp (evalv tmps) o).run P w = .ok (.enter g (xs ++ cl.args.map (evalv tmps) ++ ys)) w := by
      simp only [execOp, hoc, resolve, hcal, hfv, Deferred.ofValue, Sem.run_bind, Sem.run_pure, Result.andThen_ok, invoke]
      exact run_callFunc hcb _ _
    obtain ⟨av, H', ρ', v, w', fr, q1, q2, q3, q4, q5, q6, q7⟩ := h ρ (xs ++ cl.args.map (evalv tmps) ++ ys) w (by simp [hx1, hy1] at hargs ⊢; omega)
      ((hx2.appendA hx1 hargr).appendA (by simp [hx1] at hargs ⊢; omega) hy2) hr.heap (b.atR ⟨tmps, marks D⟩ (.inRegion ops (i :: is') :: k') :: cs)
    refine (back av H' ρ' v w' q1 q5 q6 q7).steps ?_ (Pres.refl _ _ _ _)
    refine .head (m₁ := lone (Frame.enter P g (xs ++ cl.args.map (evalv tmps) ++ ys) .normal) (b.atR ⟨tmps, marks D⟩ (.inRegion ops (i :: is') :: k') :: cs) w) ?_ (q2.trans (.one (step_leave_returned q3)))
    exact step_lone_go (by rw [hg]; simp [stepG.apply, hrun, Frame.atR])
  · -- yield
    rename_i n
    simp only [CallV] at h
    obtain ⟨L, hn, hst, hlen, as', bd, hc1, hc2, hps, hrun0⟩ := h
    have hyl := hf
    simp only [VRel] at hf
    obtain ⟨hnl, l, hfv, hf⟩ := hf
    obtain ⟨b', rl, y1, y2, y3, y4, y5, y6, y7, y8, y9, y10⟩ := hr.heap.blk n _ hn
    have hbl : some l = some b' := by rw [← y1]; exact (hf (alive_of hn rfl)).symm
    cases hbl
    have y2' : w.heap[l]? = some (.loop rl) := y2
    have hzip := zip_put rl.params.toList (args.map (geto r)) (cl.args.map (evalv tmps)).toList L.regs rl.tmps (by simpa using hargs) (hargr.congr fun i _ => by simp) (fun p hp => by rw [y6]; exact hps p (by rw [← y8]; exact hp)) y7
    have hfold : (rl.params.zip (cl.args.map (evalv tmps))).foldl (fun (t : Array Value) (q : Nat × Value) => t.setIfInBounds q.1 q.2) rl.tmps = (rl.params.toList.zip (cl.args.map (evalv tmps)).toList).foldl (fun (t : Array Value) (q : Nat × Value) => t.setIfInBounds q.1 q.2) rl.tmps := by
      rw [← Array.foldl_toList, Array.toList_zip]
    have hrun : (execOp (evalv tmps) o).run P w = .ok (.round l rl.fn ((rl.params.toList.zip (cl.args.map (evalv tmps)).toList).foldl (fun (t : Array Value) (q : Nat × Value) => t.setIfInBounds q.1 q.2) rl.tmps) rl.assign rl.body) w := by
      simp only [execOp, hoc, resolve, hcal, hfv, Deferred.ofValue, Sem.run_bind, Sem.run_pure, Result.andThen_ok, invoke]
      have hsz : (#[] ++ cl.args.map (evalv tmps) ++ (#[] : Array Value)).size = rl.params.size := by
        have : rl.params.size = L.params.length := by rw [← y8]; simp
        simp at hargs hlen ⊢; omega
      simp only [Instr.yield, Instr.getLoop, getObj, Sem.run_bind, Sem.run, y2', Result.andThen_ok]
      simp only [Sem.run_pure, Result.andThen_ok]
      have hne : ¬ ((#[] ++ cl.args.map (evalv tmps)).size ≠ rl.params.size) := by simpa using hsz
      rw [if_neg hne, ← hfold]
      simp
    have hreal : Real P ⟨L.fn, L.nt, [], some n⟩ ((L.params.zip (args.map (geto r))).reverse ++ L.regs) H w.heap.size ρ w
        ((rl.params.toList.zip (cl.args.map (evalv tmps)).toList).foldl (fun (t : Array Value) (q : Nat × Value) => t.setIfInBounds q.1 q.2) rl.tmps) [] { (default : Frame) with fn := rl.fn, kind := .normal, roundOf := some l }
        (b.atR ⟨tmps, marks D⟩ (.inRegion ops (i :: is') :: k') :: cs) := {
      le := Nat.le_refl _
      nt := hzip.2.trans y6
      regs := by rw [← y8]; exact hzip.1
      heap := hr.heap
      dfr := ⟨List.nodup_nil, fun d hd => by simp at hd⟩
      rd := ⟨l, rfl, by rw [hfv] at hyl; exact hyl, by simp, rfl⟩
      fn := y5
      kind := rfl
      ctx := fun hh => by simp at hh }
    obtain ⟨av, H', ρ', v, w', m', q1, q2, q3, q4, q5, q6⟩ := hrun0 w.heap.size ρ w _ [] _ _ [.code rl.assign, .beginRound, .code rl.body] hreal ⟨by rw [y9]; exact hc1, by rw [y10]; exact ⟨hc2, trivial⟩⟩
    obtain ⟨c0, cs', hcs, rfl⟩ := q3
    cases hcs
    refine (back av H' ρ' v w' q1 q4 q5 q6).steps ?_ (Pres.refl _ _ _ _)
    refine .head ?_ q2
    exact step_lone_go (by rw [hg]; simp [stepG.apply, hrun, Frame.atR, Frame.round, marks])

end
end Go.Am

namespace Go.Am
open Go
set_option linter.unusedVariables false

section
variable {P : Program} {c : Ctx} {k : List AItem} {r : Regs} {H : AHeap} {Q : AVal → AHeap → Prop}

/-! ### The end of a function -/

def resOne (H : AHeap) (r : Regs) : ARes → Option (Prop × AVal)
  | .tmp t => some (True, rget r t)
  | .cell t agg => loadA H agg (rget r t)

def resA (H : AHeap) (r : Regs) : List ARes → Option (Prop × List AVal)
  | [] => some (True, [])
  | a :: as => match resOne H r a, resA H r as with
    | some (p, v), some (q, vs) => some (p ∧ q, v :: vs)
    | _, _ => none

def pack : List AVal → AVal
  | [v] => v
  | vs => .tup vs

theorem results_ok {ρ : Nat → Option Nat} {w : World} {tmps : Array Value} (hr : HRel (nm ρ H w)) (hreg : RRel (nm ρ H w) r tmps) : ∀ (rs : List ResultVar) (as : List ARes), okRes P rs as = true → ∀ {p : Prop} {vs : List AVal}, resA H r as = some (p, vs) → p →
    ∃ xs : List Value, xs.length = vs.length ∧ VsRel (nm ρ H w) vs (fun i => xs[i]?) ∧ (rs.mapM (m := Sem) fun
      | .tmp t => pure (tmps.getD t undef)
      | .cell a t => do loadVar t (← asAddr (tmps.getD a undef))).run P w = .ok xs w
  | [], [], _, p, vs, h, hp => by
    simp [resA] at h; obtain ⟨_, rfl⟩ := h
    exact ⟨[], rfl, by simp [VsRel], by simp⟩
  | [], _ :: _, h, _, _, _, _ => by simp [okRes] at h
  | .tmp _ :: _, [], h, _, _, _, _ => by simp [okRes] at h
  | .cell _ _ :: _, [], h, _, _, _, _ => by simp [okRes] at h
  | .tmp _ :: _, .cell _ _ :: _, h, _, _, _, _ => by simp [okRes] at h
  | .cell _ _ :: _, .tmp _ :: _, h, _, _, _, _ => by simp [okRes] at h
  | .tmp t :: rs, .tmp u :: as, h, p, vs, hv, hp => by
    simp [okRes] at h
    obtain ⟨rfl, h⟩ := h
    simp only [resA, resOne] at hv
    cases hq : resA H r as with
    | none => simp [hq] at hv
    | some q =>
      obtain ⟨q, vs'⟩ := q
      simp only [hq, Option.some.injEq, Prod.mk.injEq, true_and] at hv
      obtain ⟨hpq, rfl⟩ := hv
      have hp : q := by rw [← hpq] at hp; exact (show True ∧ q from by simpa using hp).2
      obtain ⟨xs, h1, h2, h3⟩ := results_ok hr hreg rs as h hq hp
      refine ⟨tmps.getD t undef :: xs, by simp [h1], ?_, ?_⟩
      · simp only [VsRel]; exact ⟨⟨_, rfl, hreg t⟩, h2.congr fun i _ => by simp⟩
      · rw [List.mapM_cons]; simp only [Sem.run_bind, Sem.run_pure, Result.andThen_ok, h3]
  | .cell t ty :: rs, .cell u agg :: as, h, p, vs, hv, hp => by
    simp only [okRes, Bool.and_eq_true, beq_iff_eq] at h
    obtain ⟨⟨rfl, h0⟩, h⟩ := h
    cases hd : P.underlying ty with
    | none => simp [hd] at h0
    | some d =>
      cases hi : P.info? ty with
      | none => simp [hd, hi] at h0
      | some i =>
        simp only [hd, hi] at h0
        simp only [resA, resOne] at hv
        cases hl : loadA H agg (rget r t) with
        | none => simp [hl] at hv
        | some ql =>
          obtain ⟨pl, vl⟩ := ql
          cases hq : resA H r as with
          | none => simp [hl, hq] at hv
          | some q =>
            obtain ⟨q, vs'⟩ := q
            simp only [hl, hq, Option.some.injEq, Prod.mk.injEq] at hv
            obtain ⟨rfl, rfl⟩ := hv
            obtain ⟨xs, h1, h2, h3⟩ := results_ok hr hreg rs as h hq hp.2
            have hagg : agg = if aggT P ty then some i.size else none := by
              split at h0
              · simp at h0; rw [if_pos ‹_›]; exact h0.1
              · simp at h0; rw [if_neg ‹_›]; exact h0
            have hpos : aggT P ty = true → 0 < i.size := by
              intro ha; rw [if_pos ha] at h0; simp at h0; exact h0.2
            obtain ⟨v, g1, g2⟩ := load_run (P := P) hr hd hi hagg (hreg t) hl hp.1 hpos
            refine ⟨v :: xs, by simp [h1], ?_, ?_⟩
            · simp only [VsRel]; exact ⟨⟨_, rfl, g1⟩, h2.congr fun i _ => by simp⟩
            · have hpt : ∃ ad, tmps.getD t undef = .pointer (some ad) := by
                have := hreg t
                cases hg : rget r t <;> simp [hg, loadA, cellsAt] at hl
                · rw [hg] at this; exact ptr_some (.inl ⟨_, _, rfl⟩) this
                · rw [hg] at this; exact ptr_some (.inr ⟨_, _, rfl⟩) this
              obtain ⟨ad, had⟩ := hpt
              rw [had] at g2
              have g2' : (loadVar ty ad).run P w = .ok v w := by simpa [Instr.loadAt, Instr.sureAddr] using g2
              have ha : (asAddr (.pointer (some ad))).run P w = .ok ad w := rfl
              rw [List.mapM_cons]
              simp only [had, Sem.run_bind, Sem.run_pure, Result.andThen_ok, ha, g2', h3]

theorem results_all {ρ : Nat → Option Nat} {w : World} {tmps : Array Value} (hr : HRel (nm ρ H w)) (hreg : RRel (nm ρ H w) r tmps) {fn : Func} (hc : okRes P fn.results.toList c.res = true) {p : Prop} {vs : List AVal} (h : resA H r c.res = some (p, vs)) (hp : p) :
    ∃ v, (results fn tmps).run P w = .ok v w ∧ VRel (nm ρ H w) (pack vs) v := by
  obtain ⟨xs, h1, h2, h3⟩ := results_ok hr hreg fn.results.toList c.res hc h hp
  have hm : (fn.results.mapM (m := Sem) fun
      | .tmp t => pure (tmps.getD t undef)
      | .cell a t => do loadVar t (← asAddr (tmps.getD a undef))).run P w = .ok xs.toArray w := by
    rw [Array.mapM_eq_mapM_toList, Sem.run_map, h3]; rfl
  have hrun : (results fn tmps).run P w = .ok (if h : xs.toArray.size = 1 then xs.toArray[0] else .tuple xs.toArray) w := by
    unfold results
    rw [Sem.run_bind]
    exact congrArg (fun x : Result (Array Value) => x.andThen (fun a w' => (pure (if h : a.size = 1 then a[0] else Value.tuple a) : Sem Value).run P w')) hm
  refine ⟨_, hrun, ?_⟩
  match vs, xs, h1, h2 with
  | [], [], _, _ => simp [pack, VRel, VsRel]
  | [v], [x], _, h2 =>
    simp [VsRel] at h2
    simpa [pack] using h2
  | v :: v2 :: vs, x :: x2 :: xs, h1, h2 =>
    simp only [pack, VRel]
    refine ⟨(x :: x2 :: xs).toArray, ?_, by simpa using h1, h2.congr fun i _ => by simp⟩
    simp

/-! the blocks for deferred calls -/

theorem unowned_put {B : Nat} {ρ : Nat → Option Nat} {w : World} {d : Nat} {o o' : Obj} (hr : HRel (nm ρ H w)) (hB : B ≤ d) (hd : w.heap[d]? = some o) (hc : ∀ arr el fz, o ≠ .cells arr el fz) (ho : ¬ (nm ρ H w).Owned d) :
    Pres B ρ H w ρ H (put w d o') ∧ Ext (nm ρ H w) (nm ρ H (put w d o')) ∧ HRel (nm ρ H (put w d o')) := by
  have hx : Ext (nm ρ H w) (nm ρ H (put w d o')) := {
    len := Nat.le_refl _
    name := fun n _ h => ⟨h, rfl⟩
    keep := fun b arr el fz hb hob => by
      refine ⟨?_, hob⟩
      have : b ≠ d := by
        rintro rfl
        have hb' : w.heap[b]? = some (.cells arr el fz) := hb
        rw [hd] at hb'; cases hb'
        exact hc _ _ _ rfl
      exact (put_other this).trans hb
    room := fun b rr h => by
      have : b ≠ d := by
        rintro rfl
        have h' : room w.heap b = some rr := h
        unfold room at h'
        rw [hd] at h'
        cases o <;> simp at h'
        exact hc _ _ _ rfl
      have h' : room w.heap b = some rr := h
      show room (put w d o').heap b = some rr
      unfold room at h' ⊢
      rw [put_other this]; exact h' }
  refine ⟨{ size := by simp [put_size], os := rfl, tape := rfl, output := rfl, len := Nat.le_refl _, name := fun n _ h => ⟨h, rfl⟩, keep := fun b hb _ => put_other (by omega), out := fun b _ h => h, room := fun b rr hb h => hx.room b rr h }, hx, ?_⟩
  refine hrel_of hr hx (fun n cb hn hl => .inl ⟨(List.getElem?_eq_some_iff.1 hn).1, hn, fun p hp => put_other ?_⟩) hr.inj
  rintro rfl
  exact ho ⟨n, alive_of hn hl, hp⟩

theorem unwind_marks {b : Frame} {todo : List Item} {tmps : Array Value} {cs : List Frame} {B : Nat} {ρ : Nat → Option Nat} : ∀ (D : List Nat) (w : World), HRel (nm ρ H w) → DRel B ρ H w D →
    ∃ w', Steps P (lone { b.atR ⟨tmps, marks D⟩ todo with mode := .returning } cs w) (lone { b.atR ⟨tmps, []⟩ todo with mode := .returning } cs w') ∧ Pres B ρ H w ρ H w' ∧ Ext (nm ρ H w) (nm ρ H w') ∧ HRel (nm ρ H w')
  | [], w, hr, hd => ⟨w, Steps.refl _ _, Pres.refl _ _ _ _, Ext.refl _, hr⟩
  | d :: D, w, hr, hd => by
    obtain ⟨h1, h2, h3⟩ := hd.is d (by simp)
    obtain ⟨p1, p2, p3⟩ := unowned_put (o' := .deferred none) hr h1 h2 (by simp) h3
    have hd' : DRel B ρ H (put w d (.deferred none)) D := {
      nodup := (List.nodup_cons.1 hd.nodup).2
      is := fun e he => by
        obtain ⟨q1, q2, q3⟩ := hd.is e (by simp [he])
        have : e ≠ d := by rintro rfl; exact (List.nodup_cons.1 hd.nodup).1 he
        exact ⟨q1, (put_other this).trans q2, q3⟩ }
    obtain ⟨w', s1, s2, s3, s4⟩ := unwind_marks (b := b) (todo := todo) (tmps := tmps) (cs := cs) D _ p3 hd'
    refine ⟨w', ?_, p1.trans s2, p2.trans s3, s4⟩
    refine .head ?_ s1
    refine step_lone_go ?_
    have htk : (Instr.takeDeferred d).run P w = .ok [] (put w d (.deferred none)) := by
      simp [Instr.takeDeferred, getObj, setObj, Sem.run, h2, put]
    simp [stepG, unwind, Frame.atR, marks, Sem.runT_eq, htk]

theorem run_leave {p : Prop} {vs : List AVal} (hrd : c.rd = none) (hres : resA H r c.res = some (p, vs)) (hp : p) (hQ : Q (pack vs) H) {B : Nat} {ρ : Nat → Option Nat} {w : World} {tmps : Array Value} {D : List Nat} {b : Frame} {cs : List Frame} (hr : Real P c r H B ρ w tmps D b cs) (todo : List Item) :
    Goal P c Q B ρ H w cs (lone { b.atR ⟨tmps, marks D⟩ todo with mode := .returning } cs w) := by
  obtain ⟨w', h1, h2, h3, h4⟩ := unwind_marks (P := P) (b := b) (todo := todo) (tmps := tmps) (cs := cs) D w hr.heap hr.dfr
  obtain ⟨fn, f1, f2⟩ := hr.ctx hrd
  obtain ⟨v, g1, g2⟩ := results_all h4 (hr.regs.ext h3) f2 hres hp
  refine ⟨pack vs, H, ρ, v, w', _, hQ, h1, ?_, g2, h4, h2⟩
  unfold Ends
  rw [hrd]
  refine ⟨_, rfl, hr.fn, rfl, rfl, hr.kind, fn, ?_, g1⟩
  show P.funcs[b.fn]? = some fn
  rw [hr.fn]; exact f1

theorem run_end {p : Prop} {vs : List AVal} (hrd : c.rd = none) (hres : resA H r c.res = some (p, vs)) (hp : p) (hQ : Q (pack vs) H) : Run P c [] r H Q := by
  intro B ρ w tmps D b cs k' hr hl
  cases k' with
  | cons _ _ => simp [LowK] at hl
  | nil =>
    have hro : b.roundOf = none := by have := hr.rd; rw [hrd] at this; exact this
    exact (run_leave hrd hres hp hQ hr []).step (stepR_end hro)

theorem run_ret {p : Prop} {vs : List AVal} (hrd : c.rd = none) (hres : resA H r c.res = some (p, vs)) (hp : p) (hQ : Q (pack vs) H) : Run P c (.code .ret :: k) r H Q := by
  intro B ρ w tmps D b cs k' hr hl
  obtain ⟨cc, k2, rfl, hc, hl2⟩ := low_code hl
  cases cc <;> simp only [okCode] at hc <;> first | (cases hc; done) | skip
  have hro : b.roundOf = none := by have := hr.rd; rw [hrd] at this; exact this
  exact (run_leave hrd hres hp hQ hr _).step (stepR_ret hro)

end
end Go.Am

namespace Go.Am
open Go
set_option linter.unusedVariables false

section
variable {P : Program} {c : Ctx} {k : List AItem} {r : Regs} {H : AHeap} {Q : AVal → AHeap → Prop}

/-! ### Rounds -/

/-- The loop's record is written. -/
theorem setLoop_ok {ρ : Nat → Option Nat} {w : World} (hr : HRel (nm ρ H w)) {n l : Nat} {L : ALoop} (hn : H[n]? = some (.loop L)) (hl : VRel (nm ρ H w) (.yld n) (.func (.yield l) #[] #[])) :
    ∃ rl : Loop, w.heap[l]? = some (.loop rl) ∧ rl.state = L.state ∧ jumpOf L.pending rl.pending ∧
      ∀ (st : LoopState) (ap : Option AJump) (rp : Option Code), jumpOf ap rp →
        HRel (nm ρ (H.set n (.loop { L with state := st, pending := ap })) (put w l (.loop { rl with state := st, pending := rp }))) ∧
        Pres w.heap.size ρ H w ρ (H.set n (.loop { L with state := st, pending := ap })) (put w l (.loop { rl with state := st, pending := rp })) := by
  simp only [VRel] at hl
  obtain ⟨_, l', h0, hl⟩ := hl
  cases h0
  obtain ⟨b', rl, y1, y2, y3, y4, y5, y6, y7, y8, y9, y10⟩ := hr.blk n _ hn
  have hρ := hl (alive_of hn rfl)
  have : some l = some b' := by rw [← y1]; exact hρ.symm
  cases this
  have y2' : w.heap[l]? = some (.loop rl) := y2
  refine ⟨rl, y2', y3, y4, fun st ap rp hj => ?_⟩
  have hroom : ∀ r, room w.heap l = some r → ∃ arr el fz, (Obj.loop { rl with state := st, pending := rp }) = .cells arr el fz ∧ arr.size = r := by
    intro r h; unfold room at h; rw [y2'] at h; cases h
  have hp := pres_set (w := w) w.heap.size hn rfl hρ (.loop { rl with state := st, pending := rp }) (.loop { L with state := st, pending := ap }) hroom
  exact ⟨hrel_set hr hn rfl hρ _ _ hroom ⟨l, _, rfl, put_same (lt_of_some y2'), rfl, hj, y5, y6, y7.ext hp.ext, y8, y9, y10⟩, hp⟩

theorem round_real {n : Nat} (hrd : c.rd = some n) {B : Nat} {ρ : Nat → Option Nat} {w : World} {tmps : Array Value} {D : List Nat} {b : Frame} {cs : List Frame} (hr : Real P c r H B ρ w tmps D b cs) :
    ∃ l c0 cs', b.roundOf = some l ∧ VRel (nm ρ H w) (.yld n) (.func (.yield l) #[] #[]) ∧ cs = c0 :: cs' ∧ D = [] := by
  have := hr.rd
  rw [hrd] at this
  obtain ⟨l, h1, h2, h3, h4⟩ := this
  cases cs with
  | nil => exact absurd rfl h3
  | cons c0 cs' => exact ⟨l, c0, cs', h1, h2, rfl, h4⟩

theorem run_begin {n : Nat} {L : ALoop} (hrd : c.rd = some n) (hn : H[n]? = some (.loop L)) (hs : L.state = .ready) (h : Run P c k r (H.set n (.loop { L with state := .busy })) Q) : Run P c (.begin :: k) r H Q := by
  intro B ρ w tmps D b cs k' hr hl
  cases k' with
  | nil => simp [LowK] at hl
  | cons x k2 =>
    cases x <;> simp only [LowK] at hl <;> first | (exact hl.elim) | skip
    obtain ⟨l, c0, cs', hb, hy, rfl, rfl⟩ := round_real hrd hr
    obtain ⟨rl, g1, g2, g3, g4⟩ := setLoop_ok hr.heap hn hy
    obtain ⟨q1, q2⟩ := g4 .busy L.pending rl.pending g3
    have hrun : (Instr.beginRound l).run P w = .ok () (put w l (.loop { rl with state := .busy, pending := rl.pending })) := by
      have hst : rl.state = .ready := g2.trans hs
      simp [Instr.beginRound, Instr.getLoop, getObj, setObj, Sem.run, g1, hst, put]
    refine (h B ρ _ tmps [] b (c0 :: cs') k2 (hr.next q2 q1 rfl (hr.regs.ext q2.ext)) hl).steps (.one (stepR_beginRound hb hrun)) (q2.mono hr.le)

/-- A round ends: what is left behind, and what yield hands back. -/
theorem run_round {n : Nat} {L : ALoop} (hrd : c.rd = some n) (hn : H[n]? = some (.loop L)) {ap : Option AJump} (hQ : Q (.bool ap.isNone) (H.set n (.loop { L with state := if ap.isNone then .ready else .done, pending := ap })))
    (hk : (ap = none ∧ k = []) ∨ (ap = some .ret ∧ ∃ k2, k = .code .ret :: k2) ∨ (∃ id k2, ap = some (.exit id) ∧ k = .code (.exit id) :: k2 ∧ aexitTo id k2 = none)) : Run P c k r H Q := by
  intro B ρ w tmps D b cs k' hr hl
  obtain ⟨l, c0, cs', hb, hy, rfl, rfl⟩ := round_real hrd hr
  obtain ⟨rl, g1, g2, g3, g4⟩ := setLoop_ok hr.heap hn hy
  have hrun : ∀ rp : Option Code, (Instr.endRound l rp).run P w = .ok (.bool rp.isNone) (put w l (.loop { rl with state := if rp.isNone then .ready else .done, pending := rp })) := by
    intro rp
    simp [Instr.endRound, Instr.getLoop, getObj, setObj, Sem.run, g1, put]
  have fin : ∀ rp : Option Code, jumpOf ap rp → (∀ v w', (Instr.endRound l rp).run P w = .ok v w' → step P (lone (b.atR ⟨tmps, marks []⟩ k') (c0 :: cs') w) = .next (lone (c0.finish v) cs' w')) → Goal P c Q B ρ H w (c0 :: cs') (lone (b.atR ⟨tmps, marks []⟩ k') (c0 :: cs') w) := by
    intro rp hj hst
    have hiso : rp.isNone = ap.isNone := by
      cases ap with
      | none => cases rp with
        | none => rfl
        | some _ => exact hj.elim
      | some a => cases rp with
        | none => cases a <;> exact hj.elim
        | some _ => rfl
    obtain ⟨q1, q2⟩ := g4 (if ap.isNone then .ready else .done) ap rp hj
    have hr' := hrun rp
    rw [hiso] at hr'
    refine ⟨.bool ap.isNone, _, ρ, .bool ap.isNone, _, _, hQ, .one (hst _ _ hr'), ?_, by simp [VRel], q1, q2.mono hr.le⟩
    unfold Ends
    rw [hrd]
    exact ⟨c0, cs', rfl, rfl⟩
  rcases hk with ⟨rfl, rfl⟩ | ⟨rfl, k2, rfl⟩ | ⟨id, k2, rfl, rfl, hx⟩
  · cases k' with
    | cons _ _ => simp [LowK] at hl
    | nil => exact fin none trivial fun v w' h => stepR_round_end hb hr.kind h
  · obtain ⟨cc, k3, rfl, hc, hl2⟩ := low_code hl
    cases cc <;> simp only [okCode] at hc <;> first | (cases hc; done) | skip
    exact fin (some .ret) trivial fun v w' h => stepR_round_ret hb hr.kind h
  · obtain ⟨cc, k3, rfl, hc, hl2⟩ := low_code hl
    cases cc <;> simp only [okCode] at hc <;> first | (cases hc; done) | skip
    simp at hc; subst hc
    exact fin (some (.exit _)) rfl fun v w' h => stepR_round_exit hb hr.kind (exit_none hl2 hx) h

/-! ### A range over a function -/

/-- What is done behind the loop. -/
def jumpItems : Option AJump → List AItem
  | none => []
  | some .ret => [.code .ret]
  | some (.exit id) => [.code (.exit id)]

theorem jump_low {nt : Nat} {ap : Option AJump} {rp : Option Code} (hj : jumpOf ap rp) {k' : List Item} (h : LowK P nt k' k) : LowK P nt ((rp.map Item.code).toList ++ k') (jumpItems ap ++ k) := by
  cases ap with
  | none => cases rp with
    | none => simpa [jumpItems] using h
    | some _ => exact hj.elim
  | some a =>
    cases rp with
    | none => cases a <;> exact hj.elim
    | some cc =>
      cases a with
      | ret =>
        cases cc <;> first | exact hj.elim | skip
        simp only [jumpItems, Option.map_some, Option.toList_some, List.singleton_append]
        exact ⟨rfl, h⟩
      | exit id =>
        cases cc <;> first | exact hj.elim | skip
        simp only [jumpItems, Option.map_some, Option.toList_some, List.singleton_append]
        refine ⟨?_, h⟩
        simp only [jumpOf] at hj
        simp [okCode, hj]

theorem low_code_range {f : AOpd} {ps : List Nat} {as bd : ACode} {k' : List Item} {nt : Nat} (h : LowK P nt k' (.code (.range f ps as bd) :: k)) :
    ∃ (f' : Operand) (ps' : Array Nat) (as' bd' : Code) (k2 : List Item), k' = .code (.rangeFunc f' ps' as' bd') :: k2 ∧ cOpd f' f = true ∧ ps'.toList = ps ∧ (∀ p ∈ ps, p < nt) ∧ okCode P nt as' as = true ∧ okCode P nt bd' bd = true ∧ LowK P nt k2 k := by
  obtain ⟨cc, k2, rfl, hc, hl2⟩ := low_code h
  cases cc <;> simp only [okCode] at hc <;> first | (cases hc; done) | skip
  simp only [Bool.and_eq_true, decide_eq_true_eq, List.all_eq_true] at hc
  obtain ⟨⟨⟨⟨h1, h2⟩, h3⟩, h4⟩, h5⟩ := hc
  exact ⟨_, _, _, _, k2, rfl, h1, h2, h3, h4, h5, hl2⟩

theorem run_range {f : AOpd} {ps : List Nat} {as bd : ACode} {g : FuncId} {first captured : List AVal} (hf : geto r f = .fn g first captured) (hrd : ∀ n, c.rd = some n → ∃ L, H[n]? = some (.loop L))
    (h : ∀ as' bd', okCode P c.nt as' as = true → okCode P c.nt bd' bd = true → (∀ p ∈ ps, p < c.nt) →
      FunOK P g (first ++ [.yld H.length] ++ captured) (H ++ [.loop ⟨.ready, none, c.fn, c.nt, r, ps, as', bd'⟩]) fun av H' =>
        ∃ L, H'[H.length]? = some (.loop L) ∧ L.state ≠ .busy ∧ Run P c (jumpItems L.pending ++ k) r (H'.set H.length .dead) Q) :
    Run P c (.code (.range f ps as bd) :: k) r H Q := by
  intro B ρ w tmps D b cs k' hr hl
  obtain ⟨f', ps', as', bd', k2, rfl, c1, rfl, c3, c4, c5, hl2⟩ := low_code_range hl
  obtain ⟨hcb, h⟩ := h as' bd' c4 c5 c3
  have hfr := cOpd_rel c1 hr.regs
  rw [hf] at hfr
  simp only [VRel] at hfr
  obtain ⟨xs, ys, hfv, hx1, hy1, hx2, hy2⟩ := hfr
  -- the record is laid
  have lay : ∃ (l : Nat) (mark : List Deferred) (D' : List Nat) (w1 : World) (rl : Loop), (Instr.enterLoop b.fn tmps ps' as' bd' b.roundOf).run P w = .ok (l, mark) w1 ∧ mark ++ marks D = marks D' ∧
      w1.heap[l]? = some (.loop rl) ∧ Pres w.heap.size ρ H w (ρput ρ H.length (some l)) (H ++ [.loop ⟨.ready, none, c.fn, c.nt, r, ps'.toList, as', bd'⟩]) w1 ∧
      HRel (nm (ρput ρ H.length (some l)) (H ++ [.loop ⟨.ready, none, c.fn, c.nt, r, ps'.toList, as', bd'⟩]) w1) ∧ DRel B (ρput ρ H.length (some l)) (H ++ [.loop ⟨.ready, none, c.fn, c.nt, r, ps'.toList, as', bd'⟩]) w1 D' ∧ (c.rd = none ∨ D' = D) := by
    have core : ∀ (w0 : World) (dfs : Nat), HRel (nm ρ H w0) → RRel (nm ρ H w0) r tmps →
        HRel (nm (ρput ρ H.length (some w0.heap.size)) (H ++ [.loop ⟨.ready, none, c.fn, c.nt, r, ps'.toList, as', bd'⟩]) (w0.alloc (.loop { state := .ready, pending := none, fn := b.fn, tmps, params := ps', assign := as', body := bd', defers := dfs }))) := by
      intro w0 dfs hh hrr
      have hx := ext_new (ρ := ρ) (H := H) (w := w0) (.loop { state := .ready, pending := none, fn := b.fn, tmps, params := ps', assign := as', body := bd', defers := dfs }) (.loop ⟨.ready, none, c.fn, c.nt, r, ps'.toList, as', bd'⟩)
      exact hrel_new hh _ _ ⟨w0.heap.size, _, rfl, alloc_new, rfl, trivial, hr.fn, hr.nt, hrr.ext hx, rfl, rfl, rfl⟩
    cases hro : c.rd with
    | none =>
      have hb : b.roundOf = none := by have := hr.rd; rw [hro] at this; exact this
      have hg := pres_garbage (ρ := ρ) (H := H) w.heap.size (Nat.le_refl _) (Obj.deferred (some []))
      have hh1 : HRel (nm ρ H (w.alloc (.deferred (some [])))) := hrel_of hr.heap hg.ext (fun n cb hn hlv => .inl ⟨(List.getElem?_eq_some_iff.1 hn).1, hn, fun p hp => alloc_old (by
        have := hr.heap.lt ⟨n, alive_of hn hlv, hp⟩
        have : p < w.heap.size := this
        omega)⟩) hr.heap.inj
      have hp2 := pres_new (ρ := ρ) (H := H) (w := w.alloc (.deferred (some []))) (w.alloc (.deferred (some []))).heap.size (Nat.le_refl _) (.loop { state := .ready, pending := none, fn := b.fn, tmps, params := ps', assign := as', body := bd', defers := w.heap.size }) (.loop ⟨.ready, none, c.fn, c.nt, r, ps'.toList, as', bd'⟩)
      have hpp := hg.trans (hp2.mono hg.size)
      refine ⟨(w.alloc (.deferred (some []))).heap.size, [{ target := .collected w.heap.size, args := #[] }], w.heap.size :: D, _, _, ?_, rfl, alloc_new, hpp, core _ _ hh1 (hr.regs.ext hg.ext), ?_, .inl rfl⟩
      · rw [hb]; simp [Instr.enterLoop]
      · have hdp := hr.dfr.pres hpp
        refine ⟨List.nodup_cons.2 ⟨fun hm => ?_, hr.dfr.nodup⟩, fun d hd => ?_⟩
        · have := lt_of_some (hr.dfr.is _ hm).2.1; omega
        · rcases List.mem_cons.1 hd with rfl | hd
          · refine ⟨hr.le, ?_, ?_⟩
            · rw [alloc_old (by simp)]; exact alloc_new
            · rintro ⟨n, hn, hb'⟩
              rcases alive_push hn with rfl | ⟨hn1, hn2⟩
              · simp [nm, ρput] at hb'
              · have hne : n ≠ H.length := by omega
                simp only [nm, ρput, if_neg hne] at hb'
                have := hr.heap.lt ⟨n, hn2, hb'⟩
                have : w.heap.size < w.heap.size := this
                omega
          · exact hdp.is d hd
    | some n =>
      obtain ⟨l0, c0, cs', hb, hy, _, hD⟩ := round_real hro hr
      obtain ⟨L, hL⟩ := hrd n hro
      obtain ⟨rl0, g1, _⟩ := setLoop_ok hr.heap hL hy
      have hp2 := pres_new (ρ := ρ) (H := H) (w := w) w.heap.size (Nat.le_refl _) (.loop { state := .ready, pending := none, fn := b.fn, tmps, params := ps', assign := as', body := bd', defers := rl0.defers }) (.loop ⟨.ready, none, c.fn, c.nt, r, ps'.toList, as', bd'⟩)
      refine ⟨w.heap.size, [], D, _, _, ?_, rfl, alloc_new, hp2, core _ _ hr.heap hr.regs, hr.dfr.pres hp2, .inr rfl⟩
      rw [hb]
      simp [Instr.enterLoop, Instr.getLoop, getObj, Sem.run, g1]
  obtain ⟨l, mark, D', w1, rl, e1, e2, e3, e4, e5, e6, e7⟩ := lay
  have hyl : VRel (nm (ρput ρ H.length (some l)) (H ++ [.loop ⟨.ready, none, c.fn, c.nt, r, ps'.toList, as', bd'⟩]) w1) (.yld H.length) (.func (.yield l) #[] #[]) := by
    simp only [VRel]
    exact ⟨by simp [nm], l, rfl, fun _ => by simp [nm, ρput]⟩
  have hargs : VsRel (nm (ρput ρ H.length (some l)) (H ++ [.loop ⟨.ready, none, c.fn, c.nt, r, ps'.toList, as', bd'⟩]) w1) (first ++ [.yld H.length] ++ captured) (fun i => (xs ++ #[.func (.yield l) #[] #[]] ++ ys)[i]?) :=
    ((hx2.ext e4.ext).appendA hx1 (by simp only [VsRel]; exact ⟨⟨_, rfl, hyl⟩, trivial⟩)).appendA (by simp [hx1]) (hy2.ext e4.ext)
  obtain ⟨av, H', ρ', v, w', fr, q1, q2, q3, q4, q5, q6, q7⟩ := h _ (xs ++ #[.func (.yield l) #[] #[]] ++ ys) w1 (by simp [hx1, hy1]; omega) hargs e5 (b.atR ⟨tmps, marks D'⟩ (.inRangeFunc l :: k2) :: cs)
  obtain ⟨L, hL, hLs, hrun⟩ := q1
  have hyl' := hyl.ext q7.ext
  obtain ⟨rl', g1, g2, g3, g4⟩ := setLoop_ok q6 hL hyl'
  have hend : (Instr.endLoop l).run P w' = .ok rl'.pending (put w' l (.loop { rl' with state := .exhausted })) := by
    have hst : rl'.state ≠ .busy := by rw [g2]; exact hLs
    simp [Instr.endLoop, Instr.getLoop, getObj, setObj, Sem.run, g1, hst, put]
  obtain ⟨z1, z2⟩ := g4 .exhausted L.pending rl'.pending g3
  have hkl : (H'.set H.length (.loop { L with state := .exhausted, pending := L.pending })).set H.length .dead = H'.set H.length .dead := by simp
  have z3 := hrel_kill (n := H.length) z1
  have z4 := z2.trans ((pres_kill (ρ := ρ') (H := H'.set H.length (.loop { L with state := .exhausted, pending := L.pending })) (w := put w' l (.loop { rl' with state := .exhausted, pending := rl'.pending })) (put w' l (.loop { rl' with state := .exhausted, pending := rl'.pending })).heap.size (n := H.length)).mono z2.size)
  rw [hkl] at z3 z4
  have hall : Pres w.heap.size ρ H w ρ' (H'.set H.length .dead) (put w' l (.loop { rl' with state := .exhausted, pending := rl'.pending })) := e4.trans ((q7.mono e4.size).trans (z4.mono (Nat.le_trans e4.size q7.size)))
  have hdr : DRel B ρ' (H'.set H.length .dead) (put w' l (.loop { rl' with state := .exhausted, pending := rl'.pending })) D' := (e6.pres q7).pres z4
  have hreal : Real P c r (H'.set H.length .dead) B ρ' (put w' l (.loop { rl' with state := .exhausted, pending := rl'.pending })) tmps D' b cs := {
    le := Nat.le_trans hr.le hall.size
    nt := hr.nt
    regs := hr.regs.ext hall.ext
    heap := z3
    dfr := hdr
    rd := by
      have := hr.rd.ext hall.ext
      cases hro : c.rd with
      | none => rw [hro] at this; exact this
      | some n =>
        rw [hro] at this
        obtain ⟨l0, a1, a2, a3, a4⟩ := this
        refine ⟨l0, a1, a2, a3, ?_⟩
        rcases e7 with e7 | e7
        · rw [hro] at e7; cases e7
        · rw [e7]; exact a4
    fn := hr.fn
    kind := hr.kind
    ctx := hr.ctx }
  refine (hrun B ρ' _ tmps D' b cs ((rl'.pending.map Item.code).toList ++ k2) hreal (jump_low g3 hl2)).steps ?_ (hall.mono hr.le)
  have hres : (resolve (Act.mk tmps (marks D)).eval (rangeCall f' l) 0).run P w1 = .ok { target := .fn (.func g) ys, args := xs ++ #[.func (.yield l) #[] #[]] } w1 := by
    have hev : (Act.mk tmps (marks D)).eval f' = .func (.func g) xs ys := by rw [eval_act]; exact hfv
    have hevc : (Act.mk tmps (marks D)).eval (.const (.func (.yield l) #[] #[])) = .func (.yield l) #[] #[] := rfl
    simp [resolve, hev, hevc, Deferred.ofValue]
  have hinv : (invoke (Target.fn (.func g) ys) (xs ++ #[.func (.yield l) #[] #[]])).run P w1 = .ok (.enter g (xs ++ #[.func (.yield l) #[] #[]] ++ ys)) w1 := by
    simp only [invoke]
    exact run_callFunc hcb _ _
  have hstep := stepR_rangeFunc (P := P) (b := b) (a := ⟨tmps, marks D⟩) (k := k2) (cs := cs) (w := w) (g := f') (ps := ps') (assign := as') (body := bd') e1 hres hinv
  rw [e2] at hstep
  refine .head hstep (q2.trans (.head (step_leave_returned q3) ?_))
  rw [finish_atR_inRangeFunc]
  exact .one (stepR_endRangeFunc hend)

/-! ### A function, by its code -/

structure AFun where
  nt : Nat
  np : Nat
  res : List ARes
  body : ACode

/-- The function of the program is the one of the text. -/
def okFun (P : Program) (f : FuncId) (a : AFun) : Bool :=
  match P.funcs[f]? with
  | some fn => (match fn.body with
    | some cd => okCode P a.nt cd a.body && !(fn.name == "runtime.NumGoroutine") && fn.ntmps == a.nt && decide (a.np ≤ a.nt) && okRes P fn.results.toList a.res
    | none => false)
  | none => false

def argRegs : Nat → List AVal → Regs
  | _, [] => []
  | i, v :: vs => (i, v) :: argRegs (i + 1) vs

theorem argRegs_get : ∀ (vs : List AVal) (n i : Nat), rget (argRegs n vs) i = if n ≤ i then vs.getD (i - n) .junk else .junk
  | [], n, i => by simp [argRegs, rget]
  | v :: vs, n, i => by
    simp only [argRegs, rget]
    by_cases h : n = i
    · subst h; simp
    · rw [if_neg h, argRegs_get vs (n + 1) i]
      by_cases h2 : n ≤ i
      · rw [if_pos h2, if_pos (by omega)]
        rw [show i - n = (i - (n + 1)) + 1 from by omega]; simp
      · rw [if_neg h2, if_neg (by omega)]

theorem fun_of_run {f : FuncId} {a : AFun} (hf : okFun P f a = true) {args : List AVal} (hn : args.length = a.np) (h : Run P ⟨f, a.nt, a.res, none⟩ [.code a.body] (argRegs 0 args) H Q) : FunOK P f args H Q := by
  unfold okFun at hf
  cases hp : P.funcs[f]? with
  | none => simp [hp] at hf
  | some fn =>
    simp only [hp] at hf
    cases hb : fn.body with
    | none => simp [hb] at hf
    | some cd =>
      simp only [hb, Bool.and_eq_true, Bool.not_eq_true', beq_iff_eq, decide_eq_true_eq] at hf
      obtain ⟨⟨⟨⟨h1, h2⟩, h3⟩, h4⟩, h5⟩ := hf
      refine ⟨⟨fn, cd, hp, hb, h2⟩, fun ρ vs w hl hv hh cs => ?_⟩
      let b : Frame := { (default : Frame) with fn := f, kind := .normal, roundOf := none }
      have henter : Frame.enter P f vs .normal = b.atR ⟨vs ++ Array.replicate (fn.ntmps - vs.size) undef, marks []⟩ [.code cd] := by
        simp [Frame.enter, Frame.atR, hp, hb, b, marks]
      have hreal : Real P ⟨f, a.nt, a.res, none⟩ (argRegs 0 args) H w.heap.size ρ w (vs ++ Array.replicate (fn.ntmps - vs.size) undef) [] b cs := {
        le := Nat.le_refl _
        nt := by simp; omega
        regs := fun i => by
          rw [argRegs_get]
          simp only [Nat.zero_le, if_true, Nat.sub_zero]
          by_cases hi : i < args.length
          · rw [vsRel_iff] at hv
            obtain ⟨v, g1, g2⟩ := hv i hi
            have : (vs ++ Array.replicate (fn.ntmps - vs.size) undef).getD i undef = v := by
              rw [Array.getD_eq_getD_getElem?, Array.getElem?_append_left (by omega), g1]; rfl
            rw [this]
            rw [List.getD_eq_getElem?_getD, List.getElem?_eq_getElem hi]; exact g2
          · rw [List.getD_eq_getElem?_getD, List.getElem?_eq_none (by omega)]; simp [VRel]
        heap := hh
        dfr := ⟨List.nodup_nil, fun d hd => by simp at hd⟩
        rd := rfl
        fn := rfl
        kind := rfl
        ctx := fun _ => ⟨fn, hp, h5⟩ }
      obtain ⟨av, H', ρ', v, w', m', q1, q2, q3, q4, q5, q6⟩ := h w.heap.size ρ w _ [] b cs [.code cd] hreal ⟨h1, trivial⟩
      obtain ⟨fr, rfl, q7, q8⟩ := q3
      rw [← henter] at q2
      exact ⟨av, H', ρ', v, w', fr, q1, q2, q8, q7, q4, q5, q6⟩

end
end Go.Am

namespace Go.Am
open Go
set_option linter.unusedVariables false

/-! ### Regions that draw their order -/

theorem fillParts_congr {g g' : AOpd → AVal} : ∀ (ps : List (Nat × Nat × AOpd)) (cs : List AVal), (∀ q ∈ ps, g q.2.2 = g' q.2.2) → fillParts g cs ps = fillParts g' cs ps
  | [], cs, _ => rfl
  | (o, s, x) :: ps, cs, h => by
    have hx : g x = g' x := h (o, s, x) (by simp)
    simp only [fillParts, hx]
    rw [fillParts_congr ps _ fun q hq => h q (by simp [hq])]

theorem opdInt_congr {g g' : AOpd → AVal} : ∀ (x : Option AOpd), (∀ y ∈ x.toList, g y = g' y) → opdInt g x = opdInt g' x
  | none, _ => rfl
  | some x, h => by simp only [opdInt, h x (by simp)]

theorem eval_congr {g g' : AOpd → AVal} {H : AHeap} {ao : AOp} (h : ∀ x ∈ ao.opds, g x = g' x) : evalOp g H ao = evalOp g' H ao := by
  cases ao <;> simp only [AOp.opds, List.mem_cons, List.not_mem_nil, or_false, forall_eq_or_imp, forall_eq] at h <;> simp only [evalOp]
  case mov => rw [h]
  case pick => rw [h.1, h.2.1, h.2.2]
  case box => rw [h]
  case build => rw [fillParts_congr _ _ fun q hq => h _ (List.mem_map.2 ⟨q, hq, rfl⟩)]
  case lit => rw [fillParts_congr _ _ fun q hq => h _ (List.mem_map.2 ⟨q, hq, rfl⟩)]
  case load => rw [h]
  case store => rw [h.1, h.2]
  case bin => rw [h.1, h.2]
  case eq => rw [h.1, h.2]
  case un => rw [h]
  case conv => rw [h]
  case nilc => rw [h]
  case field => rw [h]
  case idx => rw [h.1, h.2]
  case sidx => rw [h.1, h.2]
  case slice =>
    obtain ⟨h0, h⟩ := h
    rw [opdInt_congr _ fun y hy => h y (by simp at hy ⊢; simp [hy]), opdInt_congr _ fun y hy => h y (by simp at hy ⊢; simp [hy]), opdInt_congr _ fun y hy => h y (by simp at hy ⊢; simp [hy]), h0]
  case toArr => rw [h]
  case len => rw [h]
  case maxmin => rw [h.1, h.2]
  case extract => rw [h]
  case mkfn f a b =>
    rw [List.map_congr_left fun x hx => h x (by simp [hx]), List.map_congr_left (l := b) fun x hx => h x (by simp [hx])]
  case append => rw [h.1, h.2]
  case mkslice => rw [h.1, h.2]
  case lookup => rw [h.1, h.2]
  case mapset => rw [h.1, h.2.1, h.2.2]
  case mapdel => rw [h.1, h.2]
  case s2b => rw [h]
  case minN xs => rw [List.map_congr_left fun x hx => h x hx]
  case b2s => rw [h]
  case mark => rw [h]

theorem eval_noneff {g : AOpd → AVal} {H H1 : AHeap} {ao : AOp} {p : Prop} {v : AVal} (he : isEff ao = false) (h : evalOp g H ao = .ok p v H1) : H1 = H := by
  cases ao <;> simp only [isEff] at he <;> first | (cases he; done) | skip
  all_goals
    simp only [evalOp] at h
    repeat' (first | (cases h; rfl; done) | (cases h; done) | split at h)

theorem eval_pure {g : AOpd → AVal} {H H1 : AHeap} {ao : AOp} {p : Prop} {v : AVal} (he : isPure ao = true) (h : evalOp g H ao = .ok p v H1) : ∀ H2, evalOp g H2 ao = .ok p v H2 := by
  intro H2
  cases ao <;> simp only [isPure] at he <;> first | (cases he; done) | skip
  case idx sz arr x i =>
    cases arr with
    | none => cases he
    | some n =>
      simp only [evalOp] at h ⊢
      repeat' (first | (cases h; rfl; done) | (cases h; done) | (split at h <;> simp_all))
  case len k x =>
    cases k with
    | map => simp at he
    | _ =>
      simp only [evalOp] at h ⊢
      repeat' (first | (cases h; rfl; done) | (cases h; done) | (split at h <;> simp_all))
  case slice sz k x a b d =>
    cases k with
    | array n => simp at he
    | _ =>
      simp only [evalOp] at h ⊢
      repeat' (first | (cases h; rfl; done) | (cases h; done) | (split at h <;> simp_all))
  all_goals
    simp only [evalOp] at h ⊢
    repeat' (first | (cases h; rfl; done) | (cases h; done) | (split at h <;> simp_all))



/-- A list that takes up all that is not done, each behind what it waits for. -/
def Lin (n : Nat) (bef : List (List Nat)) (done : List Nat) : List Nat → Prop
  | [] => ∀ i, i < n → i ∈ done
  | i :: is => i < n ∧ i ∉ done ∧ (∀ j ∈ befAt bef i, j ∈ done) ∧ Lin n bef (i :: done) is

/-- The edges of the operations, in words. -/
structure Edges (ops : Array Oper) (n : Nat) (bef : List (List Nat)) : Prop where
  size : ops.size = n
  back : ∀ i, i < n → ∃ o, ops[i]? = some o ∧ (∀ e ∈ o.after, Region.binds .any e = true → e.on < i) ∧
    ∀ j ∈ befAt bef i, ∃ e ∈ o.after, Region.binds .any e = true ∧ (e.on = j ∨ j ∈ befAt bef e.on)

theorem lin_go {ops : Array Oper} {n : Nat} {bef : List (List Nat)} (he : Edges ops n bef) : ∀ (fuel t : Nat) (listed : Array Bool) (done : List Nat),
    listed.size = n → listed.toList.count false ≤ fuel → (∀ i, i < n → (listed.getD i true = true ↔ i ∈ done)) → (∀ i ∈ done, i < n ∧ ∀ j ∈ befAt bef i, j ∈ done) →
    Lin n bef done (Region.linearise.go .any ops fuel t listed [])
  | 0, t, listed, done, hs, hc, hd, _ => by
    simp only [Region.linearise.go, List.reverse_nil, Lin]
    intro i hi
    refine (hd i hi).1 ?_
    have : listed.toList.count false = 0 := by omega
    rw [List.count_eq_zero] at this
    have hi' : i < listed.size := by omega
    simp only [Array.getD, hi', dite_true]
    cases hh : listed.getInternal i hi' with
    | true => rfl
    | false => exact absurd (by rw [← hh]; exact Array.mem_toList_iff.2 (Array.getElem_mem _)) this
  | fuel + 1, t, listed, done, hs, hc, hd, hcl => by
    simp only [Region.linearise.go]
    change Lin n bef done (match (Region.ready .any ops listed)[t % (Region.ready .any ops listed).length]? with
      | some i => Region.linearise.go .any ops fuel (t / (Region.ready .any ops listed).length) (listed.setIfInBounds i true) [i]
      | none => [].reverse)
    have hready : ∀ i, i ∈ Region.ready .any ops listed ↔ i < n ∧ i ∉ done ∧ ∃ o, ops[i]? = some o ∧ ∀ e ∈ o.after, Region.binds .any e = true → listed.getD e.on false = true := by
      intro i
      simp only [Region.ready, List.mem_filter, List.mem_range, he.size, Bool.and_eq_true, Bool.not_eq_true']
      constructor
      · rintro ⟨h1, h2, h3⟩
        refine ⟨h1, fun hm => ?_, ?_⟩
        · rw [(hd i h1).2 hm] at h2; cases h2
        · obtain ⟨o, ho, _⟩ := he.back i h1
          refine ⟨o, ho, fun e hm hb => ?_⟩
          simp only [ho, Option.map_some, Option.getD_some] at h3
          rw [← Array.all_toList, List.all_eq_true] at h3
          have := h3 e (by simpa using hm)
          simpa [hb] using this
      · rintro ⟨h1, h2, o, ho, h3⟩
        refine ⟨h1, ?_, ?_⟩
        · cases hh : listed.getD i true with
          | false => rfl
          | true => exact absurd ((hd i h1).1 hh) h2
        · simp only [ho, Option.map_some, Option.getD_some]
          rw [← Array.all_toList, List.all_eq_true]
          intro e hm
          by_cases hb : Region.binds .any e = true
          · simp [hb, h3 e (by simpa using hm) hb]
          · simp [hb]
    have hgd : ∀ j, listed.getD j false = true → j < n ∧ j ∈ done := by
      intro j hj
      by_cases hlt : j < listed.size
      · have : listed.getD j true = true := by simpa [Array.getD, hlt] using hj
        exact ⟨by omega, (hd j (by omega)).1 this⟩
      · simp [Array.getD, hlt] at hj
    have hgd' : ∀ j, j < n → j ∈ done → listed.getD j false = true := by
      intro j hj hm
      have := (hd j hj).2 hm
      have hlt : j < listed.size := by omega
      simpa [Array.getD, hlt] using this
    cases hi : (Region.ready .any ops listed)[t % (Region.ready .any ops listed).length]? with
    | none =>
      have hnil : Region.ready .any ops listed = [] := by
        cases hr : Region.ready .any ops listed with
        | nil => rfl
        | cons x xs =>
          rw [hr] at hi
          have hlt : t % (x :: xs).length < (x :: xs).length := Nat.mod_lt _ (by simp)
          simp at hi
          simp at hlt
          omega
      simp only [List.reverse_nil, Lin]
      intro i
      induction i using Nat.strongRecOn with
      | _ i ih =>
        intro hlt
        refine Classical.byContradiction fun hn => ?_
        obtain ⟨o, ho, h1, h2⟩ := he.back i hlt
        have : i ∈ Region.ready .any ops listed := (hready i).2 ⟨hlt, hn, o, ho, fun e hm hb => hgd' _ (Nat.lt_trans (h1 e hm hb) hlt) (ih e.on (h1 e hm hb) (Nat.lt_trans (h1 e hm hb) hlt))⟩
        rw [hnil] at this; cases this
    | some i =>
      simp only []
      rw [linearise_go_acc, List.reverse_singleton, List.singleton_append]
      have hir := List.mem_of_getElem? hi
      obtain ⟨g1, g2, o, g3, g4⟩ := (hready i).1 hir
      obtain ⟨o', ho', h1, h2⟩ := he.back i g1
      rw [g3] at ho'; cases ho'
      have hbef : ∀ j ∈ befAt bef i, j ∈ done := by
        intro j hj
        obtain ⟨e, hm, hb, hor⟩ := h2 j hj
        obtain ⟨q1, q2⟩ := hgd e.on (g4 e hm hb)
        rcases hor with rfl | hor
        · exact q2
        · exact (hcl _ q2).2 j hor
      refine ⟨g1, g2, hbef, lin_go he fuel _ _ (i :: done) (by simpa using hs) ?_ ?_ ?_⟩
      · have hlt : i < listed.toList.length := by simpa [hs] using g1
        have hf : listed.toList[i] = false := by
          cases hh : listed.toList[i] with
          | false => rfl
          | true =>
            have hlt' : i < listed.size := by simpa using hlt
            refine absurd ((hd i g1).1 ?_) g2
            simp only [Array.getD, hlt', dite_true]
            simpa using hh
        rw [Array.toList_setIfInBounds, List.count_set hlt]
        simp only [hf, beq_self_eq_true, if_true, show ((true == false) = true) = False by simp, if_false, Nat.add_zero]
        omega
      · intro j hj
        by_cases hij : i = j
        · subst hij
          have hlt : i < listed.size := by omega
          simp [Array.getD, hlt]
        · have := hd j hj
          have hlt : j < listed.size := by omega
          simp only [Array.getD, Array.size_setIfInBounds, hlt, dite_true, List.mem_cons] at this ⊢
          rw [show (listed.setIfInBounds i true).getInternal j (by simpa using hlt) = listed.getInternal j hlt from by
            exact Array.getElem_setIfInBounds_ne hlt hij]
          simp only [Ne.symm hij, false_or]; exact this
      · intro j hj
        rcases List.mem_cons.1 hj with rfl | hj
        · exact ⟨g1, fun x hx => List.mem_cons_of_mem _ (hbef x hx)⟩
        · exact ⟨(hcl j hj).1, fun x hx => List.mem_cons_of_mem _ ((hcl j hj).2 x hx)⟩

theorem lin_all {ops : Array Oper} {n : Nat} {bef : List (List Nat)} (he : Edges ops n bef) (t : Nat) : Lin n bef [] (Region.linearise .any ops t) := by
  unfold Region.linearise
  refine lin_go he _ _ _ _ (by simp [he.size]) (by simp) ?_ (by simp)
  intro i hi
  have : i < ops.size := by rw [he.size]; exact hi
  simp [Array.getD, this]


def prune (live : List Nat) (r : Regs) : Regs := live.map fun i => (i, rget r i)

theorem prune_get (r : Regs) : ∀ (live : List Nat) (i : Nat), rget (prune live r) i = .junk ∨ rget (prune live r) i = rget r i
  | [], i => .inl rfl
  | j :: live, i => by
    simp only [prune, List.map_cons, rget]
    by_cases h : j = i
    · subst h; rw [if_pos rfl]; exact .inr rfl
    · rw [if_neg h]; exact prune_get r live i

/-! ### The one order that stands for many -/

abbrev Log := List (Nat × (AHeap → Prop))

def logAt : Log → Nat → Option (AHeap → Prop)
  | [], _ => none
  | (j, φ) :: l, i => if j = i then some φ else logAt l i

/-- What was read stays so. -/
def recheck (e : Nat) (log : Log) (H : AHeap) : List (Nat × Nat) → Prop
  | [] => True
  | (e', j) :: chk => (e' = e → ((logAt log j).getD fun _ => True) H) ∧ recheck e log H chk

theorem recheck_at {e : Nat} {log : Log} {H : AHeap} : ∀ {chk : List (Nat × Nat)}, recheck e log H chk → ∀ j, (e, j) ∈ chk → ((logAt log j).getD fun _ => True) H
  | [], _, j, h => by cases h
  | (e', j') :: chk, hr, j, h => by
    rcases List.mem_cons.1 h with h | h
    · cases h; exact hr.1 rfl
    · exact recheck_at hr.2 j h

def Again (r : Regs) (op : AOp) (v : AVal) (H : AHeap) : Prop := ∃ p, evalOp (geto r) H op = .ok p v H ∧ p

def logAdd (chk : List (Nat × Nat)) (i : Nat) (r : Regs) (op : AOp) (v : AVal) (log : Log) : Log :=
  if chk.any (fun q => q.2 == i) then (i, Again r op v) :: log else log

/-- The operations in the order of the list. -/
def D (P : Program) (as : List AOper) (chk : List (Nat × Nat)) (K : Regs → AHeap → Prop) : List Nat → Log → Regs → AHeap → Prop
  | [], log, r, H => K r H
  | i :: is, log, r, H => ∃ o, as[i]? = some o ∧ ∃ b, wants r o.guard = some b ∧ (b = false → D P as chk K is log (rput o.dst (.tup []) r) H) ∧ (b = true → (match o.op with
    | .call f args => CallV P (geto r f) (args.map (geto r)) H fun av H' => recheck i log H' chk ∧ D P as chk K is log (rput o.dst av r) H'
    | op => ∃ p v H', evalOp (geto r) H op = .ok p v H' ∧ p ∧ (isEff op = true → recheck i log H' chk) ∧ D P as chk K is (if isEff op then log else logAdd chk i r op v log) (rput o.dst v r) H'))

structure DrawOk (as : List AOper) (n : Nat) (bef : List (List Nat)) (chk : List (Nat × Nat)) : Prop where
  len : as.length = n
  dst : ∀ i j d, i < n → j < n → i ≠ j → dstAt as j = some d → dstAt as i ≠ some d
  uses : ∀ i j d, i < n → j < n → i ≠ j → dstAt as j = some d → d ∈ usesAt as i → j ∈ befAt bef i ∨ i ∈ befAt bef j
  chk : ∀ e j, e < n → j < n → effAt as e = true → effAt as j = false → pureAt as j = false → j ∉ befAt bef e → e ∉ befAt bef j → (e, j) ∈ chk

theorem okDraw_inv {ops : Array Oper} {as : List AOper} {bef : List (List Nat)} {scheds : List (List Nat)} {chk : List (Nat × Nat)} (h : okDraw ops as bef scheds chk = true) :
    Edges ops as.length bef ∧ DrawOk as as.length bef chk ∧ (∀ s ∈ scheds, okSched as bef [] s = true) ∧
    ∀ o ∈ effOrders bef as.length ((List.range as.length).filter (effAt as)), ∃ s ∈ scheds, s.filter (effAt as) = o := by
  unfold okDraw at h
  simp only [Bool.and_eq_true, decide_eq_true_eq, List.all_eq_true, List.mem_range] at h
  obtain ⟨⟨⟨⟨⟨h1, h2⟩, h3⟩, h4⟩, h5⟩, h6⟩ := h
  refine ⟨⟨h1, fun i hi => ?_⟩, ⟨rfl, fun i j d hi hj hij hd he => ?_, fun i j d hi hj hij hd hu => ?_, fun e j he hj ha hb hc hd he' => ?_⟩, h4, fun o ho => ?_⟩
  · have := h2 i hi
    cases ho : ops[i]? with
    | none => simp [ho] at this
    | some o =>
      simp only [ho, Bool.and_eq_true] at this
      obtain ⟨q1, q2⟩ := this
      rw [← Array.all_toList, List.all_eq_true] at q1
      rw [List.all_eq_true] at q2
      refine ⟨o, rfl, fun e he hb => ?_, fun j hj => ?_⟩
      · have := q1 e (by simpa using he)
        simpa [hb] using this
      · have := q2 j hj
        simp only [Bool.and_eq_true, decide_eq_true_eq] at this
        obtain ⟨_, q3⟩ := this
        rw [← Array.any_toList, List.any_eq_true] at q3
        obtain ⟨e, g1, g2⟩ := q3
        simp only [Bool.and_eq_true, Bool.or_eq_true, beq_iff_eq, List.contains_iff_mem] at g2
        exact ⟨e, by simpa using g1, g2.1, g2.2⟩
  · have := h3 i hi j hj
    simp [hij, hd] at this
    exact this.1 he
  · have := h3 i hi j hj
    simp [hij, hd] at this
    rcases this.2 with h | h
    · rcases h with h | h
      · exact absurd hu h
      · exact .inl h
    · exact .inr h
  · have := h6 e he
    simp [ha] at this
    have := this j hj
    simp [hb, hc, hd, he'] at this
    exact this
  · have := h5 o ho
    rw [List.any_eq_true] at this
    obtain ⟨s, hs, h⟩ := this
    exact ⟨s, hs, by simpa using h⟩

/-- The effects come in one of the orders. -/
theorem eff_order {as : List AOper} {bef : List (List Nat)} {n : Nat} : ∀ (L done rem : List Nat) (k : Nat), Lin n bef done L → (∀ i, i ∈ rem ↔ i < n ∧ effAt as i = true ∧ i ∉ done) → rem.length ≤ k →
    L.filter (effAt as) ∈ effOrders bef k rem
  | [], done, rem, k, hl, hr, hk => by
    have hrem : rem = [] := by
      cases rem with
      | nil => rfl
      | cons x xs =>
        obtain ⟨h1, _, h3⟩ := (hr x).1 (by simp)
        exact absurd (hl x h1) h3
    subst hrem
    cases k <;> simp [effOrders]
  | i :: L, done, rem, k, hl, hr, hk => by
    obtain ⟨h1, h2, h3, h4⟩ := hl
    cases he : effAt as i with
    | false =>
      rw [List.filter_cons_of_neg (by simp [he])]
      refine eff_order L (i :: done) rem k h4 (fun j => ?_) hk
      rw [hr j]
      constructor
      · rintro ⟨a, b, c⟩
        refine ⟨a, b, fun hm => ?_⟩
        rcases List.mem_cons.1 hm with rfl | hm
        · rw [he] at b; cases b
        · exact c hm
      · rintro ⟨a, b, c⟩
        exact ⟨a, b, fun hm => c (List.mem_cons_of_mem _ hm)⟩
    | true =>
      rw [List.filter_cons_of_pos he]
      have hi : i ∈ rem := (hr i).2 ⟨h1, he, h2⟩
      cases k with
      | zero => have : rem = [] := List.length_eq_zero_iff.1 (by omega); subst this; cases hi
      | succ k =>
        have hne : rem ≠ [] := by intro h; subst h; cases hi
        simp only [effOrders, if_neg hne, List.mem_flatMap, List.mem_filter]
        refine ⟨i, ⟨hi, ?_⟩, List.mem_map.2 ⟨_, eff_order L (i :: done) _ k h4 (fun j => ?_) ?_, rfl⟩⟩
        · rw [List.all_eq_true]
          intro j hj
          have := (hr j).1 hj
          simp only [Bool.not_eq_true', ← Bool.not_eq_true, List.contains_iff_mem]
          intro hm
          exact this.2.2 (h3 j hm)
        · simp only [List.mem_filter, hr j, List.mem_cons, not_or, bne_iff_ne, ne_eq]
          constructor
          · rintro ⟨⟨a, b, c⟩, d⟩; exact ⟨a, b, d, c⟩
          · rintro ⟨a, b, d, c⟩; exact ⟨⟨a, b, c⟩, d⟩
        · have : (rem.filter (· != i)).length < rem.length := by
            refine Nat.lt_of_le_of_ne (List.length_filter_le _ _) fun h => ?_
            have := List.length_filter_eq_length_iff.1 h i hi
            simp at this
          omega

def Closed (bef : List (List Nat)) (X : List Nat) : Prop := ∀ i ∈ X, ∀ j ∈ befAt bef i, j ∈ X

/-- The registers once the operations of X are done. -/
structure RegIs (as : List AOper) (r0 : Regs) (val : Nat → AVal) (X : List Nat) (r : Regs) : Prop where
  wr : ∀ i ∈ X, ∀ t, dstAt as i = some t → rget r t = val i
  un : ∀ t, (∀ i ∈ X, dstAt as i ≠ some t) → rget r t = rget r0 t

theorem rget_put {dst : Option Nat} {v : AVal} {r : Regs} {t : Nat} : rget (rput dst v r) t = if dst = some t then v else rget r t := by
  cases dst with
  | none => simp [rput]
  | some d => simp [rput, rget]

theorem RegIs.put {as : List AOper} {r0 : Regs} {val val' : Nat → AVal} {X : List Nat} {r : Regs} (h : RegIs as r0 val X r) {n i : Nat} {bef : List (List Nat)} {chk : List (Nat × Nat)} (hok : DrawOk as n bef chk) (hi : i < n) (hX : ∀ j ∈ X, j < n) (hn : i ∉ X)
    {v : AVal} (hv : ∀ j, j ≠ i → val' j = val j) (hvi : val' i = v) : RegIs as r0 val' (i :: X) (rput (dstAt as i) v r) where
  wr j hj t ht := by
    rw [rget_put]
    by_cases hij : j = i
    · subst hij; rw [if_pos ht, hvi]
    · have hj' : j ∈ X := by rcases List.mem_cons.1 hj with h | h; exact absurd h hij; exact h
      rw [if_neg (hok.dst i j t hi (hX j hj') (Ne.symm hij) ht), hv j hij]
      exact h.wr j hj' t ht
  un t ht := by
    rw [rget_put, if_neg (ht i (by simp))]
    exact h.un t fun j hj => ht j (List.mem_cons_of_mem _ hj)

theorem RegIs.val {as : List AOper} {r0 : Regs} {val val' : Nat → AVal} {X : List Nat} {r : Regs} (h : RegIs as r0 val X r) (hv : ∀ j ∈ X, val' j = val j) : RegIs as r0 val' X r where
  wr j hj t ht := by rw [hv j hj]; exact h.wr j hj t ht
  un := h.un

theorem RegIs.agree {as : List AOper} {r0 : Regs} {val : Nat → AVal} {X Y : List Nat} {r r' : Regs} (h : RegIs as r0 val X r) (h' : RegIs as r0 val Y r') {n i : Nat} {bef : List (List Nat)} {chk : List (Nat × Nat)} (hok : DrawOk as n bef chk) (hi : i < n)
    (hX : ∀ j ∈ X, j < n) (hY : ∀ j ∈ Y, j < n) (cX : Closed bef X) (cY : Closed bef Y) (nX : i ∉ X) (nY : i ∉ Y) (bX : ∀ j ∈ befAt bef i, j ∈ X) (bY : ∀ j ∈ befAt bef i, j ∈ Y) {t : Nat} (ht : t ∈ usesAt as i) : rget r t = rget r' t := by
  by_cases hw : ∃ j, j ∈ befAt bef i ∧ dstAt as j = some t
  · obtain ⟨j, hj, hd⟩ := hw
    rw [h.wr j (bX j hj) t hd, h'.wr j (bY j hj) t hd]
  · have key : ∀ Z : List Nat, (∀ j ∈ Z, j < n) → Closed bef Z → i ∉ Z → ∀ j ∈ Z, dstAt as j ≠ some t := by
      intro Z hZ cZ nZ j hj hd
      have hne : i ≠ j := by intro he; subst he; exact nZ hj
      rcases hok.uses i j t hi (hZ j hj) hne hd ht with h1 | h1
      · exact hw ⟨j, h1, hd⟩
      · exact nZ (cZ j hj i h1)
    rw [h.un t (key X hX cX nX), h'.un t (key Y hY cY nY)]

section
variable {P : Program} {c : Ctx} {k : List AItem} {Q : AVal → AHeap → Prop} {as : List AOper} {n : Nat} {bef : List (List Nat)} {chk : List (Nat × Nat)} {r0 : Regs} {K : Regs → AHeap → Prop}

structure LogOk (as : List AOper) (n : Nat) (bef : List (List Nat)) (chk : List (Nat × Nat)) (r0 : Regs) (val : Nat → AVal) (C : List Nat) (log : Log) (H : AHeap) (i : Nat) (o : AOper) (Ci : List Nat) (ri : Regs) : Prop where
  at_ : as[i]? = some o
  reg : RegIs as r0 val Ci ri
  cl : Closed bef Ci
  nin : i ∉ Ci
  bf : ∀ j ∈ befAt bef i, j ∈ Ci
  sub : ∀ j ∈ Ci, j ∈ C
  out : (wants ri o.guard = some false ∧ val i = .tup []) ∨ (wants ri o.guard = some true ∧ isEff o.op = false ∧ Again ri o.op (val i) H ∧ (isPure o.op = true ∨ ((∃ e, (e, i) ∈ chk) → logAt log i = some (Again ri o.op (val i)))))

structure Inv (as : List AOper) (n : Nat) (bef : List (List Nat)) (chk : List (Nat × Nat)) (r0 : Regs) (S C : List Nat) (rr rc : Regs) (log : Log) (val : Nat → AVal) (H : AHeap) : Prop where
  sub : ∀ i ∈ S, i ∈ C
  cs : Closed bef S
  cc : Closed bef C
  lt : ∀ i ∈ C, i < n
  rr : RegIs as r0 val S rr
  rc : RegIs as r0 val C rc
  log : ∀ i ∈ C, i ∉ S → ∃ o Ci ri, LogOk as n bef chk r0 val C log H i o Ci ri
  eff : ∀ e ∈ C, effAt as e = true → e ∈ S

theorem okSched_cons {C : List Nat} {i : Nat} {is : List Nat} (h : okSched as bef C (i :: is) = true) : i < as.length ∧ i ∉ C ∧ (∀ j ∈ befAt bef i, j ∈ C) ∧ (effAt as i = false → ∀ e, C.find? (effAt as) = some e → e ∈ befAt bef i) ∧ okSched as bef (i :: C) is = true := by
  simp only [okSched, Bool.and_eq_true, decide_eq_true_eq] at h
  obtain ⟨⟨⟨⟨h1, h2⟩, h3⟩, h4⟩, h5⟩ := h
  refine ⟨h1, ?_, ?_, ?_, h5⟩
  · simpa using h2
  · rw [List.all_eq_true] at h3; intro j hj; simpa using h3 j hj
  · intro he e hee
    simp only [he, Bool.false_or, hee] at h4
    simpa using h4

theorem okSched_all : ∀ {is C : List Nat}, okSched as bef C is = true → ∀ i, i < as.length → i ∈ C ∨ i ∈ is
  | [], C, h, i, hi => by
    simp only [okSched, List.all_eq_true, List.mem_range] at h
    exact .inl (by simpa using h i hi)
  | j :: is, C, h, i, hi => by
    obtain ⟨_, _, _, _, h5⟩ := okSched_cons h
    rcases okSched_all h5 i hi with h | h
    · rcases List.mem_cons.1 h with rfl | h
      · exact .inr (by simp)
      · exact .inl h
    · exact .inr (List.mem_cons_of_mem _ h)

theorem okSched_eager {C0 : List Nat} {i : Nat} (hne : effAt as i = false) : ∀ {is X : List Nat}, okSched as bef (X ++ C0) is = true → (∃ x ∈ X, effAt as x = true) → (∀ x ∈ X, x ∉ C0) → i ∈ is → ∃ e ∈ befAt bef i, e ∉ C0
  | [], X, h, _, _, hi => by cases hi
  | j :: is, X, h, hx, hd, hi => by
    obtain ⟨_, h2, _, h4, h5⟩ := okSched_cons h
    by_cases hij : i = j
    · subst hij
      cases hf : X.find? (effAt as) with
      | none =>
        rw [List.find?_eq_none] at hf
        obtain ⟨x, hx1, hx2⟩ := hx
        exact absurd hx2 (hf x hx1)
      | some e =>
        have : (X ++ C0).find? (effAt as) = some e := by rw [List.find?_append, hf]; rfl
        exact ⟨e, h4 hne e this, hd e (List.mem_of_find?_eq_some hf)⟩
    · have hi' : i ∈ is := by rcases List.mem_cons.1 hi with h | h; exact absurd h hij; exact h
      refine okSched_eager hne (X := j :: X) (by simpa using h5) ?_ ?_ hi'
      · obtain ⟨x, hx1, hx2⟩ := hx
        exact ⟨x, List.mem_cons_of_mem _ hx1, hx2⟩
      · intro x hxm
        rcases List.mem_cons.1 hxm with rfl | hxm
        · exact fun hh => h2 (List.mem_append_right _ hh)
        · exact hd x hxm

theorem D_cons {i : Nat} {is : List Nat} {log : Log} {r : Regs} {H : AHeap} {o : AOper} (ho : as[i]? = some o) (h : D P as chk K (i :: is) log r H) :
    (wants r o.guard = some false ∧ D P as chk K is log (rput o.dst (.tup []) r) H) ∨
    (wants r o.guard = some true ∧ ((∃ f args, o.op = .call f args ∧ CallV P (geto r f) (args.map (geto r)) H fun av H' => recheck i log H' chk ∧ D P as chk K is log (rput o.dst av r) H') ∨
      ((∀ f args, o.op ≠ .call f args) ∧ ∃ p v H', evalOp (geto r) H o.op = .ok p v H' ∧ p ∧ (isEff o.op = true → recheck i log H' chk) ∧ D P as chk K is (if isEff o.op then log else logAdd chk i r o.op v log) (rput o.dst v r) H'))) := by
  simp only [D] at h
  obtain ⟨o', ho', b, hb, h1, h2⟩ := h
  rw [ho] at ho'; cases ho'
  cases b with
  | false => exact .inl ⟨hb, h1 rfl⟩
  | true =>
    refine .inr ⟨hb, ?_⟩
    have h2 := h2 rfl
    obtain ⟨dst, op, gd⟩ := o
    cases op with
    | call f args => exact .inl ⟨f, args, rfl, h2⟩
    | _ => exact .inr ⟨fun f args hh => by simp at hh, h2⟩

theorem dstAt_of {i : Nat} {o : AOper} (ho : as[i]? = some o) : dstAt as i = o.dst := by simp [dstAt, ho]
theorem effAt_of {i : Nat} {o : AOper} (ho : as[i]? = some o) : effAt as i = isEff o.op := by simp [effAt, ho]
theorem pureAt_of {i : Nat} {o : AOper} (ho : as[i]? = some o) : pureAt as i = isPure o.op := by simp [pureAt, ho]

/-- What is looked at alike comes out alike. -/
theorem same_wants {i : Nat} {o : AOper} (ho : as[i]? = some o) {r r' : Regs} (h : ∀ t ∈ usesAt as i, rget r t = rget r' t) : wants r o.guard = wants r' o.guard := by
  cases hg : o.guard with
  | none => rfl
  | some q =>
    obtain ⟨t, w⟩ := q
    have := h t (by simp [usesAt, ho, AOper.uses, hg])
    simp only [wants, this]

theorem same_opds {i : Nat} {o : AOper} (ho : as[i]? = some o) {r r' : Regs} (h : ∀ t ∈ usesAt as i, rget r t = rget r' t) : ∀ x ∈ o.op.opds, geto r x = geto r' x := by
  intro x hx
  cases x with
  | const v => rfl
  | tmp t =>
    refine h t ?_
    simp only [usesAt, ho, Option.map_some, Option.getD_some, AOper.uses, List.mem_append, List.mem_flatMap]
    exact .inl ⟨_, hx, by simp [opdSlot]⟩

theorem logAdd_other {i j : Nat} {r : Regs} {op : AOp} {v : AVal} {log : Log} (h : i ≠ j) : logAt (logAdd chk i r op v log) j = logAt log j := by
  unfold logAdd; split
  · simp [logAt, h]
  · rfl

/-- The one order goes on, up to i. -/
theorem advance (hok : DrawOk as n bef chk) {S : List Nat} {rr : Regs} {H : AHeap} {i : Nat} {L : List Nat} (hi : i < n) (hb : ∀ j ∈ befAt bef i, j ∈ S) : ∀ (is C : List Nat) (rc : Regs) (log : Log) (val : Nat → AVal),
    Inv as n bef chk r0 S C rr rc log val H → okSched as bef C is = true → i ∉ C → (i :: L).filter (effAt as) = is.filter (effAt as) → D P as chk K is log rc H →
    ∃ C' rc' log' val' is', Inv as n bef chk r0 S C' rr rc' log' val' H ∧ okSched as bef C' (i :: is') = true ∧ (i :: L).filter (effAt as) = (i :: is').filter (effAt as) ∧ D P as chk K (i :: is') log' rc' H
  | [], C, rc, log, val, inv, hs, hn, hf, hd => by
    rcases okSched_all hs i (by rw [hok.len]; exact hi) with h | h
    · exact absurd h hn
    · cases h
  | j :: is, C, rc, log, val, inv, hs, hn, hf, hd => by
    by_cases hij : i = j
    · subst hij; exact ⟨C, rc, log, val, is, inv, hs, hf, hd⟩
    · obtain ⟨g1, g2, g3, g4, g5⟩ := okSched_cons hs
      have hnc : i ∉ j :: C := by simp [hij, hn]
      have hne : effAt as j = false := by
        cases he : effAt as j with
        | false => rfl
        | true =>
          cases hie : effAt as i with
          | true =>
            rw [List.filter_cons_of_pos hie, List.filter_cons_of_pos he] at hf
            exact absurd (List.cons.inj hf).1 hij
          | false =>
            rcases okSched_all g5 i (by rw [hok.len]; exact hi) with h | h
            · exact absurd h hnc
            · obtain ⟨e, q1, q2⟩ := okSched_eager hie (X := [j]) (C0 := C) (by simpa using g5) ⟨j, by simp, he⟩ (fun x hx => by simp at hx; subst hx; exact g2) h
              exact absurd (inv.sub e (hb e q1)) q2
      have hf' : (i :: L).filter (effAt as) = is.filter (effAt as) := by
        rw [hf, List.filter_cons_of_neg (by simp [hne])]
      have hjn : j < n := by rw [← hok.len]; exact g1
      obtain ⟨o, ho⟩ : ∃ o, as[j]? = some o := ⟨as[j], by simp [g1]⟩
      have hoe : isEff o.op = false := by rw [← effAt_of ho]; exact hne
      have hcj : j ∉ S := fun h => g2 (inv.sub j h)
      -- the state behind j
      have next : ∀ (v : AVal) (log' : Log), (∀ x, x ≠ j → logAt log' x = logAt log x) → ((wants rc o.guard = some false ∧ v = .tup []) ∨ (wants rc o.guard = some true ∧ isEff o.op = false ∧ Again rc o.op v H ∧ (isPure o.op = true ∨ ((∃ e, (e, j) ∈ chk) → logAt log' j = some (Again rc o.op v))))) →
          Inv as n bef chk r0 S (j :: C) rr (rput o.dst v rc) log' (fun x => if x = j then v else val x) H := by
        intro v log' hl ho'
        have hvC : ∀ x ∈ C, (fun x => if x = j then v else val x) x = val x := by
          intro x hx
          have : x ≠ j := by intro h; subst h; exact g2 hx
          simp [this]
        exact {
          sub := fun x hx => List.mem_cons_of_mem _ (inv.sub x hx)
          cs := inv.cs
          cc := fun x hx y hy => by
            rcases List.mem_cons.1 hx with rfl | hx
            · exact List.mem_cons_of_mem _ (g3 y hy)
            · exact List.mem_cons_of_mem _ (inv.cc x hx y hy)
          lt := fun x hx => by
            rcases List.mem_cons.1 hx with rfl | hx
            · exact hjn
            · exact inv.lt x hx
          rr := inv.rr.val fun x hx => hvC x (inv.sub x hx)
          rc := by
            rw [← dstAt_of ho]
            exact inv.rc.put hok hjn inv.lt g2 (fun x hx => by simp [hx]) (by simp)
          log := fun x hx hxs => by
            by_cases hxj : x = j
            · subst hxj
              refine ⟨o, C, rc, ho, inv.rc.val hvC, inv.cc, g2, g3, fun y hy => List.mem_cons_of_mem _ hy, ?_⟩
              simpa using ho'
            · have hxc : x ∈ C := by rcases List.mem_cons.1 hx with h | h; exact absurd h hxj; exact h
              obtain ⟨ox, Cx, rx, lk⟩ := inv.log x hxc hxs
              refine ⟨ox, Cx, rx, lk.at_, lk.reg.val fun y hy => hvC y (lk.sub y hy), lk.cl, lk.nin, lk.bf, fun y hy => List.mem_cons_of_mem _ (lk.sub y hy), ?_⟩
              simp only [hxj, if_false, hl x hxj]
              exact lk.out
          eff := fun e he hee => by
            rcases List.mem_cons.1 he with rfl | he
            · rw [hne] at hee; cases hee
            · exact inv.eff e he hee }
      rcases D_cons ho hd with ⟨q1, q2⟩ | ⟨q1, ⟨f, args, q2, _⟩ | ⟨q2, p, v, H', q3, q4, q5, q6⟩⟩
      · exact advance hok hi hb is (j :: C) _ log _ (next (.tup []) log (fun _ _ => rfl) (.inl ⟨q1, rfl⟩)) g5 hnc hf' q2
      · rw [q2] at hoe; cases hoe
      · have hH := eval_noneff hoe q3
        subst hH
        simp only [hoe, Bool.false_eq_true, if_false] at q6
        refine advance hok hi hb is (j :: C) _ _ _ (next v (logAdd chk j rc o.op v log) (fun x hx => logAdd_other (Ne.symm hx)) (.inr ⟨q1, hoe, ⟨p, q3, q4⟩, .inr fun hex => ?_⟩)) g5 hnc hf' q6
        obtain ⟨e, hm⟩ := hex
        unfold logAdd
        rw [if_pos (List.any_eq_true.2 ⟨_, hm, by simp⟩)]
        simp [logAt]

/-- The heap has changed at i: what was read ahead of it stays so. -/
theorem log_moves (hok : DrawOk as n bef chk) {S C : List Nat} {rr rc : Regs} {log : Log} {val : Nat → AVal} {H H' : AHeap} {i : Nat} (hi : i < n) (hb : ∀ j ∈ befAt bef i, j ∈ S) (he : effAt as i = true) (hnc : i ∉ C)
    (inv : Inv as n bef chk r0 S C rr rc log val H) (hr : recheck i log H' chk) : ∀ j ∈ C, j ∉ S → ∃ o Cj rj, LogOk as n bef chk r0 val C log H' j o Cj rj := by
  intro j hj hjs
  obtain ⟨o, Cj, rj, lk⟩ := inv.log j hj hjs
  refine ⟨o, Cj, rj, lk.at_, lk.reg, lk.cl, lk.nin, lk.bf, lk.sub, ?_⟩
  rcases lk.out with h | ⟨h1, h2, h3, h4⟩
  · exact .inl h
  · refine .inr ⟨h1, h2, ?_, h4⟩
    by_cases hp : isPure o.op = true
    · obtain ⟨p, q1, q2⟩ := h3
      exact ⟨p, eval_pure hp q1 H', q2⟩
    · rcases h4 with h4 | h4
      · exact absurd h4 hp
      · have hm := hok.chk i j hi (inv.lt j hj) he (by rw [effAt_of lk.at_]; exact h2) (by rw [pureAt_of lk.at_]; simpa using hp) (fun h => hjs (hb j h)) (fun h => hnc (inv.cc j hj i h))
        have := recheck_at hr j hm
        rw [h4 ⟨i, hm⟩] at this
        exact this

/-- Both do i. -/
theorem Inv.both (hok : DrawOk as n bef chk) {S C : List Nat} {rr rc : Regs} {log log' : Log} {val : Nat → AVal} {H H' : AHeap} {i : Nat} (hi : i < n) (hb : ∀ j ∈ befAt bef i, j ∈ S) (hnc : i ∉ C) (inv : Inv as n bef chk r0 S C rr rc log val H)
    (hl : ∀ j ∈ C, j ∉ S → ∃ o Cj rj, LogOk as n bef chk r0 val C log H' j o Cj rj) (hlog : ∀ x, x ≠ i → logAt log' x = logAt log x) (v : AVal) :
    Inv as n bef chk r0 (i :: S) (i :: C) (rput (dstAt as i) v rr) (rput (dstAt as i) v rc) log' (fun x => if x = i then v else val x) H' := by
  have hns : i ∉ S := fun h => hnc (inv.sub i h)
  have hvC : ∀ x ∈ C, (fun x => if x = i then v else val x) x = val x := by
    intro x hx
    have : x ≠ i := by intro h; subst h; exact hnc hx
    simp [this]
  exact {
    sub := fun x hx => by
      rcases List.mem_cons.1 hx with rfl | hx
      · simp
      · exact List.mem_cons_of_mem _ (inv.sub x hx)
    cs := fun x hx y hy => by
      rcases List.mem_cons.1 hx with rfl | hx
      · exact List.mem_cons_of_mem _ (hb y hy)
      · exact List.mem_cons_of_mem _ (inv.cs x hx y hy)
    cc := fun x hx y hy => by
      rcases List.mem_cons.1 hx with rfl | hx
      · exact List.mem_cons_of_mem _ (inv.sub y (hb y hy))
      · exact List.mem_cons_of_mem _ (inv.cc x hx y hy)
    lt := fun x hx => by
      rcases List.mem_cons.1 hx with rfl | hx
      · exact hi
      · exact inv.lt x hx
    rr := inv.rr.put hok hi (fun x hx => inv.lt x (inv.sub x hx)) hns (fun x hx => by simp [hx]) (by simp)
    rc := inv.rc.put hok hi inv.lt hnc (fun x hx => by simp [hx]) (by simp)
    log := fun x hx hxs => by
      simp only [List.mem_cons, not_or] at hxs
      have hxc : x ∈ C := by rcases List.mem_cons.1 hx with h | h; exact absurd h hxs.1; exact h
      obtain ⟨ox, Cx, rx, lk⟩ := hl x hxc hxs.2
      refine ⟨ox, Cx, rx, lk.at_, lk.reg.val fun y hy => hvC y (lk.sub y hy), lk.cl, lk.nin, lk.bf, fun y hy => List.mem_cons_of_mem _ (lk.sub y hy), ?_⟩
      simp only [hxs.1, if_false, hlog x hxs.1]
      exact lk.out
    eff := fun e he hee => by
      rcases List.mem_cons.1 he with rfl | he
      · simp
      · exact List.mem_cons_of_mem _ (inv.eff e he hee) }

theorem draw_main (hok : DrawOk as n bef chk) {live : List Nat} (hK : ∀ r H, K r H → Run P c k (prune live r) H Q) : ∀ (L S : List Nat) (rr : Regs) (is C : List Nat) (rc : Regs) (log : Log) (val : Nat → AVal) (H : AHeap),
    Lin n bef S L → okSched as bef C is = true → L.filter (effAt as) = is.filter (effAt as) → Inv as n bef chk r0 S C rr rc log val H → D P as chk K is log rc H →
    RunO P c (L.filterMap fun i => as[i]?) k rr H Q
  | [], S, rr, is, C, rc, log, val, H, hl, hs, hf, inv, hd => by
    have his : is = [] := by
      cases is with
      | nil => rfl
      | cons i is =>
        obtain ⟨g1, g2, _⟩ := okSched_cons hs
        exact absurd (inv.sub i (hl i (by rw [← hok.len]; exact g1))) g2
    subst his
    simp only [D] at hd
    refine runO_nil (run_weak (r' := prune live rc) (fun t => ?_) (hK _ _ hd))
    have heq : rget rc t = rget rr t := by
      by_cases hw : ∃ j, j ∈ C ∧ dstAt as j = some t
      · obtain ⟨j, hj, hdj⟩ := hw
        rw [inv.rc.wr j hj t hdj, inv.rr.wr j (hl j (inv.lt j hj)) t hdj]
      · rw [inv.rc.un t fun j hj hh => hw ⟨j, hj, hh⟩, inv.rr.un t fun j hj hh => hw ⟨j, inv.sub j hj, hh⟩]
    rcases prune_get rc live t with h | h
    · exact .inl h
    · exact .inr (h.trans heq)
  | i :: L, S, rr, is, C, rc, log, val, H, hl, hs, hf, inv, hd => by
    obtain ⟨hi, hns, hb, hl'⟩ := hl
    have hia : i < as.length := by rw [hok.len]; exact hi
    obtain ⟨o, ho⟩ : ∃ o, as[i]? = some o := ⟨as[i], by simp [hia]⟩
    simp only [List.filterMap_cons, ho]
    by_cases hic : i ∈ C
    · -- it was done
      have hne : effAt as i = false := by
        cases he : effAt as i with
        | false => rfl
        | true => exact absurd (inv.eff i hic he) hns
      obtain ⟨o', Ci, ri, lk⟩ := inv.log i hic hns
      have := lk.at_; rw [ho] at this; cases this
      have hag : ∀ t ∈ usesAt as i, rget rr t = rget ri t := fun t ht =>
        inv.rr.agree lk.reg hok hi (fun x hx => inv.lt x (inv.sub x hx)) (fun x hx => inv.lt x (lk.sub x hx)) inv.cs lk.cl hns lk.nin hb lk.bf ht
      have inv' : Inv as n bef chk r0 (i :: S) C (rput o.dst (val i) rr) rc log val H := {
        inv with
        sub := fun x hx => by
          rcases List.mem_cons.1 hx with rfl | hx
          · exact hic
          · exact inv.sub x hx
        cs := fun x hx y hy => by
          rcases List.mem_cons.1 hx with rfl | hx
          · exact List.mem_cons_of_mem _ (hb y hy)
          · exact List.mem_cons_of_mem _ (inv.cs x hx y hy)
        rr := by
          rw [← dstAt_of ho]
          exact inv.rr.put hok hi (fun x hx => inv.lt x (inv.sub x hx)) hns (fun _ _ => rfl) rfl
        log := fun x hx hxs => inv.log x hx fun h => hxs (List.mem_cons_of_mem _ h)
        eff := fun e he hee => List.mem_cons_of_mem _ (inv.eff e he hee) }
      have rec_ := draw_main hok hK L (i :: S) _ is C rc log val H hl' hs (by rw [← hf, List.filter_cons_of_neg (by simp [hne])]) inv' hd
      rcases lk.out with ⟨h1, h2⟩ | ⟨h1, h2, ⟨p, h3, h3'⟩, h4⟩
      · rw [h2] at rec_
        exact runO_skip (by rw [same_wants ho hag]; exact h1) rec_
      · exact runO_op (by rw [same_wants ho hag]; exact h1) (by rw [eval_congr (same_opds ho hag)]; exact h3) h3' rec_
    · -- it is done now
      obtain ⟨C', rc', log', val', is', inv', hs', hf', hd'⟩ := advance hok hi hb is C rc log val inv hs hic hf hd
      obtain ⟨g1, g2, g3, g4, g5⟩ := okSched_cons hs'
      have hff : L.filter (effAt as) = is'.filter (effAt as) := by
        by_cases he : effAt as i = true
        · rw [List.filter_cons_of_pos he, List.filter_cons_of_pos he] at hf'
          exact (List.cons.inj hf').2
        · rwa [List.filter_cons_of_neg he, List.filter_cons_of_neg he] at hf'
      have hag : ∀ t ∈ usesAt as i, rget rr t = rget rc' t := fun t ht =>
        inv'.rr.agree inv'.rc hok hi (fun x hx => inv'.lt x (inv'.sub x hx)) inv'.lt inv'.cs inv'.cc hns g2 hb g3 ht
      have go : ∀ v log'' H', (∀ x, x ≠ i → logAt log'' x = logAt log' x) → (∀ j ∈ C', j ∉ S → ∃ o Cj rj, LogOk as n bef chk r0 val' C' log' H' j o Cj rj) → D P as chk K is' log'' (rput o.dst v rc') H' →
          RunO P c (L.filterMap fun i => as[i]?) k (rput o.dst v rr) H' Q := by
        intro v log'' H' h1 h2 h3
        have := inv'.both hok hi hb g2 h2 h1 v
        rw [dstAt_of ho] at this
        exact draw_main hok hK L (i :: S) _ is' (i :: C') _ log'' _ H' hl' g5 hff this h3
      rcases D_cons ho hd' with ⟨q1, q2⟩ | ⟨q1, ⟨f, args, q2, q3⟩ | ⟨q2, p, v, H', q3, q4, q5, q6⟩⟩
      · exact runO_skip (by rw [same_wants ho hag]; exact q1) (go (.tup []) log' H (fun _ _ => rfl) inv'.log q2)
      · have hops := same_opds ho hag
        rw [q2] at hops
        simp only [AOp.opds, List.mem_cons, forall_eq_or_imp] at hops
        refine runO_call q2 (by rw [same_wants ho hag]; exact q1) ?_
        rw [hops.1, List.map_congr_left hops.2]
        refine CallV.mono q3 fun av H' h => ?_
        exact go av log' H' (fun _ _ => rfl) (log_moves hok hi hb (by rw [effAt_of ho, q2]; rfl) g2 inv' h.1) h.2
      · refine runO_op (by rw [same_wants ho hag]; exact q1) (by rw [eval_congr (same_opds ho hag)]; exact q3) q4 ?_
        by_cases he : isEff o.op = true
        · simp only [he, if_true] at q6
          exact go v log' H' (fun _ _ => rfl) (log_moves hok hi hb (by rw [effAt_of ho]; exact he) g2 inv' (q5 he)) q6
        · have he' : isEff o.op = false := by simpa using he
          have hH := eval_noneff he' q3
          subst hH
          simp only [he', Bool.false_eq_true, if_false] at q6
          exact go v _ H' (fun x hx => logAdd_other (Ne.symm hx)) inv'.log q6

theorem opsRel_pick {nt : Nat} {ops : Array Oper} : ∀ (os : List Oper) (as : List AOper) (m : Nat), okOps P nt ops os as = true → (∀ j (hj : j < os.length), ops[m + j]? = some os[j]) →
    ∀ i, m ≤ i → i < m + as.length → ∃ o a, ops[i]? = some o ∧ as[i - m]? = some a ∧ okOper P nt ops o a = true
  | [], [], m, _, _, i, h1, h2 => by simp at h2; omega
  | [], _ :: _, m, h, _, _, _, _ => by simp [okOps] at h
  | _ :: _, [], m, h, _, _, _, _ => by simp [okOps] at h
  | o :: os, a :: as, m, h, hj, i, h1, h2 => by
    simp only [okOps, Bool.and_eq_true] at h
    by_cases hi : i = m
    · subst hi
      have := hj 0 (by simp)
      simp only [Nat.add_zero, List.getElem_cons_zero] at this
      exact ⟨o, a, this, by simp, h.1⟩
    · obtain ⟨o', a', q1, q2, q3⟩ := opsRel_pick os as (m + 1) h.2 (fun j hj' => by
        have := hj (j + 1) (by simpa using hj')
        simp only [List.getElem_cons_succ] at this
        rw [show m + 1 + j = m + (j + 1) from by omega]; exact this) i (by omega) (by simp at h2; omega)
      refine ⟨o', a', q1, ?_, q3⟩
      rw [show i - m = (i - (m + 1)) + 1 from by omega, List.getElem?_cons_succ]; exact q2

theorem opsRel_list {nt : Nat} {ops : Array Oper} {as : List AOper} (h : okOps P nt ops ops.toList as = true) : ∀ (L : List Nat), (∀ i ∈ L, i < as.length) → OpsRel P nt ops L (L.filterMap fun i => as[i]?)
  | [], _ => trivial
  | i :: L, hL => by
    obtain ⟨o, a, q1, q2, q3⟩ := opsRel_pick ops.toList as 0 h (fun j hj => by simp) i (Nat.zero_le _) (by simpa using hL i (by simp))
    rw [Nat.sub_zero] at q2
    simp only [List.filterMap_cons, q2]
    exact ⟨⟨o, q1, q3⟩, opsRel_list h L fun j hj => hL j (List.mem_cons_of_mem _ hj)⟩

theorem lin_lt : ∀ {L done : List Nat}, Lin n bef done L → ∀ i ∈ L, i < n
  | [], _, _, i, h => by cases h
  | j :: L, done, hl, i, h => by
    rcases List.mem_cons.1 h with rfl | h
    · exact hl.1
    · exact lin_lt hl.2.2.2 i h

theorem run_draw {scheds : List (List Nat)} {live : List Nat} {r : Regs} {H : AHeap} (hK : ∀ r H, K r H → Run P c k (prune live r) H Q) (h : ∀ s ∈ scheds, D P as chk K s [] r H) : Run P c (.code (.draw as bef scheds chk live) :: k) r H Q := by
  intro B ρ w tmps D' b cs k' hr hl
  obtain ⟨cc, k2, rfl, hc, hl2⟩ := low_code hl
  obtain ⟨id, rops, rfl, hc2⟩ : ∃ id rops, cc = .region id rops true ∧ (P.follows .mixedOrders && okOps P c.nt rops rops.toList as && okDraw rops as bef scheds chk) = true := by
    cases cc with
    | region id rops draw =>
      cases draw
      · simp [okCode] at hc
      · exact ⟨id, rops, rfl, hc⟩
    | _ => simp [okCode] at hc
  simp only [Bool.and_eq_true] at hc2
  obtain ⟨⟨hm, hops⟩, hdr⟩ := hc2
  obtain ⟨e1, e2, e3, e4⟩ := okDraw_inv hdr
  have hstep := stepR_region_draw (P := P) (b := b) (a := ⟨tmps, marks D'⟩) (k := k2) (cs := cs) (w := w) (ops := rops) (id := id)
  have hsch : ∀ t, Region.schedule (P.follows .mixedOrders) rops t = Region.linearise .any rops t := fun t => by simp [Region.schedule, hm]
  rw [hsch] at hstep
  generalize w.tape w.drawn (.order b.fn id) = t at hstep
  have hlin := lin_all e1 t
  obtain ⟨s, hs, hsf⟩ := e4 _ (eff_order (as := as) _ _ _ as.length hlin (fun i => by simp) (by
    refine Nat.le_trans (List.length_filter_le _ _) (by simp)))
  have inv : Inv as as.length bef chk r [] [] r r [] (fun _ => .junk) H := {
    sub := fun _ h => h
    cs := fun _ h => by cases h
    cc := fun _ h => by cases h
    lt := fun _ h => by cases h
    rr := ⟨(fun _ h => by cases h), fun _ _ => rfl⟩
    rc := ⟨(fun _ h => by cases h), fun _ _ => rfl⟩
    log := fun _ h => by cases h
    eff := fun _ h => by cases h }
  have hrun := draw_main (c := c) (k := k) (Q := Q) e2 hK _ [] r s [] r [] _ H hlin (e3 s hs) hsf.symm inv (h s hs)
  have hp : Pres w.heap.size ρ H w ρ H w.drew := pres_drew _
  have hreal : Real P c r H B ρ w.drew tmps D' b cs := hr.next hp (hrel_drew hr.heap) rfl (hr.regs.ext hp.ext)
  exact (hrun B ρ w.drew tmps D' b cs k2 rops _ hreal hl2 (opsRel_list hops _ (lin_lt hlin))).steps (.one hstep) (pres_drew B)


end

end Go.Am

namespace Go.Am
open Go
set_option linter.unusedVariables false

/-! ### The evaluator -/

/-- The rest of a region, with what is live behind it. -/
def RunL (P : Program) (c : Ctx) (os : List AOper) (live : List Nat) (k T : List AItem) (r : Regs) (H : AHeap) (Q : AVal → AHeap → Prop) : Prop := RunO P c os (k ++ T) r H Q

/-- A loop, about to begin a round. -/
def Rounds (P : Program) (c : Ctx) (b : ACode) (k T : List AItem) (r : Regs) (H : AHeap) (Q : AVal → AHeap → Prop) : Prop := Run P c (.code b :: .inLoop b :: (k ++ T)) r H Q

/-- A jump further out. -/
def Exit (P : Program) (c : Ctx) (id : Nat) (T : List AItem) (r : Regs) (H : AHeap) (Q : AVal → AHeap → Prop) : Prop :=
  (∃ k1, aexitTo id T = some k1 ∧ Run P c k1 r H Q) ∨ (aexitTo id T = none ∧ ∃ n L, c.rd = some n ∧ H[n]? = some (.loop L) ∧ Q (.bool false) (H.set n (.loop { L with state := .done, pending := some (.exit id) })))

/-- A call in a region; behind it the region goes on. -/
def CallK (P : Program) (c : Ctx) (fv : AVal) (args : List AVal) (dst : Option Nat) (os : List AOper) (live : List Nat) (k T : List AItem) (r : Regs) (H : AHeap) (Q : AVal → AHeap → Prop) : Prop :=
  CallV P fv args H fun av H' => RunL P c os live k T (rput dst av r) H' Q

/-- A drawn region, from one of its operations on. -/
def RunD (P : Program) (c : Ctx) (as : List AOper) (chk : List (Nat × Nat)) (live : List Nat) (k T : List AItem) (Q : AVal → AHeap → Prop) (is : List Nat) (log : Log) (r : Regs) (H : AHeap) : Prop :=
  D P as chk (fun r H => Run P c (k ++ T) (prune live r) H Q) is log r H

/-- A call in a drawn region. -/
def CallD (P : Program) (c : Ctx) (fv : AVal) (args : List AVal) (i : Nat) (dst : Option Nat) (as : List AOper) (chk : List (Nat × Nat)) (live : List Nat) (k T : List AItem) (Q : AVal → AHeap → Prop) (is : List Nat) (log : Log) (r : Regs) (H : AHeap) : Prop :=
  CallV P fv args H fun av H' => recheck i log H' chk ∧ RunD P c as chk live k T Q is log (rput dst av r) H'

structure DS where
  as : List AOper
  chk : List (Nat × Nat)
  live : List Nat
  k : List AItem

inductive Mode where
  | draws (d : DS) (ss : List (List Nat)) (r : Regs) (H : AHeap)
  | draw (d : DS) (is : List Nat) (log : Log) (r : Regs) (H : AHeap)
  | todo (k : List AItem) (r : Regs) (H : AHeap)
  | ops (os : List AOper) (live : List Nat) (k : List AItem) (r : Regs) (H : AHeap)

def Sem' (P : Program) (c : Ctx) (Q : AVal → AHeap → Prop) (T : List AItem) : Mode → Prop
  | .draws d ss r H => ∀ s ∈ ss, RunD P c d.as d.chk d.live d.k T Q s [] r H
  | .draw d is log r H => RunD P c d.as d.chk d.live d.k T Q is log r H
  | .todo k r H => Run P c (k ++ T) r H Q
  | .ops os live k r H => RunL P c os live k T r H Q

def ResK (K : Mode → Prop) : Res → Option Nat → List AOper → List Nat → List AItem → Regs → Prop
  | .ok p v H, dst, os, live, k, r => p ∧ K (.ops os live k (rput dst v r) H)
  | .bad, _, _, _, _, _ => False

def GoK (P : Program) (c : Ctx) (Q : AVal → AHeap → Prop) (T : List AItem) (K : Mode → Prop) : Option Bool → AOper → List AOper → List Nat → List AItem → Regs → AHeap → Prop
  | some false, o, os, live, k, r, H => K (.ops os live k (rput o.dst (.tup []) r) H)
  | some true, ⟨dst, op, _⟩, os, live, k, r, H => (match op with
    | .call f args => CallK P c (geto r f) (args.map (geto r)) dst os live k T r H Q
    | op => ResK K (evalOp (geto r) H op) dst os live k r)
  | none, _, _, _, _, _, _ => False

def BranchK (K : Mode → Prop) : AVal → ACode → ACode → List AItem → Regs → AHeap → Prop
  | .bool true, x, _, k, r, H => K (.todo (.code x :: k) r H)
  | .bool false, _, y, k, r, H => K (.todo (.code y :: k) r H)
  | _, _, _, _, _, _ => False

def LeaveK (Q : AVal → AHeap → Prop) : Option (Prop × List AVal) → AHeap → Prop
  | some (p, vs), H => p ∧ Q (pack vs) H
  | none, _ => False

def JumpK (P : Program) (c : Ctx) (Q : AVal → AHeap → Prop) (T : List AItem) (K : Mode → Prop) : Option (List AItem) → Nat → Regs → AHeap → Prop
  | some k1, _, r, H => K (.todo k1 r H)
  | none, id, r, H => Exit P c id T r H Q

def BeginK (K : Mode → Prop) (n : Nat) : Option ABlk → List AItem → Regs → AHeap → Prop
  | some (.loop L), k, r, H => L.state = .ready ∧ K (.todo k r (H.set n (.loop { L with state := .busy })))
  | _, _, _, _ => False

def RetK (Q : AVal → AHeap → Prop) (n : Nat) : Option ABlk → AHeap → Prop
  | some (.loop L), H => Q (.bool false) (H.set n (.loop { L with state := .done, pending := some .ret }))
  | _, _ => False

def DResK (K : Mode → Prop) (d : DS) : Res → AOp → Option Nat → Nat → List Nat → Log → Regs → Prop
  | .ok p v H, op, dst, i, is, log, r => p ∧ (if isEff op then recheck i log H d.chk else True) ∧ K (.draw d is (if isEff op then log else logAdd d.chk i r op v log) (rput dst v r) H)
  | .bad, _, _, _, _, _, _ => False

def DGoK (P : Program) (c : Ctx) (Q : AVal → AHeap → Prop) (T : List AItem) (K : Mode → Prop) (d : DS) : Option Bool → AOper → Nat → List Nat → Log → Regs → AHeap → Prop
  | some false, o, i, is, log, r, H => K (.draw d is log (rput o.dst (.tup []) r) H)
  | some true, ⟨dst, op, _⟩, i, is, log, r, H => (match op with
    | .call f args => CallD P c (geto r f) (args.map (geto r)) i dst d.as d.chk d.live d.k T Q is log r H
    | op => DResK K d (evalOp (geto r) H op) op dst i is log r)
  | none, _, _, _, _, _, _ => False

def DAtK (P : Program) (c : Ctx) (Q : AVal → AHeap → Prop) (T : List AItem) (K : Mode → Prop) (d : DS) : Option AOper → Nat → List Nat → Log → Regs → AHeap → Prop
  | some o, i, is, log, r, H => DGoK P c Q T K d (wants r o.guard) o i is log r H
  | none, _, _, _, _, _ => False

def V (P : Program) (c : Ctx) (Q : AVal → AHeap → Prop) (T : List AItem) : Nat → Mode → Prop
  | 0, m => Sem' P c Q T m
  | _ + 1, .draws d [] r H => True
  | n + 1, .draws d (s :: ss) r H => V P c Q T n (.draw d s [] r H) ∧ V P c Q T n (.draws d ss r H)
  | n + 1, .draw d [] log r H => V P c Q T n (.todo d.k (prune d.live r) H)
  | n + 1, .draw d (i :: is) log r H => DAtK P c Q T (V P c Q T n) d (d.as[i]?) i is log r H
  | _ + 1, .todo [] r H => Run P c T r H Q
  | n + 1, .todo (.inBlock _ :: k) r H => V P c Q T n (.todo k r H)
  | n + 1, .todo (.inScope :: k) r H => V P c Q T n (.todo k r H)
  | _ + 1, .todo (.inLoop b :: x :: k) r H => Rounds P c b [x] (k ++ T) r H Q
  | _ + 1, .todo [.inLoop b] r H => Rounds P c b [] T r H Q
  | n + 1, .todo (.begin :: k) r H => (match c.rd with
    | some m => BeginK (V P c Q T n) m H[m]? k r H
    | none => False)
  | n + 1, .todo (.code .skip :: k) r H => V P c Q T n (.todo k r H)
  | _ + 1, .todo (.code .ret :: k) r H => (match c.rd with
    | none => LeaveK Q (resA H r c.res) H
    | some m => RetK Q m H[m]? H)
  | n + 1, .todo (.code (.region os live) :: k) r H => V P c Q T n (.ops os live k r H)
  | n + 1, .todo (.code (.draw os bef scheds chk live) :: k) r H => V P c Q T n (.draws ⟨os, chk, live, k⟩ scheds r H)
  | n + 1, .todo (.code (.seq a b) :: k) r H => V P c Q T n (.todo (.code a :: .code b :: k) r H)
  | n + 1, .todo (.code (.cond x a b) :: k) r H => BranchK (V P c Q T n) (geto r x) a b k r H
  | n + 1, .todo (.code (.block id b) :: k) r H => V P c Q T n (.todo (.code b :: .inBlock id :: k) r H)
  | _ + 1, .todo (.code (.loop b) :: x :: k) r H => Rounds P c b [x] (k ++ T) r H Q
  | _ + 1, .todo [.code (.loop b)] r H => Rounds P c b [] T r H Q
  | n + 1, .todo (.code (.exit id) :: k) r H => JumpK P c Q T (V P c Q T n) (aexitTo id k) id r H
  | n + 1, .todo (.code (.scope b) :: k) r H => V P c Q T n (.todo (.code b :: .inScope :: k) r H)
  | _ + 1, .todo (.code (.range f ps as bd) :: k) r H => Run P c (.code (.range f ps as bd) :: (k ++ T)) r H Q
  | n + 1, .ops [] live k r H => V P c Q T n (.todo k (prune live r) H)
  | n + 1, .ops (o :: os) live k r H => GoK P c Q T (V P c Q T n) (wants r o.guard) o os live k r H

section
variable {P : Program} {c : Ctx} {Q : AVal → AHeap → Prop}

theorem exit_append {id : Nat} : ∀ {k T : List AItem}, aexitTo id (k ++ T) = match aexitTo id k with | some k1 => some (k1 ++ T) | none => aexitTo id T
  | [], T => by simp [aexitTo]
  | x :: k, T => by
    have ih := @exit_append id k T
    cases x <;> simp only [List.cons_append, aexitTo]
    case inBlock j => split <;> simp_all
    all_goals exact ih

variable {T : List AItem}

theorem runL_nil {live : List Nat} {k : List AItem} {r : Regs} {H : AHeap} (h : Run P c (k ++ T) (prune live r) H Q) : RunL P c [] live k T r H Q :=
  runO_nil (run_weak (prune_get r live) h)

theorem V_sound : ∀ (n : Nat) (m : Mode), V P c Q T n m → Sem' P c Q T m
  | 0, m, h => h
  | n + 1, m, h => by
    have ih := V_sound n
    generalize hK : V P c Q T n = K at *
    cases m with
    | todo k r H =>
      cases k with
      | nil => exact h
      | cons x k =>
        cases x with
        | inBlock id => simp only [V, hK] at h; exact run_inBlock (ih _ h)
        | inScope => simp only [V, hK] at h; exact run_inScope (ih _ h)
        | inLoop b => cases k <;> exact run_inLoop h
        | begin =>
          simp only [V, hK] at h
          cases hrd : c.rd with
          | none => rw [hrd] at h; exact h.elim
          | some m =>
            simp only [hrd] at h
            cases hm : H[m]? with
            | none => rw [hm] at h; exact h.elim
            | some b =>
              rw [hm] at h
              cases b <;> first | exact h.elim | skip
              exact run_begin hrd hm h.1 (ih _ h.2)
        | code a =>
          cases a with
          | skip => simp only [V, hK] at h; exact run_skip (ih _ h)
          | ret =>
            simp only [V] at h
            cases hrd : c.rd with
            | none =>
              simp only [hrd] at h
              cases hq : resA H r c.res with
              | none => rw [hq] at h; exact h.elim
              | some q => obtain ⟨p, vs⟩ := q; rw [hq] at h; exact run_ret hrd hq h.1 h.2
            | some m =>
              simp only [hrd] at h
              cases hm : H[m]? with
              | none => rw [hm] at h; exact h.elim
              | some b =>
                rw [hm] at h
                cases b <;> first | exact h.elim | skip
                exact run_round (ap := some .ret) hrd hm h (.inr (.inl ⟨rfl, _, rfl⟩))
          | region os live => simp only [V, hK] at h; exact run_region (ih _ h)
          | draw os bef scheds chk live => simp only [V, hK] at h; exact run_draw (fun r H h => h) (ih _ h)
          | seq a b => simp only [V, hK] at h; exact run_seq (ih _ h)
          | cond x a b =>
            simp only [V, hK] at h
            cases hv : geto r x <;> rw [hv] at h <;> first | exact h.elim | skip
            rename_i t
            cases t
            · exact run_cond hv (ih _ h)
            · exact run_cond hv (ih _ h)
          | block id b => simp only [V, hK] at h; exact run_block (ih _ h)
          | loop b => cases k <;> exact run_loop h
          | exit id =>
            simp only [V, hK] at h
            cases hq : aexitTo id k with
            | none =>
              rw [hq] at h
              rcases h with ⟨k1, h1, h2⟩ | ⟨h1, m, L, h2, h3, h4⟩
              · exact run_exit (exit_append.trans (by rw [hq]; exact h1)) h2
              · exact run_round (ap := some (.exit id)) h2 h3 h4 (.inr (.inr ⟨id, _, rfl, rfl, exit_append.trans (by rw [hq]; exact h1)⟩))
            | some k1 =>
              rw [hq] at h
              exact run_exit (exit_append.trans (by rw [hq])) (ih _ h)
          | scope b => simp only [V, hK] at h; exact run_scope (ih _ h)
          | range f ps as bd => exact h
    | ops os live k r H =>
      cases os with
      | nil => simp only [V, hK] at h; exact runL_nil (ih _ h)
      | cons o os =>
        simp only [V, hK] at h
        cases hw : wants r o.guard with
        | none => rw [hw] at h; exact h.elim
        | some b =>
          rw [hw] at h
          cases b with
          | false => exact runO_skip hw (ih _ h)
          | true =>
            obtain ⟨dst, op, gd⟩ := o
            have key : ∀ (hop : ∀ f args, op ≠ .call f args), ResK K (evalOp (geto r) H op) dst os live k r → Sem' P c Q T (.ops (⟨dst, op, gd⟩ :: os) live k r H) := by
              intro hop h
              cases hq : evalOp (geto r) H op with
              | bad => rw [hq] at h; exact h.elim
              | ok p v H' => rw [hq] at h; exact runO_op hw hq h.1 (ih _ h.2)
            cases op with
            | call f args => exact runO_call rfl hw h
            | _ => exact key (by intro f args hh; simp at hh) h
    | draws d ss r H =>
      cases ss with
      | nil => intro s hs; cases hs
      | cons s ss =>
        simp only [V, hK] at h
        intro s' hs'
        rcases List.mem_cons.1 hs' with rfl | hs'
        · exact ih _ h.1
        · exact ih _ h.2 s' hs'
    | draw d is log r H =>
      cases is with
      | nil => simp only [V, hK] at h; exact ih (.todo d.k (prune d.live r) H) h
      | cons i is =>
        simp only [V, hK] at h
        cases ho : d.as[i]? with
        | none => rw [ho] at h; exact h.elim
        | some o =>
          rw [ho] at h
          simp only [DAtK] at h
          cases hw : wants r o.guard with
          | none => rw [hw] at h; exact h.elim
          | some b =>
            rw [hw] at h
            refine ⟨o, ho, b, hw, fun hb => ?_, fun hb => ?_⟩
            · subst hb; exact ih _ h
            · subst hb
              obtain ⟨dst, op, gd⟩ := o
              have key : DResK K d (evalOp (geto r) H op) op dst i is log r → ∃ p v H', evalOp (geto r) H op = .ok p v H' ∧ p ∧ (isEff op = true → recheck i log H' d.chk) ∧ RunD P c d.as d.chk d.live d.k T Q is (if isEff op then log else logAdd d.chk i r op v log) (rput dst v r) H' := by
                intro h
                cases hq : evalOp (geto r) H op with
                | bad => rw [hq] at h; exact h.elim
                | ok p v H' =>
                  rw [hq] at h
                  exact ⟨p, v, H', rfl, h.1, fun he => by have := h.2.1; rw [if_pos he] at this; exact this, ih _ h.2.2⟩
              cases op with
              | call f args => exact h
              | _ => exact key h

/-- The ways in. -/
theorem run_V (n : Nat) {k : List AItem} {r : Regs} {H : AHeap} (h : V P c Q T n (.todo k r H)) : Run P c (k ++ T) r H Q := V_sound n _ h
theorem fun_V {P : Program} {f : FuncId} {a : AFun} (n : Nat) (hf : okFun P f a = true) {args : List AVal} (hn : args.length = a.np) {H : AHeap} (h : V P ⟨f, a.nt, a.res, none⟩ Q [] n (.todo [.code a.body] (argRegs 0 args) H)) : FunOK P f args H Q :=
  fun_of_run hf hn (V_sound n _ h)
theorem runL_V (n : Nat) {os : List AOper} {live : List Nat} {k : List AItem} {r : Regs} {H : AHeap} (h : V P c Q T n (.ops os live k r H)) : RunL P c os live k T r H Q := V_sound n _ h
theorem runD_V (n : Nat) {as : List AOper} {chk : List (Nat × Nat)} {live : List Nat} {k : List AItem} {is : List Nat} {log : Log} {r : Regs} {H : AHeap} (h : V P c Q T n (.draw ⟨as, chk, live, k⟩ is log r H)) : RunD P c as chk live k T Q is log r H := V_sound n _ h
theorem loop_V (n : Nat) {b b' : ACode} (hb : b = b') {k : List AItem} {r : Regs} {H : AHeap} (h : V P c Q T n (.todo (.code b' :: .inLoop b :: k) r H)) : Rounds P c b k T r H Q := by
  subst hb; exact V_sound n _ h

/-- What calls come to. -/
theorem callK_fn {f : FuncId} {args : List AVal} {dst : Option Nat} {os : List AOper} {live : List Nat} {k : List AItem} {r : Regs} {H : AHeap} (h : FunOK P f args H fun av H' => RunL P c os live k T (rput dst av r) H' Q) : CallK P c (.fn f [] []) args dst os live k T r H Q := by
  simpa [CallK, CallV] using h
theorem callD_fn {f : FuncId} {args : List AVal} {i : Nat} {dst : Option Nat} {as : List AOper} {chk : List (Nat × Nat)} {live : List Nat} {k : List AItem} {is : List Nat} {log : Log} {r : Regs} {H : AHeap}
    (h : FunOK P f args H fun av H' => recheck i log H' chk ∧ RunD P c as chk live k T Q is log (rput dst av r) H') : CallD P c (.fn f [] []) args i dst as chk live k T Q is log r H := by
  simpa [CallD, CallV] using h

theorem round_fin {n : Nat} {L : ALoop} {r : Regs} {H : AHeap} (hrd : c.rd = some n) (hn : H[n]? = some (.loop L)) (hq : Q (.bool true) (H.set n (.loop { L with state := .ready, pending := none }))) : Run P c [] r H Q :=
  run_round (ap := none) hrd hn hq (.inl ⟨rfl, rfl⟩)

theorem run_fin (hrd : c.rd = none) {r : Regs} {H : AHeap} {p : Prop} {vs : List AVal} (h : resA H r c.res = some (p, vs)) (hp : p) (hq : Q (pack vs) H) : Run P c [] r H Q := run_end hrd h hp hq

end
end Go.Am
