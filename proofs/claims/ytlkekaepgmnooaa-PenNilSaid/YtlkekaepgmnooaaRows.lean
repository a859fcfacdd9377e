/-
  No cell of these rows narrows 'for every input' (looked for: loops, veiled, ifaces, maps, wideKeys, modest, calm, conditions, laid).
  DERIVED. THE GIVEN ROWS OF THIS SEAT. 4 by the template 'for every input the law returns true; each argument reads behind the call as it read before'; 0 by the template 'total and deterministic' (their statements: YtlkekaepgmnooaaTotals.lean).
  GIVEN WITH THE SEED: the statements are not yours to turn. If you find one false, say at which input.
  Laid BY PROGRAM, IN A SANDBOX (cutbox-rows.mjs): the forced cells as the released guide's own fill.sh prints them over the translation e8b1cd4121e126d6… (all of the seat's roots in one cut). By AI agents, Wed Nov 11 2026. No macro, syntax, notation, axiom, sorry.
-/
import Derived.Test.YtlkekaepgmnooaaChecked
import GoSem.Claim
import GoSem.ClaimJoined
import GoSem.ClaimMapViews
import Derived.JoinedTies
import Derived.KernelRfl
namespace Go.Proofs.Ytlkekaepgmnooaa
/- THE CELL 'sum', in the pinned program and in every row, IS THE sha256 OF THE DUMP (.gsa) THAT YtlkekaepgmnooaaProg.lean LOADS. Nothing in Lean hashes anything: it is a label: what it is worth is what the hold of that sum in a sandbox is worth. -/
noncomputable def Try.pinned : Pinned := { name := "ytlkekaepgmnooaa", sum := "e8b1cd4121e126d697fc5d95894acdfef2bcf211eab6b5c23fca65aafb7b3fe9", checked := Try.checked }
namespace Rows
def none {H : Type} : Left H := { results := [], args := [] }

/-- 'cuneiformlaw02.PenFull': WHATEVER THE INPUT: true; the input reads as it did. -/
def penFullSpec : ChangeSpec := { name := "penFull", fn := fun _ => fun
  | [d1, d2] => { results := [.lit (.bool true)], args := [d1, d2] }
  | _ => none }
def penFullRow : OpenClaim := { program := "ytlkekaepgmnooaa", sum := "e8b1cd4121e126d697fc5d95894acdfef2bcf211eab6b5c23fca65aafb7b3fe9", func := "cuneiform/cuneiformlaw02.PenFull", spec := "penFull", apart := false }
def PenFullSaid : Prop := penFullRow.holds Try.pinned (OpenSpec.ofChange penFullSpec)

/-- ITS FALSE NEIGHBOUR: 'it returns false'. Refute it at one input. -/
def penFullWrong : ChangeSpec := { name := "penFull", fn := fun _ => fun
  | [d1, d2] => { results := [.lit (.bool false)], args := [d1, d2] }
  | _ => none }
def PenFullWrongFalsely : Prop := penFullRow.holds Try.pinned (OpenSpec.ofChange penFullWrong)

/-- 'cuneiformlaw02.PenWrites': WHATEVER THE INPUT: true; the input reads as it did. -/
def penWritesSpec : ChangeSpec := { name := "penWrites", fn := fun _ => fun
  | [d1, d2] => { results := [.lit (.bool true)], args := [d1, d2] }
  | _ => none }
def penWritesRow : OpenClaim := { program := "ytlkekaepgmnooaa", sum := "e8b1cd4121e126d697fc5d95894acdfef2bcf211eab6b5c23fca65aafb7b3fe9", func := "cuneiform/cuneiformlaw02.PenWrites", spec := "penWrites", apart := false }
def PenWritesSaid : Prop := penWritesRow.holds Try.pinned (OpenSpec.ofChange penWritesSpec)

/-- ITS FALSE NEIGHBOUR: 'it returns false'. Refute it at one input. -/
def penWritesWrong : ChangeSpec := { name := "penWrites", fn := fun _ => fun
  | [d1, d2] => { results := [.lit (.bool false)], args := [d1, d2] }
  | _ => none }
def PenWritesWrongFalsely : Prop := penWritesRow.holds Try.pinned (OpenSpec.ofChange penWritesWrong)

/-- 'cuneiformlaw02.PenNil': WHATEVER THE INPUT: true; the input reads as it did. -/
def penNilSpec : ChangeSpec := { name := "penNil", fn := fun _ => fun
  | [d1, d2] => { results := [.lit (.bool true)], args := [d1, d2] }
  | _ => none }
def penNilRow : OpenClaim := { program := "ytlkekaepgmnooaa", sum := "e8b1cd4121e126d697fc5d95894acdfef2bcf211eab6b5c23fca65aafb7b3fe9", func := "cuneiform/cuneiformlaw02.PenNil", spec := "penNil", apart := false }
def PenNilSaid : Prop := penNilRow.holds Try.pinned (OpenSpec.ofChange penNilSpec)

/-- ITS FALSE NEIGHBOUR: 'it returns false'. Refute it at one input. -/
def penNilWrong : ChangeSpec := { name := "penNil", fn := fun _ => fun
  | [d1, d2] => { results := [.lit (.bool false)], args := [d1, d2] }
  | _ => none }
def PenNilWrongFalsely : Prop := penNilRow.holds Try.pinned (OpenSpec.ofChange penNilWrong)

/-- 'cuneiformlaw02.PenJoins': WHATEVER THE INPUT: true; the input reads as it did. -/
def penJoinsSpec : ChangeSpec := { name := "penJoins", fn := fun _ => fun
  | [d1, d2] => { results := [.lit (.bool true)], args := [d1, d2] }
  | _ => none }
def penJoinsRow : OpenClaim := { program := "ytlkekaepgmnooaa", sum := "e8b1cd4121e126d697fc5d95894acdfef2bcf211eab6b5c23fca65aafb7b3fe9", func := "cuneiform/cuneiformlaw02.PenJoins", spec := "penJoins", apart := false }
def PenJoinsSaid : Prop := penJoinsRow.holds Try.pinned (OpenSpec.ofChange penJoinsSpec)

/-- ITS FALSE NEIGHBOUR: 'it returns false'. Refute it at one input. -/
def penJoinsWrong : ChangeSpec := { name := "penJoins", fn := fun _ => fun
  | [d1, d2] => { results := [.lit (.bool false)], args := [d1, d2] }
  | _ => none }
def PenJoinsWrongFalsely : Prop := penJoinsRow.holds Try.pinned (OpenSpec.ofChange penJoinsWrong)

/- THE SECOND FORM. 'bulk': how many values and letters a reading holds, each counted each time it is reached (what is shared counts as often as it is met; a slice's spare places count too). A statement '..UptoSaid' is the law's where the arguments, and the package variables that the reading takes, are together of bulk at most 1048576: NARROWER than '..Said'. Prove '..Said' where nothing that the law and all that it calls make is longer than what came in: it says more and counts as full. Else prove '..UptoSaid'. A law counts once. -/
mutual
def uptoBulk {H : Type} : DataW H → Nat
  | .lit (.string bytes) => bytes.length + 1
  | .lit _ => 1
  | .nil => 1
  | .ptr d => uptoBulk d + 1
  | .slice elems spare => uptoBulkAll elems + uptoBulkAll spare + 1
  | .agg parts => uptoBulkAll parts + 1
  | .iface _ d => uptoBulk d + 1
  | .map entries => uptoBulkEntries entries + 1
  | .held _ => 1
def uptoBulkAll {H : Type} : List (DataW H) → Nat
  | [] => 0
  | d :: r => uptoBulk d + uptoBulkAll r
def uptoBulkEntries {H : Type} : List (Lit × DataW H) → Nat
  | [] => 0
  | x :: r => uptoBulkEntry x + uptoBulkEntries r
def uptoBulkEntry {H : Type} : Lit × DataW H → Nat
  | (.string bytes, d) => bytes.length + uptoBulk d + 1
  | (_, d) => uptoBulk d + 1
 end
def uptoSmall : (H : Type) → List (DataW H) → Bool := fun _ ds => decide (uptoBulkAll ds ≤ 1048576)
def OpenSpec.upto (s : _root_.Go.ChangeSpec) : _root_.Go.OpenSpec := { _root_.Go.OpenSpec.ofChange s with cond := some uptoSmall }

/-- 'cuneiformlaw02.PenFull', WHERE WHAT IT READS IS OF BULK AT MOST 1048576: true; the input reads as it did. -/
def penFullUptoRow : OpenClaim := { program := "ytlkekaepgmnooaa", sum := "e8b1cd4121e126d697fc5d95894acdfef2bcf211eab6b5c23fca65aafb7b3fe9", func := "cuneiform/cuneiformlaw02.PenFull", spec := "penFull", apart := false, narrowed := true }
def PenFullUptoSaid : Prop := penFullUptoRow.holds Try.pinned (OpenSpec.upto penFullSpec)

/-- 'cuneiformlaw02.PenWrites', WHERE WHAT IT READS IS OF BULK AT MOST 1048576: true; the input reads as it did. -/
def penWritesUptoRow : OpenClaim := { program := "ytlkekaepgmnooaa", sum := "e8b1cd4121e126d697fc5d95894acdfef2bcf211eab6b5c23fca65aafb7b3fe9", func := "cuneiform/cuneiformlaw02.PenWrites", spec := "penWrites", apart := false, narrowed := true }
def PenWritesUptoSaid : Prop := penWritesUptoRow.holds Try.pinned (OpenSpec.upto penWritesSpec)

/-- 'cuneiformlaw02.PenNil', WHERE WHAT IT READS IS OF BULK AT MOST 1048576: true; the input reads as it did. -/
def penNilUptoRow : OpenClaim := { program := "ytlkekaepgmnooaa", sum := "e8b1cd4121e126d697fc5d95894acdfef2bcf211eab6b5c23fca65aafb7b3fe9", func := "cuneiform/cuneiformlaw02.PenNil", spec := "penNil", apart := false, narrowed := true }
def PenNilUptoSaid : Prop := penNilUptoRow.holds Try.pinned (OpenSpec.upto penNilSpec)

/-- 'cuneiformlaw02.PenJoins', WHERE WHAT IT READS IS OF BULK AT MOST 1048576: true; the input reads as it did. -/
def penJoinsUptoRow : OpenClaim := { program := "ytlkekaepgmnooaa", sum := "e8b1cd4121e126d697fc5d95894acdfef2bcf211eab6b5c23fca65aafb7b3fe9", func := "cuneiform/cuneiformlaw02.PenJoins", spec := "penJoins", apart := false, narrowed := true }
def PenJoinsUptoSaid : Prop := penJoinsUptoRow.holds Try.pinned (OpenSpec.upto penJoinsSpec)

end Rows
end Go.Proofs.Ytlkekaepgmnooaa
