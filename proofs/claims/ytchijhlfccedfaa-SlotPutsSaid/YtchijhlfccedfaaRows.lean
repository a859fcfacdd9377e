/-
  No cell of these rows narrows 'for every input' (looked for: loops, veiled, ifaces, maps, wideKeys, modest, calm, conditions, laid).
  DERIVED. THE GIVEN ROWS OF THIS SEAT. 3 by the template 'for every input the law returns true; each argument reads behind the call as it read before'; 0 by the template 'total and deterministic' (their statements: YtchijhlfccedfaaTotals.lean).
  GIVEN WITH THE SEED: the statements are not yours to turn. If you find one false, say at which input.
  Laid BY PROGRAM, IN A SANDBOX (cutbox-rows.mjs): the forced cells as the released guide's own fill.sh prints them over the translation 6397ecc12eef962e… (all of the seat's roots in one cut). By AI agents, Wed Nov 11 2026. No macro, syntax, notation, axiom, sorry.
-/
import Derived.Test.YtchijhlfccedfaaChecked
import GoSem.Claim
import GoSem.ClaimJoined
import GoSem.ClaimMapViews
import Derived.JoinedTies
import Derived.KernelRfl
namespace Go.Proofs.Ytchijhlfccedfaa
/- THE CELL 'sum', in the pinned program and in every row, IS THE sha256 OF THE DUMP (.gsa) THAT YtchijhlfccedfaaProg.lean LOADS. Nothing in Lean hashes anything: it is a label: what it is worth is what the hold of that sum in a sandbox is worth. -/
noncomputable def Try.pinned : Pinned := { name := "ytchijhlfccedfaa", sum := "6397ecc12eef962eba34ec31f3a9df025a642e09e9ad4446ddfd427d0e593d9f", checked := Try.checked }
namespace Rows
def none {H : Type} : Left H := { results := [], args := [] }

/-- 'cuneiformlaw13.SlotPuts': WHATEVER THE INPUT: true; the input reads as it did. -/
def slotPutsSpec : ChangeSpec := { name := "slotPuts", fn := fun _ => fun
  | [d1, d2] => { results := [.lit (.bool true)], args := [d1, d2] }
  | _ => none }
def slotPutsRow : OpenClaim := { program := "ytchijhlfccedfaa", sum := "6397ecc12eef962eba34ec31f3a9df025a642e09e9ad4446ddfd427d0e593d9f", func := "cuneiform/cuneiformlaw13.SlotPuts", spec := "slotPuts", inPlace := ["maps.clone"], unfollowed := true, recurses := true, apart := false }
def SlotPutsSaid : Prop := slotPutsRow.holds Try.pinned (OpenSpec.ofChange slotPutsSpec)

/-- ITS FALSE NEIGHBOUR: 'it returns false'. Refute it at one input. -/
def slotPutsWrong : ChangeSpec := { name := "slotPuts", fn := fun _ => fun
  | [d1, d2] => { results := [.lit (.bool false)], args := [d1, d2] }
  | _ => none }
def SlotPutsWrongFalsely : Prop := slotPutsRow.holds Try.pinned (OpenSpec.ofChange slotPutsWrong)

/-- 'cuneiformlaw13.SlotNil': WHATEVER THE INPUT: true; the input reads as it did. -/
def slotNilSpec : ChangeSpec := { name := "slotNil", fn := fun _ => fun
  | [d] => { results := [.lit (.bool true)], args := [d] }
  | _ => none }
def slotNilRow : OpenClaim := { program := "ytchijhlfccedfaa", sum := "6397ecc12eef962eba34ec31f3a9df025a642e09e9ad4446ddfd427d0e593d9f", func := "cuneiform/cuneiformlaw13.SlotNil", spec := "slotNil", inPlace := ["maps.clone"], unfollowed := true, recurses := true, apart := false }
def SlotNilSaid : Prop := slotNilRow.holds Try.pinned (OpenSpec.ofChange slotNilSpec)

/-- ITS FALSE NEIGHBOUR: 'it returns false'. Refute it at one input. -/
def slotNilWrong : ChangeSpec := { name := "slotNil", fn := fun _ => fun
  | [d] => { results := [.lit (.bool false)], args := [d] }
  | _ => none }
def SlotNilWrongFalsely : Prop := slotNilRow.holds Try.pinned (OpenSpec.ofChange slotNilWrong)

/-- 'cuneiformlaw13.SlotOrder': WHATEVER THE INPUT: true; the input reads as it did. -/
def slotOrderSpec : ChangeSpec := { name := "slotOrder", fn := fun _ => fun
  | [d1, d2, d3, d4] => { results := [.lit (.bool true)], args := [d1, d2, d3, d4] }
  | _ => none }
def slotOrderRow : OpenClaim := { program := "ytchijhlfccedfaa", sum := "6397ecc12eef962eba34ec31f3a9df025a642e09e9ad4446ddfd427d0e593d9f", func := "cuneiform/cuneiformlaw13.SlotOrder", spec := "slotOrder", unfollowed := true, recurses := true, apart := false }
def SlotOrderSaid : Prop := slotOrderRow.holds Try.pinned (OpenSpec.ofChange slotOrderSpec)

/-- ITS FALSE NEIGHBOUR: 'it returns false'. Refute it at one input. -/
def slotOrderWrong : ChangeSpec := { name := "slotOrder", fn := fun _ => fun
  | [d1, d2, d3, d4] => { results := [.lit (.bool false)], args := [d1, d2, d3, d4] }
  | _ => none }
def SlotOrderWrongFalsely : Prop := slotOrderRow.holds Try.pinned (OpenSpec.ofChange slotOrderWrong)

/- THE SECOND FORM. 'bulk': how many values and letters a reading holds, each counted each time it is reached (what is shared counts as often as it is met; a slice's spare places count too). A statement '..UptoSaid' is the law's where the arguments, and the package variables that the reading takes, are together of bulk at most 1048576: NARROWER than '..Said'. Prove '..Said' where nothing that the law and all that it calls make is longer than what came in: it says more and counts as full. Else prove '..UptoSaid'. A law counts once. -/
mutual
def uptoBulk {H : Type} : DataW H → Nat
  | .lit (.string bytes) => bytes.length + 1
  | .lit _ => 1
  | .nil => 1
  | .ptr d => uptoBulk d + 1
  | .slice elems spare => uptoBulkAll elems + uptoBulkAll spare + 1
  | .agg parts => uptoBulkAll parts + 1
  | .iface _ d => uptoBulk d + 1
  | .map entries => uptoBulkEntries entries + 1
  | .held _ => 1
def uptoBulkAll {H : Type} : List (DataW H) → Nat
  | [] => 0
  | d :: r => uptoBulk d + uptoBulkAll r
def uptoBulkEntries {H : Type} : List (Lit × DataW H) → Nat
  | [] => 0
  | x :: r => uptoBulkEntry x + uptoBulkEntries r
def uptoBulkEntry {H : Type} : Lit × DataW H → Nat
  | (.string bytes, d) => bytes.length + uptoBulk d + 1
  | (_, d) => uptoBulk d + 1
 end
def uptoSmall : (H : Type) → List (DataW H) → Bool := fun _ ds => decide (uptoBulkAll ds ≤ 1048576)
def OpenSpec.upto (s : _root_.Go.ChangeSpec) : _root_.Go.OpenSpec := { _root_.Go.OpenSpec.ofChange s with cond := some uptoSmall }

/-- 'cuneiformlaw13.SlotPuts', WHERE WHAT IT READS IS OF BULK AT MOST 1048576: true; the input reads as it did. -/
def slotPutsUptoRow : OpenClaim := { program := "ytchijhlfccedfaa", sum := "6397ecc12eef962eba34ec31f3a9df025a642e09e9ad4446ddfd427d0e593d9f", func := "cuneiform/cuneiformlaw13.SlotPuts", spec := "slotPuts", inPlace := ["maps.clone"], unfollowed := true, recurses := true, apart := false, narrowed := true }
def SlotPutsUptoSaid : Prop := slotPutsUptoRow.holds Try.pinned (OpenSpec.upto slotPutsSpec)

/-- 'cuneiformlaw13.SlotNil', WHERE WHAT IT READS IS OF BULK AT MOST 1048576: true; the input reads as it did. -/
def slotNilUptoRow : OpenClaim := { program := "ytchijhlfccedfaa", sum := "6397ecc12eef962eba34ec31f3a9df025a642e09e9ad4446ddfd427d0e593d9f", func := "cuneiform/cuneiformlaw13.SlotNil", spec := "slotNil", inPlace := ["maps.clone"], unfollowed := true, recurses := true, apart := false, narrowed := true }
def SlotNilUptoSaid : Prop := slotNilUptoRow.holds Try.pinned (OpenSpec.upto slotNilSpec)

/-- 'cuneiformlaw13.SlotOrder', WHERE WHAT IT READS IS OF BULK AT MOST 1048576: true; the input reads as it did. -/
def slotOrderUptoRow : OpenClaim := { program := "ytchijhlfccedfaa", sum := "6397ecc12eef962eba34ec31f3a9df025a642e09e9ad4446ddfd427d0e593d9f", func := "cuneiform/cuneiformlaw13.SlotOrder", spec := "slotOrder", unfollowed := true, recurses := true, apart := false, narrowed := true }
def SlotOrderUptoSaid : Prop := slotOrderUptoRow.holds Try.pinned (OpenSpec.upto slotOrderSpec)

end Rows
end Go.Proofs.Ytchijhlfccedfaa
