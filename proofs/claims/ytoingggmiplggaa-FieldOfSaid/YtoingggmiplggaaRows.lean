/-
  No cell of these rows narrows 'for every input' (looked for: loops, veiled, ifaces, maps, wideKeys, modest, calm, conditions, laid).
  DERIVED. THE GIVEN ROWS OF THIS SEAT. 4 by the template 'for every input the law returns true; each argument reads behind the call as it read before'; 0 by the template 'total and deterministic' (their statements: YtoingggmiplggaaTotals.lean).
  GIVEN WITH THE SEED: the statements are not yours to turn. If you find one false, say at which input.
  Laid BY PROGRAM, IN A SANDBOX (cutbox-rows.mjs): the forced cells as the released guide's own fill.sh prints them over the translation d4d9ccb35f7b1b22… (all of the seat's roots in one cut). By AI agents, Wed Nov 11 2026. No macro, syntax, notation, axiom, sorry.
-/
import Derived.Test.YtoingggmiplggaaChecked
import GoSem.Claim
import GoSem.ClaimJoined
import GoSem.ClaimMapViews
import Derived.JoinedTies
import Derived.KernelRfl
namespace Go.Proofs.Ytoingggmiplggaa
/- THE CELL 'sum', in the pinned program and in every row, IS THE sha256 OF THE DUMP (.gsa) THAT YtoingggmiplggaaProg.lean LOADS. Nothing in Lean hashes anything: it is a label: what it is worth is what the hold of that sum in a sandbox is worth. -/
noncomputable def Try.pinned : Pinned := { name := "ytoingggmiplggaa", sum := "d4d9ccb35f7b1b2251b7aff9e5d6fcda5b6648327a4c08df58c2df4311e4130f", checked := Try.checked }
namespace Rows
def none {H : Type} : Left H := { results := [], args := [] }

/-- 'cuneiformlaw16.FieldPlaces': WHATEVER THE INPUT: true; the input reads as it did. -/
def fieldPlacesSpec : ChangeSpec := { name := "fieldPlaces", fn := fun _ => fun
  | [d] => { results := [.lit (.bool true)], args := [d] }
  | _ => none }
def fieldPlacesRow : OpenClaim := { program := "ytoingggmiplggaa", sum := "d4d9ccb35f7b1b2251b7aff9e5d6fcda5b6648327a4c08df58c2df4311e4130f", func := "cuneiform/cuneiformlaw16.FieldPlaces", spec := "fieldPlaces", unfollowed := true, recurses := true, apart := false }
def FieldPlacesSaid : Prop := fieldPlacesRow.holds Try.pinned (OpenSpec.ofChange fieldPlacesSpec)

/-- ITS FALSE NEIGHBOUR: 'it returns false'. Refute it at one input. -/
def fieldPlacesWrong : ChangeSpec := { name := "fieldPlaces", fn := fun _ => fun
  | [d] => { results := [.lit (.bool false)], args := [d] }
  | _ => none }
def FieldPlacesWrongFalsely : Prop := fieldPlacesRow.holds Try.pinned (OpenSpec.ofChange fieldPlacesWrong)

/-- 'cuneiformlaw16.FieldVersions': WHATEVER THE INPUT: true; the input reads as it did. -/
def fieldVersionsSpec : ChangeSpec := { name := "fieldVersions", fn := fun _ => fun
  | [d1, d2] => { results := [.lit (.bool true)], args := [d1, d2] }
  | _ => none }
def fieldVersionsRow : OpenClaim := { program := "ytoingggmiplggaa", sum := "d4d9ccb35f7b1b2251b7aff9e5d6fcda5b6648327a4c08df58c2df4311e4130f", func := "cuneiform/cuneiformlaw16.FieldVersions", spec := "fieldVersions", unfollowed := true, recurses := true, apart := false }
def FieldVersionsSaid : Prop := fieldVersionsRow.holds Try.pinned (OpenSpec.ofChange fieldVersionsSpec)

/-- ITS FALSE NEIGHBOUR: 'it returns false'. Refute it at one input. -/
def fieldVersionsWrong : ChangeSpec := { name := "fieldVersions", fn := fun _ => fun
  | [d1, d2] => { results := [.lit (.bool false)], args := [d1, d2] }
  | _ => none }
def FieldVersionsWrongFalsely : Prop := fieldVersionsRow.holds Try.pinned (OpenSpec.ofChange fieldVersionsWrong)

/-- 'cuneiformlaw16.FieldOf': WHATEVER THE INPUT: true; the input reads as it did. -/
def fieldOfSpec : ChangeSpec := { name := "fieldOf", fn := fun _ => fun
  | [d1, d2, d3] => { results := [.lit (.bool true)], args := [d1, d2, d3] }
  | _ => none }
def fieldOfRow : OpenClaim := { program := "ytoingggmiplggaa", sum := "d4d9ccb35f7b1b2251b7aff9e5d6fcda5b6648327a4c08df58c2df4311e4130f", func := "cuneiform/cuneiformlaw16.FieldOf", spec := "fieldOf", unfollowed := true, recurses := true, apart := false }
def FieldOfSaid : Prop := fieldOfRow.holds Try.pinned (OpenSpec.ofChange fieldOfSpec)

/-- ITS FALSE NEIGHBOUR: 'it returns false'. Refute it at one input. -/
def fieldOfWrong : ChangeSpec := { name := "fieldOf", fn := fun _ => fun
  | [d1, d2, d3] => { results := [.lit (.bool false)], args := [d1, d2, d3] }
  | _ => none }
def FieldOfWrongFalsely : Prop := fieldOfRow.holds Try.pinned (OpenSpec.ofChange fieldOfWrong)

/-- 'cuneiformlaw16.FieldKinds': WHATEVER THE INPUT: true; the input reads as it did. -/
def fieldKindsSpec : ChangeSpec := { name := "fieldKinds", fn := fun _ => fun
  | [d1, d2] => { results := [.lit (.bool true)], args := [d1, d2] }
  | _ => none }
def fieldKindsRow : OpenClaim := { program := "ytoingggmiplggaa", sum := "d4d9ccb35f7b1b2251b7aff9e5d6fcda5b6648327a4c08df58c2df4311e4130f", func := "cuneiform/cuneiformlaw16.FieldKinds", spec := "fieldKinds", unfollowed := true, recurses := true, apart := false }
def FieldKindsSaid : Prop := fieldKindsRow.holds Try.pinned (OpenSpec.ofChange fieldKindsSpec)

/-- ITS FALSE NEIGHBOUR: 'it returns false'. Refute it at one input. -/
def fieldKindsWrong : ChangeSpec := { name := "fieldKinds", fn := fun _ => fun
  | [d1, d2] => { results := [.lit (.bool false)], args := [d1, d2] }
  | _ => none }
def FieldKindsWrongFalsely : Prop := fieldKindsRow.holds Try.pinned (OpenSpec.ofChange fieldKindsWrong)

/- THE SECOND FORM. 'bulk': how many values and letters a reading holds, each counted each time it is reached (what is shared counts as often as it is met; a slice's spare places count too). A statement '..UptoSaid' is the law's where the arguments, and the package variables that the reading takes, are together of bulk at most 1048576: NARROWER than '..Said'. Prove '..Said' where nothing that the law and all that it calls make is longer than what came in: it says more and counts as full. Else prove '..UptoSaid'. A law counts once. -/
mutual
def uptoBulk {H : Type} : DataW H → Nat
  | .lit (.string bytes) => bytes.length + 1
  | .lit _ => 1
  | .nil => 1
  | .ptr d => uptoBulk d + 1
  | .slice elems spare => uptoBulkAll elems + uptoBulkAll spare + 1
  | .agg parts => uptoBulkAll parts + 1
  | .iface _ d => uptoBulk d + 1
  | .map entries => uptoBulkEntries entries + 1
  | .held _ => 1
def uptoBulkAll {H : Type} : List (DataW H) → Nat
  | [] => 0
  | d :: r => uptoBulk d + uptoBulkAll r
def uptoBulkEntries {H : Type} : List (Lit × DataW H) → Nat
  | [] => 0
  | x :: r => uptoBulkEntry x + uptoBulkEntries r
def uptoBulkEntry {H : Type} : Lit × DataW H → Nat
  | (.string bytes, d) => bytes.length + uptoBulk d + 1
  | (_, d) => uptoBulk d + 1
 end
def uptoSmall : (H : Type) → List (DataW H) → Bool := fun _ ds => decide (uptoBulkAll ds ≤ 1048576)
def OpenSpec.upto (s : _root_.Go.ChangeSpec) : _root_.Go.OpenSpec := { _root_.Go.OpenSpec.ofChange s with cond := some uptoSmall }

/-- 'cuneiformlaw16.FieldPlaces', WHERE WHAT IT READS IS OF BULK AT MOST 1048576: true; the input reads as it did. -/
def fieldPlacesUptoRow : OpenClaim := { program := "ytoingggmiplggaa", sum := "d4d9ccb35f7b1b2251b7aff9e5d6fcda5b6648327a4c08df58c2df4311e4130f", func := "cuneiform/cuneiformlaw16.FieldPlaces", spec := "fieldPlaces", unfollowed := true, recurses := true, apart := false, narrowed := true }
def FieldPlacesUptoSaid : Prop := fieldPlacesUptoRow.holds Try.pinned (OpenSpec.upto fieldPlacesSpec)

/-- 'cuneiformlaw16.FieldVersions', WHERE WHAT IT READS IS OF BULK AT MOST 1048576: true; the input reads as it did. -/
def fieldVersionsUptoRow : OpenClaim := { program := "ytoingggmiplggaa", sum := "d4d9ccb35f7b1b2251b7aff9e5d6fcda5b6648327a4c08df58c2df4311e4130f", func := "cuneiform/cuneiformlaw16.FieldVersions", spec := "fieldVersions", unfollowed := true, recurses := true, apart := false, narrowed := true }
def FieldVersionsUptoSaid : Prop := fieldVersionsUptoRow.holds Try.pinned (OpenSpec.upto fieldVersionsSpec)

/-- 'cuneiformlaw16.FieldOf', WHERE WHAT IT READS IS OF BULK AT MOST 1048576: true; the input reads as it did. -/
def fieldOfUptoRow : OpenClaim := { program := "ytoingggmiplggaa", sum := "d4d9ccb35f7b1b2251b7aff9e5d6fcda5b6648327a4c08df58c2df4311e4130f", func := "cuneiform/cuneiformlaw16.FieldOf", spec := "fieldOf", unfollowed := true, recurses := true, apart := false, narrowed := true }
def FieldOfUptoSaid : Prop := fieldOfUptoRow.holds Try.pinned (OpenSpec.upto fieldOfSpec)

/-- 'cuneiformlaw16.FieldKinds', WHERE WHAT IT READS IS OF BULK AT MOST 1048576: true; the input reads as it did. -/
def fieldKindsUptoRow : OpenClaim := { program := "ytoingggmiplggaa", sum := "d4d9ccb35f7b1b2251b7aff9e5d6fcda5b6648327a4c08df58c2df4311e4130f", func := "cuneiform/cuneiformlaw16.FieldKinds", spec := "fieldKinds", unfollowed := true, recurses := true, apart := false, narrowed := true }
def FieldKindsUptoSaid : Prop := fieldKindsUptoRow.holds Try.pinned (OpenSpec.upto fieldKindsSpec)

end Rows
end Go.Proofs.Ytoingggmiplggaa
