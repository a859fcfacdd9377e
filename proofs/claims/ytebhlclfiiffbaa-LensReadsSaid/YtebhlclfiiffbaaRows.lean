/-
  No cell of these rows narrows 'for every input' (looked for: loops, veiled, ifaces, maps, wideKeys, modest, calm, conditions, laid).
  DERIVED. THE GIVEN ROWS OF THIS SEAT. 4 by the template 'for every input the law returns true; each argument reads behind the call as it read before'; 0 by the template 'total and deterministic' (their statements: YtebhlclfiiffbaaTotals.lean).
  GIVEN WITH THE SEED: the statements are not yours to turn. If you find one false, say at which input.
  Laid BY PROGRAM, IN A SANDBOX (cutbox-rows.mjs): the forced cells as the released guide's own fill.sh prints them over the translation bc2116dd3f45ccf9… (all of the seat's roots in one cut). By AI agents, Wed Nov 11 2026. No macro, syntax, notation, axiom, sorry.
-/
import Derived.Test.YtebhlclfiiffbaaChecked
import GoSem.Claim
import GoSem.ClaimJoined
import GoSem.ClaimMapViews
import Derived.JoinedTies
import Derived.KernelRfl
namespace Go.Proofs.Ytebhlclfiiffbaa
/- THE CELL 'sum', in the pinned program and in every row, IS THE sha256 OF THE DUMP (.gsa) THAT YtebhlclfiiffbaaProg.lean LOADS. Nothing in Lean hashes anything: it is a label: what it is worth is what the hold of that sum in a sandbox is worth. -/
noncomputable def Try.pinned : Pinned := { name := "ytebhlclfiiffbaa", sum := "bc2116dd3f45ccf91fb48d79262cdeac22bd6b8b2a4b6cd2a9bc15fb51516ad1", checked := Try.checked }
namespace Rows
def none {H : Type} : Left H := { results := [], args := [] }

/-- 'cuneiformlaw03.LensCuts': WHATEVER THE INPUT: true; the input reads as it did. -/
def lensCutsSpec : ChangeSpec := { name := "lensCuts", fn := fun _ => fun
  | [d1, d2, d3] => { results := [.lit (.bool true)], args := [d1, d2, d3] }
  | _ => none }
def lensCutsRow : OpenClaim := { program := "ytebhlclfiiffbaa", sum := "bc2116dd3f45ccf91fb48d79262cdeac22bd6b8b2a4b6cd2a9bc15fb51516ad1", func := "cuneiform/cuneiformlaw03.LensCuts", spec := "lensCuts", unfollowed := true, recurses := true, apart := false }
def LensCutsSaid : Prop := lensCutsRow.holds Try.pinned (OpenSpec.ofChange lensCutsSpec)

/-- ITS FALSE NEIGHBOUR: 'it returns false'. Refute it at one input. -/
def lensCutsWrong : ChangeSpec := { name := "lensCuts", fn := fun _ => fun
  | [d1, d2, d3] => { results := [.lit (.bool false)], args := [d1, d2, d3] }
  | _ => none }
def LensCutsWrongFalsely : Prop := lensCutsRow.holds Try.pinned (OpenSpec.ofChange lensCutsWrong)

/-- 'cuneiformlaw03.LensReads': WHATEVER THE INPUT: true; the input reads as it did. -/
def lensReadsSpec : ChangeSpec := { name := "lensReads", fn := fun _ => fun
  | [d1, d2] => { results := [.lit (.bool true)], args := [d1, d2] }
  | _ => none }
def lensReadsRow : OpenClaim := { program := "ytebhlclfiiffbaa", sum := "bc2116dd3f45ccf91fb48d79262cdeac22bd6b8b2a4b6cd2a9bc15fb51516ad1", func := "cuneiform/cuneiformlaw03.LensReads", spec := "lensReads", unfollowed := true, recurses := true, apart := false }
def LensReadsSaid : Prop := lensReadsRow.holds Try.pinned (OpenSpec.ofChange lensReadsSpec)

/-- ITS FALSE NEIGHBOUR: 'it returns false'. Refute it at one input. -/
def lensReadsWrong : ChangeSpec := { name := "lensReads", fn := fun _ => fun
  | [d1, d2] => { results := [.lit (.bool false)], args := [d1, d2] }
  | _ => none }
def LensReadsWrongFalsely : Prop := lensReadsRow.holds Try.pinned (OpenSpec.ofChange lensReadsWrong)

/-- 'cuneiformlaw03.LensNil': WHATEVER THE INPUT: true; the input reads as it did. -/
def lensNilSpec : ChangeSpec := { name := "lensNil", fn := fun _ => fun
  | [d] => { results := [.lit (.bool true)], args := [d] }
  | _ => none }
def lensNilRow : OpenClaim := { program := "ytebhlclfiiffbaa", sum := "bc2116dd3f45ccf91fb48d79262cdeac22bd6b8b2a4b6cd2a9bc15fb51516ad1", func := "cuneiform/cuneiformlaw03.LensNil", spec := "lensNil", unfollowed := true, recurses := true, apart := false }
def LensNilSaid : Prop := lensNilRow.holds Try.pinned (OpenSpec.ofChange lensNilSpec)

/-- ITS FALSE NEIGHBOUR: 'it returns false'. Refute it at one input. -/
def lensNilWrong : ChangeSpec := { name := "lensNil", fn := fun _ => fun
  | [d] => { results := [.lit (.bool false)], args := [d] }
  | _ => none }
def LensNilWrongFalsely : Prop := lensNilRow.holds Try.pinned (OpenSpec.ofChange lensNilWrong)

/-- 'cuneiformlaw03.LensPen': WHATEVER THE INPUT: true; the input reads as it did. -/
def lensPenSpec : ChangeSpec := { name := "lensPen", fn := fun _ => fun
  | [d1, d2, d3, d4, d5, d6] => { results := [.lit (.bool true)], args := [d1, d2, d3, d4, d5, d6] }
  | _ => none }
def lensPenRow : OpenClaim := { program := "ytebhlclfiiffbaa", sum := "bc2116dd3f45ccf91fb48d79262cdeac22bd6b8b2a4b6cd2a9bc15fb51516ad1", func := "cuneiform/cuneiformlaw03.LensPen", spec := "lensPen", unfollowed := true, recurses := true, apart := false }
def LensPenSaid : Prop := lensPenRow.holds Try.pinned (OpenSpec.ofChange lensPenSpec)

/-- ITS FALSE NEIGHBOUR: 'it returns false'. Refute it at one input. -/
def lensPenWrong : ChangeSpec := { name := "lensPen", fn := fun _ => fun
  | [d1, d2, d3, d4, d5, d6] => { results := [.lit (.bool false)], args := [d1, d2, d3, d4, d5, d6] }
  | _ => none }
def LensPenWrongFalsely : Prop := lensPenRow.holds Try.pinned (OpenSpec.ofChange lensPenWrong)

/- THE SECOND FORM. 'bulk': how many values and letters a reading holds, each counted each time it is reached (what is shared counts as often as it is met; a slice's spare places count too). A statement '..UptoSaid' is the law's where the arguments, and the package variables that the reading takes, are together of bulk at most 1048576: NARROWER than '..Said'. Prove '..Said' where nothing that the law and all that it calls make is longer than what came in: it says more and counts as full. Else prove '..UptoSaid'. A law counts once. -/
mutual
def uptoBulk {H : Type} : DataW H → Nat
  | .lit (.string bytes) => bytes.length + 1
  | .lit _ => 1
  | .nil => 1
  | .ptr d => uptoBulk d + 1
  | .slice elems spare => uptoBulkAll elems + uptoBulkAll spare + 1
  | .agg parts => uptoBulkAll parts + 1
  | .iface _ d => uptoBulk d + 1
  | .map entries => uptoBulkEntries entries + 1
  | .held _ => 1
def uptoBulkAll {H : Type} : List (DataW H) → Nat
  | [] => 0
  | d :: r => uptoBulk d + uptoBulkAll r
def uptoBulkEntries {H : Type} : List (Lit × DataW H) → Nat
  | [] => 0
  | x :: r => uptoBulkEntry x + uptoBulkEntries r
def uptoBulkEntry {H : Type} : Lit × DataW H → Nat
  | (.string bytes, d) => bytes.length + uptoBulk d + 1
  | (_, d) => uptoBulk d + 1
 end
def uptoSmall : (H : Type) → List (DataW H) → Bool := fun _ ds => decide (uptoBulkAll ds ≤ 1048576)
def OpenSpec.upto (s : _root_.Go.ChangeSpec) : _root_.Go.OpenSpec := { _root_.Go.OpenSpec.ofChange s with cond := some uptoSmall }

/-- 'cuneiformlaw03.LensCuts', WHERE WHAT IT READS IS OF BULK AT MOST 1048576: true; the input reads as it did. -/
def lensCutsUptoRow : OpenClaim := { program := "ytebhlclfiiffbaa", sum := "bc2116dd3f45ccf91fb48d79262cdeac22bd6b8b2a4b6cd2a9bc15fb51516ad1", func := "cuneiform/cuneiformlaw03.LensCuts", spec := "lensCuts", unfollowed := true, recurses := true, apart := false, narrowed := true }
def LensCutsUptoSaid : Prop := lensCutsUptoRow.holds Try.pinned (OpenSpec.upto lensCutsSpec)

/-- 'cuneiformlaw03.LensReads', WHERE WHAT IT READS IS OF BULK AT MOST 1048576: true; the input reads as it did. -/
def lensReadsUptoRow : OpenClaim := { program := "ytebhlclfiiffbaa", sum := "bc2116dd3f45ccf91fb48d79262cdeac22bd6b8b2a4b6cd2a9bc15fb51516ad1", func := "cuneiform/cuneiformlaw03.LensReads", spec := "lensReads", unfollowed := true, recurses := true, apart := false, narrowed := true }
def LensReadsUptoSaid : Prop := lensReadsUptoRow.holds Try.pinned (OpenSpec.upto lensReadsSpec)

/-- 'cuneiformlaw03.LensNil', WHERE WHAT IT READS IS OF BULK AT MOST 1048576: true; the input reads as it did. -/
def lensNilUptoRow : OpenClaim := { program := "ytebhlclfiiffbaa", sum := "bc2116dd3f45ccf91fb48d79262cdeac22bd6b8b2a4b6cd2a9bc15fb51516ad1", func := "cuneiform/cuneiformlaw03.LensNil", spec := "lensNil", unfollowed := true, recurses := true, apart := false, narrowed := true }
def LensNilUptoSaid : Prop := lensNilUptoRow.holds Try.pinned (OpenSpec.upto lensNilSpec)

/-- 'cuneiformlaw03.LensPen', WHERE WHAT IT READS IS OF BULK AT MOST 1048576: true; the input reads as it did. -/
def lensPenUptoRow : OpenClaim := { program := "ytebhlclfiiffbaa", sum := "bc2116dd3f45ccf91fb48d79262cdeac22bd6b8b2a4b6cd2a9bc15fb51516ad1", func := "cuneiform/cuneiformlaw03.LensPen", spec := "lensPen", unfollowed := true, recurses := true, apart := false, narrowed := true }
def LensPenUptoSaid : Prop := lensPenUptoRow.holds Try.pinned (OpenSpec.upto lensPenSpec)

end Rows
end Go.Proofs.Ytebhlclfiiffbaa
