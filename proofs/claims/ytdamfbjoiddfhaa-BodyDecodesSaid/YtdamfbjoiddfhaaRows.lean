/-
  No cell of these rows narrows 'for every input' (looked for: loops, veiled, ifaces, maps, wideKeys, modest, calm, conditions, laid).
  DERIVED. THE GIVEN ROWS OF THIS SEAT. 4 by the template 'for every input the law returns true; each argument reads behind the call as it read before'; 0 by the template 'total and deterministic' (their statements: YtdamfbjoiddfhaaTotals.lean).
  GIVEN WITH THE SEED: the statements are not yours to turn. If you find one false, say at which input.
  Laid BY PROGRAM, IN A SANDBOX (cutbox-rows.mjs): the forced cells as the released guide's own fill.sh prints them over the translation dc53a0996640f7bf… (all of the seat's roots in one cut). By AI agents, Wed Nov 11 2026. No macro, syntax, notation, axiom, sorry.
-/
import Derived.Test.YtdamfbjoiddfhaaChecked
import GoSem.Claim
import GoSem.ClaimJoined
import GoSem.ClaimMapViews
import Derived.JoinedTies
import Derived.KernelRfl
namespace Go.Proofs.Ytdamfbjoiddfhaa
/- THE CELL 'sum', in the pinned program and in every row, IS THE sha256 OF THE DUMP (.gsa) THAT YtdamfbjoiddfhaaProg.lean LOADS. Nothing in Lean hashes anything: it is a label: what it is worth is what the hold of that sum in a sandbox is worth. -/
noncomputable def Try.pinned : Pinned := { name := "ytdamfbjoiddfhaa", sum := "dc53a0996640f7bf00ccaa872b690a836471cbdc3a85488a5e92c5e8964938c8", checked := Try.checked }
namespace Rows
def none {H : Type} : Left H := { results := [], args := [] }

/-- 'cuneiformlaw18.BodyDecodes': WHATEVER THE INPUT: true; the input reads as it did. -/
def bodyDecodesSpec : ChangeSpec := { name := "bodyDecodes", fn := fun _ => fun
  | [d1, d2, d3] => { results := [.lit (.bool true)], args := [d1, d2, d3] }
  | _ => none }
def bodyDecodesRow : OpenClaim := { program := "ytdamfbjoiddfhaa", sum := "dc53a0996640f7bf00ccaa872b690a836471cbdc3a85488a5e92c5e8964938c8", func := "cuneiform/cuneiformlaw18.BodyDecodes", spec := "bodyDecodes", unfollowed := true, recurses := true, apart := false }
def BodyDecodesSaid : Prop := bodyDecodesRow.holds Try.pinned (OpenSpec.ofChange bodyDecodesSpec)

/-- ITS FALSE NEIGHBOUR: 'it returns false'. Refute it at one input. -/
def bodyDecodesWrong : ChangeSpec := { name := "bodyDecodes", fn := fun _ => fun
  | [d1, d2, d3] => { results := [.lit (.bool false)], args := [d1, d2, d3] }
  | _ => none }
def BodyDecodesWrongFalsely : Prop := bodyDecodesRow.holds Try.pinned (OpenSpec.ofChange bodyDecodesWrong)

/-- 'cuneiformlaw18.BodyCuts': WHATEVER THE INPUT: true; the input reads as it did. -/
def bodyCutsSpec : ChangeSpec := { name := "bodyCuts", fn := fun _ => fun
  | [d1, d2, d3] => { results := [.lit (.bool true)], args := [d1, d2, d3] }
  | _ => none }
def bodyCutsRow : OpenClaim := { program := "ytdamfbjoiddfhaa", sum := "dc53a0996640f7bf00ccaa872b690a836471cbdc3a85488a5e92c5e8964938c8", func := "cuneiform/cuneiformlaw18.BodyCuts", spec := "bodyCuts", unfollowed := true, recurses := true, apart := false }
def BodyCutsSaid : Prop := bodyCutsRow.holds Try.pinned (OpenSpec.ofChange bodyCutsSpec)

/-- ITS FALSE NEIGHBOUR: 'it returns false'. Refute it at one input. -/
def bodyCutsWrong : ChangeSpec := { name := "bodyCuts", fn := fun _ => fun
  | [d1, d2, d3] => { results := [.lit (.bool false)], args := [d1, d2, d3] }
  | _ => none }
def BodyCutsWrongFalsely : Prop := bodyCutsRow.holds Try.pinned (OpenSpec.ofChange bodyCutsWrong)

/-- 'cuneiformlaw18.BodyVersions': WHATEVER THE INPUT: true; the input reads as it did. -/
def bodyVersionsSpec : ChangeSpec := { name := "bodyVersions", fn := fun _ => fun
  | [d] => { results := [.lit (.bool true)], args := [d] }
  | _ => none }
def bodyVersionsRow : OpenClaim := { program := "ytdamfbjoiddfhaa", sum := "dc53a0996640f7bf00ccaa872b690a836471cbdc3a85488a5e92c5e8964938c8", func := "cuneiform/cuneiformlaw18.BodyVersions", spec := "bodyVersions", unfollowed := true, recurses := true, apart := false }
def BodyVersionsSaid : Prop := bodyVersionsRow.holds Try.pinned (OpenSpec.ofChange bodyVersionsSpec)

/-- ITS FALSE NEIGHBOUR: 'it returns false'. Refute it at one input. -/
def bodyVersionsWrong : ChangeSpec := { name := "bodyVersions", fn := fun _ => fun
  | [d] => { results := [.lit (.bool false)], args := [d] }
  | _ => none }
def BodyVersionsWrongFalsely : Prop := bodyVersionsRow.holds Try.pinned (OpenSpec.ofChange bodyVersionsWrong)

/-- 'cuneiformlaw18.BodyEncodes': WHATEVER THE INPUT: true; the input reads as it did. -/
def bodyEncodesSpec : ChangeSpec := { name := "bodyEncodes", fn := fun _ => fun
  | [d1, d2] => { results := [.lit (.bool true)], args := [d1, d2] }
  | _ => none }
def bodyEncodesRow : OpenClaim := { program := "ytdamfbjoiddfhaa", sum := "dc53a0996640f7bf00ccaa872b690a836471cbdc3a85488a5e92c5e8964938c8", func := "cuneiform/cuneiformlaw18.BodyEncodes", spec := "bodyEncodes", unfollowed := true, recurses := true, apart := false }
def BodyEncodesSaid : Prop := bodyEncodesRow.holds Try.pinned (OpenSpec.ofChange bodyEncodesSpec)

/-- ITS FALSE NEIGHBOUR: 'it returns false'. Refute it at one input. -/
def bodyEncodesWrong : ChangeSpec := { name := "bodyEncodes", fn := fun _ => fun
  | [d1, d2] => { results := [.lit (.bool false)], args := [d1, d2] }
  | _ => none }
def BodyEncodesWrongFalsely : Prop := bodyEncodesRow.holds Try.pinned (OpenSpec.ofChange bodyEncodesWrong)

/- THE SECOND FORM. 'bulk': how many values and letters a reading holds, each counted each time it is reached (what is shared counts as often as it is met; a slice's spare places count too). A statement '..UptoSaid' is the law's where the arguments, and the package variables that the reading takes, are together of bulk at most 1048576: NARROWER than '..Said'. Prove '..Said' where nothing that the law and all that it calls make is longer than what came in: it says more and counts as full. Else prove '..UptoSaid'. A law counts once. -/
mutual
def uptoBulk {H : Type} : DataW H → Nat
  | .lit (.string bytes) => bytes.length + 1
  | .lit _ => 1
  | .nil => 1
  | .ptr d => uptoBulk d + 1
  | .slice elems spare => uptoBulkAll elems + uptoBulkAll spare + 1
  | .agg parts => uptoBulkAll parts + 1
  | .iface _ d => uptoBulk d + 1
  | .map entries => uptoBulkEntries entries + 1
  | .held _ => 1
def uptoBulkAll {H : Type} : List (DataW H) → Nat
  | [] => 0
  | d :: r => uptoBulk d + uptoBulkAll r
def uptoBulkEntries {H : Type} : List (Lit × DataW H) → Nat
  | [] => 0
  | x :: r => uptoBulkEntry x + uptoBulkEntries r
def uptoBulkEntry {H : Type} : Lit × DataW H → Nat
  | (.string bytes, d) => bytes.length + uptoBulk d + 1
  | (_, d) => uptoBulk d + 1
 end
def uptoSmall : (H : Type) → List (DataW H) → Bool := fun _ ds => decide (uptoBulkAll ds ≤ 1048576)
def OpenSpec.upto (s : _root_.Go.ChangeSpec) : _root_.Go.OpenSpec := { _root_.Go.OpenSpec.ofChange s with cond := some uptoSmall }

/-- 'cuneiformlaw18.BodyDecodes', WHERE WHAT IT READS IS OF BULK AT MOST 1048576: true; the input reads as it did. -/
def bodyDecodesUptoRow : OpenClaim := { program := "ytdamfbjoiddfhaa", sum := "dc53a0996640f7bf00ccaa872b690a836471cbdc3a85488a5e92c5e8964938c8", func := "cuneiform/cuneiformlaw18.BodyDecodes", spec := "bodyDecodes", unfollowed := true, recurses := true, apart := false, narrowed := true }
def BodyDecodesUptoSaid : Prop := bodyDecodesUptoRow.holds Try.pinned (OpenSpec.upto bodyDecodesSpec)

/-- 'cuneiformlaw18.BodyCuts', WHERE WHAT IT READS IS OF BULK AT MOST 1048576: true; the input reads as it did. -/
def bodyCutsUptoRow : OpenClaim := { program := "ytdamfbjoiddfhaa", sum := "dc53a0996640f7bf00ccaa872b690a836471cbdc3a85488a5e92c5e8964938c8", func := "cuneiform/cuneiformlaw18.BodyCuts", spec := "bodyCuts", unfollowed := true, recurses := true, apart := false, narrowed := true }
def BodyCutsUptoSaid : Prop := bodyCutsUptoRow.holds Try.pinned (OpenSpec.upto bodyCutsSpec)

/-- 'cuneiformlaw18.BodyVersions', WHERE WHAT IT READS IS OF BULK AT MOST 1048576: true; the input reads as it did. -/
def bodyVersionsUptoRow : OpenClaim := { program := "ytdamfbjoiddfhaa", sum := "dc53a0996640f7bf00ccaa872b690a836471cbdc3a85488a5e92c5e8964938c8", func := "cuneiform/cuneiformlaw18.BodyVersions", spec := "bodyVersions", unfollowed := true, recurses := true, apart := false, narrowed := true }
def BodyVersionsUptoSaid : Prop := bodyVersionsUptoRow.holds Try.pinned (OpenSpec.upto bodyVersionsSpec)

/-- 'cuneiformlaw18.BodyEncodes', WHERE WHAT IT READS IS OF BULK AT MOST 1048576: true; the input reads as it did. -/
def bodyEncodesUptoRow : OpenClaim := { program := "ytdamfbjoiddfhaa", sum := "dc53a0996640f7bf00ccaa872b690a836471cbdc3a85488a5e92c5e8964938c8", func := "cuneiform/cuneiformlaw18.BodyEncodes", spec := "bodyEncodes", unfollowed := true, recurses := true, apart := false, narrowed := true }
def BodyEncodesUptoSaid : Prop := bodyEncodesUptoRow.holds Try.pinned (OpenSpec.upto bodyEncodesSpec)

end Rows
end Go.Proofs.Ytdamfbjoiddfhaa
