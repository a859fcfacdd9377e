/-
  No cell of these rows narrows 'for every input' (looked for: loops, veiled, ifaces, maps, wideKeys, modest, calm, conditions, laid).
  DERIVED. THE GIVEN ROWS OF THIS SEAT. 4 by the template 'for every input the law returns true; each argument reads behind the call as it read before'; 0 by the template 'total and deterministic' (their statements: YtamcfgdnhgmkpaaTotals.lean).
  GIVEN WITH THE SEED: the statements are not yours to turn. If you find one false, say at which input.
  Laid BY PROGRAM, IN A SANDBOX (cutbox-rows.mjs): the forced cells as the released guide's own fill.sh prints them over the translation 105f0a4eddd4aa10… (all of the seat's roots in one cut). By AI agents, Wed Nov 11 2026. No macro, syntax, notation, axiom, sorry.
-/
import Derived.Test.YtamcfgdnhgmkpaaChecked
import GoSem.Claim
import GoSem.ClaimJoined
import GoSem.ClaimMapViews
import Derived.JoinedTies
import Derived.KernelRfl
namespace Go.Proofs.Ytamcfgdnhgmkpaa
/- THE CELL 'sum', in the pinned program and in every row, IS THE sha256 OF THE DUMP (.gsa) THAT YtamcfgdnhgmkpaaProg.lean LOADS. Nothing in Lean hashes anything: it is a label: what it is worth is what the hold of that sum in a sandbox is worth. -/
noncomputable def Try.pinned : Pinned := { name := "ytamcfgdnhgmkpaa", sum := "105f0a4eddd4aa106ec9e71d888d709c0f326ba1018bd71a14d049f50dde7f74", checked := Try.checked }
namespace Rows
def none {H : Type} : Left H := { results := [], args := [] }

/-- 'cuneiformlaw14.TableNext': WHATEVER THE INPUT: true; the input reads as it did. -/
def tableNextSpec : ChangeSpec := { name := "tableNext", fn := fun _ => fun
  | [d1, d2, d3, d4, d5, d6] => { results := [.lit (.bool true)], args := [d1, d2, d3, d4, d5, d6] }
  | _ => none }
def tableNextRow : OpenClaim := { program := "ytamcfgdnhgmkpaa", sum := "105f0a4eddd4aa106ec9e71d888d709c0f326ba1018bd71a14d049f50dde7f74", func := "cuneiform/cuneiformlaw14.TableNext", spec := "tableNext", unfollowed := true, recurses := true, apart := false }
def TableNextSaid : Prop := tableNextRow.holds Try.pinned (OpenSpec.ofChange tableNextSpec)

/-- ITS FALSE NEIGHBOUR: 'it returns false'. Refute it at one input. -/
def tableNextWrong : ChangeSpec := { name := "tableNext", fn := fun _ => fun
  | [d1, d2, d3, d4, d5, d6] => { results := [.lit (.bool false)], args := [d1, d2, d3, d4, d5, d6] }
  | _ => none }
def TableNextWrongFalsely : Prop := tableNextRow.holds Try.pinned (OpenSpec.ofChange tableNextWrong)

/-- 'cuneiformlaw14.TableBounds': WHATEVER THE INPUT: true; the input reads as it did. -/
def tableBoundsSpec : ChangeSpec := { name := "tableBounds", fn := fun _ => fun
  | [d1, d2] => { results := [.lit (.bool true)], args := [d1, d2] }
  | _ => none }
def tableBoundsRow : OpenClaim := { program := "ytamcfgdnhgmkpaa", sum := "105f0a4eddd4aa106ec9e71d888d709c0f326ba1018bd71a14d049f50dde7f74", func := "cuneiform/cuneiformlaw14.TableBounds", spec := "tableBounds", unfollowed := true, recurses := true, apart := false }
def TableBoundsSaid : Prop := tableBoundsRow.holds Try.pinned (OpenSpec.ofChange tableBoundsSpec)

/-- ITS FALSE NEIGHBOUR: 'it returns false'. Refute it at one input. -/
def tableBoundsWrong : ChangeSpec := { name := "tableBounds", fn := fun _ => fun
  | [d1, d2] => { results := [.lit (.bool false)], args := [d1, d2] }
  | _ => none }
def TableBoundsWrongFalsely : Prop := tableBoundsRow.holds Try.pinned (OpenSpec.ofChange tableBoundsWrong)

/-- 'cuneiformlaw14.TableNil': WHATEVER THE INPUT: true; the input reads as it did. -/
def tableNilSpec : ChangeSpec := { name := "tableNil", fn := fun _ => fun
  | [d] => { results := [.lit (.bool true)], args := [d] }
  | _ => none }
def tableNilRow : OpenClaim := { program := "ytamcfgdnhgmkpaa", sum := "105f0a4eddd4aa106ec9e71d888d709c0f326ba1018bd71a14d049f50dde7f74", func := "cuneiform/cuneiformlaw14.TableNil", spec := "tableNil", inPlace := ["maps.clone"], unfollowed := true, recurses := true, apart := false }
def TableNilSaid : Prop := tableNilRow.holds Try.pinned (OpenSpec.ofChange tableNilSpec)

/-- ITS FALSE NEIGHBOUR: 'it returns false'. Refute it at one input. -/
def tableNilWrong : ChangeSpec := { name := "tableNil", fn := fun _ => fun
  | [d] => { results := [.lit (.bool false)], args := [d] }
  | _ => none }
def TableNilWrongFalsely : Prop := tableNilRow.holds Try.pinned (OpenSpec.ofChange tableNilWrong)

/-- 'cuneiformlaw14.TablePlays': WHATEVER THE INPUT: true; the input reads as it did. -/
def tablePlaysSpec : ChangeSpec := { name := "tablePlays", fn := fun _ => fun
  | [d1, d2] => { results := [.lit (.bool true)], args := [d1, d2] }
  | _ => none }
def tablePlaysRow : OpenClaim := { program := "ytamcfgdnhgmkpaa", sum := "105f0a4eddd4aa106ec9e71d888d709c0f326ba1018bd71a14d049f50dde7f74", func := "cuneiform/cuneiformlaw14.TablePlays", spec := "tablePlays", inPlace := ["maps.clone"], unfollowed := true, recurses := true, apart := false }
def TablePlaysSaid : Prop := tablePlaysRow.holds Try.pinned (OpenSpec.ofChange tablePlaysSpec)

/-- ITS FALSE NEIGHBOUR: 'it returns false'. Refute it at one input. -/
def tablePlaysWrong : ChangeSpec := { name := "tablePlays", fn := fun _ => fun
  | [d1, d2] => { results := [.lit (.bool false)], args := [d1, d2] }
  | _ => none }
def TablePlaysWrongFalsely : Prop := tablePlaysRow.holds Try.pinned (OpenSpec.ofChange tablePlaysWrong)

/- THE SECOND FORM. 'bulk': how many values and letters a reading holds, each counted each time it is reached (what is shared counts as often as it is met; a slice's spare places count too). A statement '..UptoSaid' is the law's where the arguments, and the package variables that the reading takes, are together of bulk at most 1048576: NARROWER than '..Said'. Prove '..Said' where nothing that the law and all that it calls make is longer than what came in: it says more and counts as full. Else prove '..UptoSaid'. A law counts once. -/
mutual
def uptoBulk {H : Type} : DataW H → Nat
  | .lit (.string bytes) => bytes.length + 1
  | .lit _ => 1
  | .nil => 1
  | .ptr d => uptoBulk d + 1
  | .slice elems spare => uptoBulkAll elems + uptoBulkAll spare + 1
  | .agg parts => uptoBulkAll parts + 1
  | .iface _ d => uptoBulk d + 1
  | .map entries => uptoBulkEntries entries + 1
  | .held _ => 1
def uptoBulkAll {H : Type} : List (DataW H) → Nat
  | [] => 0
  | d :: r => uptoBulk d + uptoBulkAll r
def uptoBulkEntries {H : Type} : List (Lit × DataW H) → Nat
  | [] => 0
  | x :: r => uptoBulkEntry x + uptoBulkEntries r
def uptoBulkEntry {H : Type} : Lit × DataW H → Nat
  | (.string bytes, d) => bytes.length + uptoBulk d + 1
  | (_, d) => uptoBulk d + 1
 end
def uptoSmall : (H : Type) → List (DataW H) → Bool := fun _ ds => decide (uptoBulkAll ds ≤ 1048576)
def OpenSpec.upto (s : _root_.Go.ChangeSpec) : _root_.Go.OpenSpec := { _root_.Go.OpenSpec.ofChange s with cond := some uptoSmall }

/-- 'cuneiformlaw14.TableNext', WHERE WHAT IT READS IS OF BULK AT MOST 1048576: true; the input reads as it did. -/
def tableNextUptoRow : OpenClaim := { program := "ytamcfgdnhgmkpaa", sum := "105f0a4eddd4aa106ec9e71d888d709c0f326ba1018bd71a14d049f50dde7f74", func := "cuneiform/cuneiformlaw14.TableNext", spec := "tableNext", unfollowed := true, recurses := true, apart := false, narrowed := true }
def TableNextUptoSaid : Prop := tableNextUptoRow.holds Try.pinned (OpenSpec.upto tableNextSpec)

/-- 'cuneiformlaw14.TableBounds', WHERE WHAT IT READS IS OF BULK AT MOST 1048576: true; the input reads as it did. -/
def tableBoundsUptoRow : OpenClaim := { program := "ytamcfgdnhgmkpaa", sum := "105f0a4eddd4aa106ec9e71d888d709c0f326ba1018bd71a14d049f50dde7f74", func := "cuneiform/cuneiformlaw14.TableBounds", spec := "tableBounds", unfollowed := true, recurses := true, apart := false, narrowed := true }
def TableBoundsUptoSaid : Prop := tableBoundsUptoRow.holds Try.pinned (OpenSpec.upto tableBoundsSpec)

/-- 'cuneiformlaw14.TableNil', WHERE WHAT IT READS IS OF BULK AT MOST 1048576: true; the input reads as it did. -/
def tableNilUptoRow : OpenClaim := { program := "ytamcfgdnhgmkpaa", sum := "105f0a4eddd4aa106ec9e71d888d709c0f326ba1018bd71a14d049f50dde7f74", func := "cuneiform/cuneiformlaw14.TableNil", spec := "tableNil", inPlace := ["maps.clone"], unfollowed := true, recurses := true, apart := false, narrowed := true }
def TableNilUptoSaid : Prop := tableNilUptoRow.holds Try.pinned (OpenSpec.upto tableNilSpec)

/-- 'cuneiformlaw14.TablePlays', WHERE WHAT IT READS IS OF BULK AT MOST 1048576: true; the input reads as it did. -/
def tablePlaysUptoRow : OpenClaim := { program := "ytamcfgdnhgmkpaa", sum := "105f0a4eddd4aa106ec9e71d888d709c0f326ba1018bd71a14d049f50dde7f74", func := "cuneiform/cuneiformlaw14.TablePlays", spec := "tablePlays", inPlace := ["maps.clone"], unfollowed := true, recurses := true, apart := false, narrowed := true }
def TablePlaysUptoSaid : Prop := tablePlaysUptoRow.holds Try.pinned (OpenSpec.upto tablePlaysSpec)

end Rows
end Go.Proofs.Ytamcfgdnhgmkpaa
