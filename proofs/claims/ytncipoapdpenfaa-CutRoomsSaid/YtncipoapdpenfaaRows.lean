/-
  No cell of these rows narrows 'for every input' (looked for: loops, veiled, ifaces, maps, wideKeys, modest, calm, conditions, laid).
  DERIVED. THE GIVEN ROWS OF THIS SEAT. 3 by the template 'for every input the law returns true; each argument reads behind the call as it read before'; 0 by the template 'total and deterministic' (their statements: YtncipoapdpenfaaTotals.lean).
  GIVEN WITH THE SEED: the statements are not yours to turn. If you find one false, say at which input.
  Laid BY PROGRAM, IN A SANDBOX (cutbox-rows.mjs): the forced cells as the released guide's own fill.sh prints them over the translation dca23339bd620695… (all of the seat's roots in one cut). By AI agents, Wed Nov 11 2026. No macro, syntax, notation, axiom, sorry.
-/
import Derived.Test.YtncipoapdpenfaaChecked
import GoSem.Claim
import GoSem.ClaimJoined
import GoSem.ClaimMapViews
import Derived.JoinedTies
import Derived.KernelRfl
namespace Go.Proofs.Ytncipoapdpenfaa
/- THE CELL 'sum', in the pinned program and in every row, IS THE sha256 OF THE DUMP (.gsa) THAT YtncipoapdpenfaaProg.lean LOADS. Nothing in Lean hashes anything: it is a label: what it is worth is what the hold of that sum in a sandbox is worth. -/
noncomputable def Try.pinned : Pinned := { name := "ytncipoapdpenfaa", sum := "dca23339bd62069541be48b59e9c27d3f16b17c403bf2b18c1abe62fe8d901b9", checked := Try.checked }
namespace Rows
def none {H : Type} : Left H := { results := [], args := [] }

/-- 'cuneiformlaw12.CutFrames': WHATEVER THE INPUT: true; the input reads as it did. -/
def cutFramesSpec : ChangeSpec := { name := "cutFrames", fn := fun _ => fun
  | [d1, d2, d3] => { results := [.lit (.bool true)], args := [d1, d2, d3] }
  | _ => none }
def cutFramesRow : OpenClaim := { program := "ytncipoapdpenfaa", sum := "dca23339bd62069541be48b59e9c27d3f16b17c403bf2b18c1abe62fe8d901b9", func := "cuneiform/cuneiformlaw12.CutFrames", spec := "cutFrames", unfollowed := true, recurses := true, apart := false }
def CutFramesSaid : Prop := cutFramesRow.holds Try.pinned (OpenSpec.ofChange cutFramesSpec)

/-- ITS FALSE NEIGHBOUR: 'it returns false'. Refute it at one input. -/
def cutFramesWrong : ChangeSpec := { name := "cutFrames", fn := fun _ => fun
  | [d1, d2, d3] => { results := [.lit (.bool false)], args := [d1, d2, d3] }
  | _ => none }
def CutFramesWrongFalsely : Prop := cutFramesRow.holds Try.pinned (OpenSpec.ofChange cutFramesWrong)

/-- 'cuneiformlaw12.CutWholes': WHATEVER THE INPUT: true; the input reads as it did. -/
def cutWholesSpec : ChangeSpec := { name := "cutWholes", fn := fun _ => fun
  | [d] => { results := [.lit (.bool true)], args := [d] }
  | _ => none }
def cutWholesRow : OpenClaim := { program := "ytncipoapdpenfaa", sum := "dca23339bd62069541be48b59e9c27d3f16b17c403bf2b18c1abe62fe8d901b9", func := "cuneiform/cuneiformlaw12.CutWholes", spec := "cutWholes", unfollowed := true, recurses := true, apart := false }
def CutWholesSaid : Prop := cutWholesRow.holds Try.pinned (OpenSpec.ofChange cutWholesSpec)

/-- ITS FALSE NEIGHBOUR: 'it returns false'. Refute it at one input. -/
def cutWholesWrong : ChangeSpec := { name := "cutWholes", fn := fun _ => fun
  | [d] => { results := [.lit (.bool false)], args := [d] }
  | _ => none }
def CutWholesWrongFalsely : Prop := cutWholesRow.holds Try.pinned (OpenSpec.ofChange cutWholesWrong)

/-- 'cuneiformlaw12.CutRooms': WHATEVER THE INPUT: true; the input reads as it did. -/
def cutRoomsSpec : ChangeSpec := { name := "cutRooms", fn := fun _ => fun
  | [d1, d2, d3, d4] => { results := [.lit (.bool true)], args := [d1, d2, d3, d4] }
  | _ => none }
def cutRoomsRow : OpenClaim := { program := "ytncipoapdpenfaa", sum := "dca23339bd62069541be48b59e9c27d3f16b17c403bf2b18c1abe62fe8d901b9", func := "cuneiform/cuneiformlaw12.CutRooms", spec := "cutRooms", unfollowed := true, recurses := true, apart := false }
def CutRoomsSaid : Prop := cutRoomsRow.holds Try.pinned (OpenSpec.ofChange cutRoomsSpec)

/-- ITS FALSE NEIGHBOUR: 'it returns false'. Refute it at one input. -/
def cutRoomsWrong : ChangeSpec := { name := "cutRooms", fn := fun _ => fun
  | [d1, d2, d3, d4] => { results := [.lit (.bool false)], args := [d1, d2, d3, d4] }
  | _ => none }
def CutRoomsWrongFalsely : Prop := cutRoomsRow.holds Try.pinned (OpenSpec.ofChange cutRoomsWrong)

/- THE SECOND FORM. 'bulk': how many values and letters a reading holds, each counted each time it is reached (what is shared counts as often as it is met; a slice's spare places count too). A statement '..UptoSaid' is the law's where the arguments, and the package variables that the reading takes, are together of bulk at most 1048576: NARROWER than '..Said'. Prove '..Said' where nothing that the law and all that it calls make is longer than what came in: it says more and counts as full. Else prove '..UptoSaid'. A law counts once. -/
mutual
def uptoBulk {H : Type} : DataW H → Nat
  | .lit (.string bytes) => bytes.length + 1
  | .lit _ => 1
  | .nil => 1
  | .ptr d => uptoBulk d + 1
  | .slice elems spare => uptoBulkAll elems + uptoBulkAll spare + 1
  | .agg parts => uptoBulkAll parts + 1
  | .iface _ d => uptoBulk d + 1
  | .map entries => uptoBulkEntries entries + 1
  | .held _ => 1
def uptoBulkAll {H : Type} : List (DataW H) → Nat
  | [] => 0
  | d :: r => uptoBulk d + uptoBulkAll r
def uptoBulkEntries {H : Type} : List (Lit × DataW H) → Nat
  | [] => 0
  | x :: r => uptoBulkEntry x + uptoBulkEntries r
def uptoBulkEntry {H : Type} : Lit × DataW H → Nat
  | (.string bytes, d) => bytes.length + uptoBulk d + 1
  | (_, d) => uptoBulk d + 1
 end
def uptoSmall : (H : Type) → List (DataW H) → Bool := fun _ ds => decide (uptoBulkAll ds ≤ 1048576)
def OpenSpec.upto (s : _root_.Go.ChangeSpec) : _root_.Go.OpenSpec := { _root_.Go.OpenSpec.ofChange s with cond := some uptoSmall }

/-- 'cuneiformlaw12.CutFrames', WHERE WHAT IT READS IS OF BULK AT MOST 1048576: true; the input reads as it did. -/
def cutFramesUptoRow : OpenClaim := { program := "ytncipoapdpenfaa", sum := "dca23339bd62069541be48b59e9c27d3f16b17c403bf2b18c1abe62fe8d901b9", func := "cuneiform/cuneiformlaw12.CutFrames", spec := "cutFrames", unfollowed := true, recurses := true, apart := false, narrowed := true }
def CutFramesUptoSaid : Prop := cutFramesUptoRow.holds Try.pinned (OpenSpec.upto cutFramesSpec)

/-- 'cuneiformlaw12.CutWholes', WHERE WHAT IT READS IS OF BULK AT MOST 1048576: true; the input reads as it did. -/
def cutWholesUptoRow : OpenClaim := { program := "ytncipoapdpenfaa", sum := "dca23339bd62069541be48b59e9c27d3f16b17c403bf2b18c1abe62fe8d901b9", func := "cuneiform/cuneiformlaw12.CutWholes", spec := "cutWholes", unfollowed := true, recurses := true, apart := false, narrowed := true }
def CutWholesUptoSaid : Prop := cutWholesUptoRow.holds Try.pinned (OpenSpec.upto cutWholesSpec)

/-- 'cuneiformlaw12.CutRooms', WHERE WHAT IT READS IS OF BULK AT MOST 1048576: true; the input reads as it did. -/
def cutRoomsUptoRow : OpenClaim := { program := "ytncipoapdpenfaa", sum := "dca23339bd62069541be48b59e9c27d3f16b17c403bf2b18c1abe62fe8d901b9", func := "cuneiform/cuneiformlaw12.CutRooms", spec := "cutRooms", unfollowed := true, recurses := true, apart := false, narrowed := true }
def CutRoomsUptoSaid : Prop := cutRoomsUptoRow.holds Try.pinned (OpenSpec.upto cutRoomsSpec)

end Rows
end Go.Proofs.Ytncipoapdpenfaa
