/-
  No cell of these rows narrows 'for every input' (looked for: loops, veiled, ifaces, maps, wideKeys, modest, calm, conditions, laid).
  DERIVED. THE GIVEN ROWS OF THIS SEAT. 4 by the template 'for every input the law returns true; each argument reads behind the call as it read before'; 0 by the template 'total and deterministic' (their statements: YtlkadcahjifolaaTotals.lean).
  GIVEN WITH THE SEED: the statements are not yours to turn. If you find one false, say at which input.
  Laid BY PROGRAM, IN A SANDBOX (cutbox-rows.mjs): the forced cells as the released guide's own fill.sh prints them over the translation daae917ef40aed91… (all of the seat's roots in one cut). By AI agents, Wed Nov 11 2026. No macro, syntax, notation, axiom, sorry.
-/
import Derived.Test.YtlkadcahjifolaaChecked
import GoSem.Claim
import GoSem.ClaimJoined
import GoSem.ClaimMapViews
import Derived.JoinedTies
import Derived.KernelRfl
namespace Go.Proofs.Ytlkadcahjifolaa
/- THE CELL 'sum', in the pinned program and in every row, IS THE sha256 OF THE DUMP (.gsa) THAT YtlkadcahjifolaaProg.lean LOADS. Nothing in Lean hashes anything: it is a label: what it is worth is what the hold of that sum in a sandbox is worth. -/
noncomputable def Try.pinned : Pinned := { name := "ytlkadcahjifolaa", sum := "daae917ef40aed9139d8efb92736a153c295821a6e478c113ebd4b54209a47fb", checked := Try.checked }
namespace Rows
def none {H : Type} : Left H := { results := [], args := [] }

/-- 'cuneiformlaw17.MsgApart': WHATEVER THE INPUT: true; the input reads as it did. -/
def msgApartSpec : ChangeSpec := { name := "msgApart", fn := fun _ => fun
  | [d1, d2] => { results := [.lit (.bool true)], args := [d1, d2] }
  | _ => none }
def msgApartRow : OpenClaim := { program := "ytlkadcahjifolaa", sum := "daae917ef40aed9139d8efb92736a153c295821a6e478c113ebd4b54209a47fb", func := "cuneiform/cuneiformlaw17.MsgApart", spec := "msgApart", unfollowed := true, recurses := true, apart := false }
def MsgApartSaid : Prop := msgApartRow.holds Try.pinned (OpenSpec.ofChange msgApartSpec)

/-- ITS FALSE NEIGHBOUR: 'it returns false'. Refute it at one input. -/
def msgApartWrong : ChangeSpec := { name := "msgApart", fn := fun _ => fun
  | [d1, d2] => { results := [.lit (.bool false)], args := [d1, d2] }
  | _ => none }
def MsgApartWrongFalsely : Prop := msgApartRow.holds Try.pinned (OpenSpec.ofChange msgApartWrong)

/-- 'cuneiformlaw17.MsgNumbers': WHATEVER THE INPUT: true; the input reads as it did. -/
def msgNumbersSpec : ChangeSpec := { name := "msgNumbers", fn := fun _ => fun
  | [d1, d2, d3, d4] => { results := [.lit (.bool true)], args := [d1, d2, d3, d4] }
  | _ => none }
def msgNumbersRow : OpenClaim := { program := "ytlkadcahjifolaa", sum := "daae917ef40aed9139d8efb92736a153c295821a6e478c113ebd4b54209a47fb", func := "cuneiform/cuneiformlaw17.MsgNumbers", spec := "msgNumbers", unfollowed := true, recurses := true, apart := false }
def MsgNumbersSaid : Prop := msgNumbersRow.holds Try.pinned (OpenSpec.ofChange msgNumbersSpec)

/-- ITS FALSE NEIGHBOUR: 'it returns false'. Refute it at one input. -/
def msgNumbersWrong : ChangeSpec := { name := "msgNumbers", fn := fun _ => fun
  | [d1, d2, d3, d4] => { results := [.lit (.bool false)], args := [d1, d2, d3, d4] }
  | _ => none }
def MsgNumbersWrongFalsely : Prop := msgNumbersRow.holds Try.pinned (OpenSpec.ofChange msgNumbersWrong)

/-- 'cuneiformlaw17.MsgChecks': WHATEVER THE INPUT: true; the input reads as it did. -/
def msgChecksSpec : ChangeSpec := { name := "msgChecks", fn := fun _ => fun
  | [d1, d2, d3, d4] => { results := [.lit (.bool true)], args := [d1, d2, d3, d4] }
  | _ => none }
def msgChecksRow : OpenClaim := { program := "ytlkadcahjifolaa", sum := "daae917ef40aed9139d8efb92736a153c295821a6e478c113ebd4b54209a47fb", func := "cuneiform/cuneiformlaw17.MsgChecks", spec := "msgChecks", unfollowed := true, recurses := true, apart := false }
def MsgChecksSaid : Prop := msgChecksRow.holds Try.pinned (OpenSpec.ofChange msgChecksSpec)

/-- ITS FALSE NEIGHBOUR: 'it returns false'. Refute it at one input. -/
def msgChecksWrong : ChangeSpec := { name := "msgChecks", fn := fun _ => fun
  | [d1, d2, d3, d4] => { results := [.lit (.bool false)], args := [d1, d2, d3, d4] }
  | _ => none }
def MsgChecksWrongFalsely : Prop := msgChecksRow.holds Try.pinned (OpenSpec.ofChange msgChecksWrong)

/-- 'cuneiformlaw17.MsgNews': WHATEVER THE INPUT: true; the input reads as it did. -/
def msgNewsSpec : ChangeSpec := { name := "msgNews", fn := fun _ => fun
  | [d1, d2, d3] => { results := [.lit (.bool true)], args := [d1, d2, d3] }
  | _ => none }
def msgNewsRow : OpenClaim := { program := "ytlkadcahjifolaa", sum := "daae917ef40aed9139d8efb92736a153c295821a6e478c113ebd4b54209a47fb", func := "cuneiform/cuneiformlaw17.MsgNews", spec := "msgNews", unfollowed := true, recurses := true, apart := false }
def MsgNewsSaid : Prop := msgNewsRow.holds Try.pinned (OpenSpec.ofChange msgNewsSpec)

/-- ITS FALSE NEIGHBOUR: 'it returns false'. Refute it at one input. -/
def msgNewsWrong : ChangeSpec := { name := "msgNews", fn := fun _ => fun
  | [d1, d2, d3] => { results := [.lit (.bool false)], args := [d1, d2, d3] }
  | _ => none }
def MsgNewsWrongFalsely : Prop := msgNewsRow.holds Try.pinned (OpenSpec.ofChange msgNewsWrong)

/- THE SECOND FORM. 'bulk': how many values and letters a reading holds, each counted each time it is reached (what is shared counts as often as it is met; a slice's spare places count too). A statement '..UptoSaid' is the law's where the arguments, and the package variables that the reading takes, are together of bulk at most 1048576: NARROWER than '..Said'. Prove '..Said' where nothing that the law and all that it calls make is longer than what came in: it says more and counts as full. Else prove '..UptoSaid'. A law counts once. -/
mutual
def uptoBulk {H : Type} : DataW H → Nat
  | .lit (.string bytes) => bytes.length + 1
  | .lit _ => 1
  | .nil => 1
  | .ptr d => uptoBulk d + 1
  | .slice elems spare => uptoBulkAll elems + uptoBulkAll spare + 1
  | .agg parts => uptoBulkAll parts + 1
  | .iface _ d => uptoBulk d + 1
  | .map entries => uptoBulkEntries entries + 1
  | .held _ => 1
def uptoBulkAll {H : Type} : List (DataW H) → Nat
  | [] => 0
  | d :: r => uptoBulk d + uptoBulkAll r
def uptoBulkEntries {H : Type} : List (Lit × DataW H) → Nat
  | [] => 0
  | x :: r => uptoBulkEntry x + uptoBulkEntries r
def uptoBulkEntry {H : Type} : Lit × DataW H → Nat
  | (.string bytes, d) => bytes.length + uptoBulk d + 1
  | (_, d) => uptoBulk d + 1
 end
def uptoSmall : (H : Type) → List (DataW H) → Bool := fun _ ds => decide (uptoBulkAll ds ≤ 1048576)
def OpenSpec.upto (s : _root_.Go.ChangeSpec) : _root_.Go.OpenSpec := { _root_.Go.OpenSpec.ofChange s with cond := some uptoSmall }

/-- 'cuneiformlaw17.MsgApart', WHERE WHAT IT READS IS OF BULK AT MOST 1048576: true; the input reads as it did. -/
def msgApartUptoRow : OpenClaim := { program := "ytlkadcahjifolaa", sum := "daae917ef40aed9139d8efb92736a153c295821a6e478c113ebd4b54209a47fb", func := "cuneiform/cuneiformlaw17.MsgApart", spec := "msgApart", unfollowed := true, recurses := true, apart := false, narrowed := true }
def MsgApartUptoSaid : Prop := msgApartUptoRow.holds Try.pinned (OpenSpec.upto msgApartSpec)

/-- 'cuneiformlaw17.MsgNumbers', WHERE WHAT IT READS IS OF BULK AT MOST 1048576: true; the input reads as it did. -/
def msgNumbersUptoRow : OpenClaim := { program := "ytlkadcahjifolaa", sum := "daae917ef40aed9139d8efb92736a153c295821a6e478c113ebd4b54209a47fb", func := "cuneiform/cuneiformlaw17.MsgNumbers", spec := "msgNumbers", unfollowed := true, recurses := true, apart := false, narrowed := true }
def MsgNumbersUptoSaid : Prop := msgNumbersUptoRow.holds Try.pinned (OpenSpec.upto msgNumbersSpec)

/-- 'cuneiformlaw17.MsgChecks', WHERE WHAT IT READS IS OF BULK AT MOST 1048576: true; the input reads as it did. -/
def msgChecksUptoRow : OpenClaim := { program := "ytlkadcahjifolaa", sum := "daae917ef40aed9139d8efb92736a153c295821a6e478c113ebd4b54209a47fb", func := "cuneiform/cuneiformlaw17.MsgChecks", spec := "msgChecks", unfollowed := true, recurses := true, apart := false, narrowed := true }
def MsgChecksUptoSaid : Prop := msgChecksUptoRow.holds Try.pinned (OpenSpec.upto msgChecksSpec)

/-- 'cuneiformlaw17.MsgNews', WHERE WHAT IT READS IS OF BULK AT MOST 1048576: true; the input reads as it did. -/
def msgNewsUptoRow : OpenClaim := { program := "ytlkadcahjifolaa", sum := "daae917ef40aed9139d8efb92736a153c295821a6e478c113ebd4b54209a47fb", func := "cuneiform/cuneiformlaw17.MsgNews", spec := "msgNews", unfollowed := true, recurses := true, apart := false, narrowed := true }
def MsgNewsUptoSaid : Prop := msgNewsUptoRow.holds Try.pinned (OpenSpec.upto msgNewsSpec)

end Rows
end Go.Proofs.Ytlkadcahjifolaa
