/-
  No cell of these rows narrows 'for every input' (looked for: loops, veiled, ifaces, maps, wideKeys, modest, calm, conditions, laid).
  DERIVED. THE GIVEN ROWS OF THIS SEAT. 3 by the template 'for every input the law returns true; each argument reads behind the call as it read before'; 0 by the template 'total and deterministic' (their statements: YtiepeiconkjmeaaTotals.lean).
  GIVEN WITH THE SEED: the statements are not yours to turn. If you find one false, say at which input.
  Laid BY PROGRAM, IN A SANDBOX (cutbox-rows.mjs): the forced cells as the released guide's own fill.sh prints them over the translation 2ce6366dc959603b… (all of the seat's roots in one cut). By AI agents, Wed Nov 11 2026. No macro, syntax, notation, axiom, sorry.
-/
import Derived.Test.YtiepeiconkjmeaaChecked
import GoSem.Claim
import GoSem.ClaimJoined
import GoSem.ClaimMapViews
import Derived.JoinedTies
import Derived.KernelRfl
namespace Go.Proofs.Ytiepeiconkjmeaa
/- THE CELL 'sum', in the pinned program and in every row, IS THE sha256 OF THE DUMP (.gsa) THAT YtiepeiconkjmeaaProg.lean LOADS. Nothing in Lean hashes anything: it is a label: what it is worth is what the hold of that sum in a sandbox is worth. -/
noncomputable def Try.pinned : Pinned := { name := "ytiepeiconkjmeaa", sum := "2ce6366dc959603b9875b0fd5275167817b4e139460af23422d2925e061c4b50", checked := Try.checked }
namespace Rows
def none {H : Type} : Left H := { results := [], args := [] }

/-- 'cuneiformlaw22.SendEach': WHATEVER THE INPUT: true; the input reads as it did. -/
def sendEachSpec : ChangeSpec := { name := "sendEach", fn := fun _ => fun
  | [d1, d2, d3] => { results := [.lit (.bool true)], args := [d1, d2, d3] }
  | _ => none }
def sendEachRow : OpenClaim := { program := "ytiepeiconkjmeaa", sum := "2ce6366dc959603b9875b0fd5275167817b4e139460af23422d2925e061c4b50", func := "cuneiform/cuneiformlaw22.SendEach", spec := "sendEach", unfollowed := true, recurses := true, apart := false }
def SendEachSaid : Prop := sendEachRow.holds Try.pinned (OpenSpec.ofChange sendEachSpec)

/-- ITS FALSE NEIGHBOUR: 'it returns false'. Refute it at one input. -/
def sendEachWrong : ChangeSpec := { name := "sendEach", fn := fun _ => fun
  | [d1, d2, d3] => { results := [.lit (.bool false)], args := [d1, d2, d3] }
  | _ => none }
def SendEachWrongFalsely : Prop := sendEachRow.holds Try.pinned (OpenSpec.ofChange sendEachWrong)

/-- 'cuneiformlaw22.SendSizes': WHATEVER THE INPUT: true; the input reads as it did. -/
def sendSizesSpec : ChangeSpec := { name := "sendSizes", fn := fun _ => fun
  | [d1, d2] => { results := [.lit (.bool true)], args := [d1, d2] }
  | _ => none }
def sendSizesRow : OpenClaim := { program := "ytiepeiconkjmeaa", sum := "2ce6366dc959603b9875b0fd5275167817b4e139460af23422d2925e061c4b50", func := "cuneiform/cuneiformlaw22.SendSizes", spec := "sendSizes", unfollowed := true, recurses := true, apart := false }
def SendSizesSaid : Prop := sendSizesRow.holds Try.pinned (OpenSpec.ofChange sendSizesSpec)

/-- ITS FALSE NEIGHBOUR: 'it returns false'. Refute it at one input. -/
def sendSizesWrong : ChangeSpec := { name := "sendSizes", fn := fun _ => fun
  | [d1, d2] => { results := [.lit (.bool false)], args := [d1, d2] }
  | _ => none }
def SendSizesWrongFalsely : Prop := sendSizesRow.holds Try.pinned (OpenSpec.ofChange sendSizesWrong)

/-- 'cuneiformlaw22.SendNil': WHATEVER THE INPUT: true; the input reads as it did. -/
def sendNilSpec : ChangeSpec := { name := "sendNil", fn := fun _ => fun
  | [d] => { results := [.lit (.bool true)], args := [d] }
  | _ => none }
def sendNilRow : OpenClaim := { program := "ytiepeiconkjmeaa", sum := "2ce6366dc959603b9875b0fd5275167817b4e139460af23422d2925e061c4b50", func := "cuneiform/cuneiformlaw22.SendNil", spec := "sendNil", unfollowed := true, recurses := true, apart := false }
def SendNilSaid : Prop := sendNilRow.holds Try.pinned (OpenSpec.ofChange sendNilSpec)

/-- ITS FALSE NEIGHBOUR: 'it returns false'. Refute it at one input. -/
def sendNilWrong : ChangeSpec := { name := "sendNil", fn := fun _ => fun
  | [d] => { results := [.lit (.bool false)], args := [d] }
  | _ => none }
def SendNilWrongFalsely : Prop := sendNilRow.holds Try.pinned (OpenSpec.ofChange sendNilWrong)

/- THE SECOND FORM. 'bulk': how many values and letters a reading holds, each counted each time it is reached (what is shared counts as often as it is met; a slice's spare places count too). A statement '..UptoSaid' is the law's where the arguments, and the package variables that the reading takes, are together of bulk at most 1048576: NARROWER than '..Said'. Prove '..Said' where nothing that the law and all that it calls make is longer than what came in: it says more and counts as full. Else prove '..UptoSaid'. A law counts once. -/
mutual
def uptoBulk {H : Type} : DataW H → Nat
  | .lit (.string bytes) => bytes.length + 1
  | .lit _ => 1
  | .nil => 1
  | .ptr d => uptoBulk d + 1
  | .slice elems spare => uptoBulkAll elems + uptoBulkAll spare + 1
  | .agg parts => uptoBulkAll parts + 1
  | .iface _ d => uptoBulk d + 1
  | .map entries => uptoBulkEntries entries + 1
  | .held _ => 1
def uptoBulkAll {H : Type} : List (DataW H) → Nat
  | [] => 0
  | d :: r => uptoBulk d + uptoBulkAll r
def uptoBulkEntries {H : Type} : List (Lit × DataW H) → Nat
  | [] => 0
  | x :: r => uptoBulkEntry x + uptoBulkEntries r
def uptoBulkEntry {H : Type} : Lit × DataW H → Nat
  | (.string bytes, d) => bytes.length + uptoBulk d + 1
  | (_, d) => uptoBulk d + 1
 end
def uptoSmall : (H : Type) → List (DataW H) → Bool := fun _ ds => decide (uptoBulkAll ds ≤ 1048576)
def OpenSpec.upto (s : _root_.Go.ChangeSpec) : _root_.Go.OpenSpec := { _root_.Go.OpenSpec.ofChange s with cond := some uptoSmall }

/-- 'cuneiformlaw22.SendEach', WHERE WHAT IT READS IS OF BULK AT MOST 1048576: true; the input reads as it did. -/
def sendEachUptoRow : OpenClaim := { program := "ytiepeiconkjmeaa", sum := "2ce6366dc959603b9875b0fd5275167817b4e139460af23422d2925e061c4b50", func := "cuneiform/cuneiformlaw22.SendEach", spec := "sendEach", unfollowed := true, recurses := true, apart := false, narrowed := true }
def SendEachUptoSaid : Prop := sendEachUptoRow.holds Try.pinned (OpenSpec.upto sendEachSpec)

/-- 'cuneiformlaw22.SendSizes', WHERE WHAT IT READS IS OF BULK AT MOST 1048576: true; the input reads as it did. -/
def sendSizesUptoRow : OpenClaim := { program := "ytiepeiconkjmeaa", sum := "2ce6366dc959603b9875b0fd5275167817b4e139460af23422d2925e061c4b50", func := "cuneiform/cuneiformlaw22.SendSizes", spec := "sendSizes", unfollowed := true, recurses := true, apart := false, narrowed := true }
def SendSizesUptoSaid : Prop := sendSizesUptoRow.holds Try.pinned (OpenSpec.upto sendSizesSpec)

/-- 'cuneiformlaw22.SendNil', WHERE WHAT IT READS IS OF BULK AT MOST 1048576: true; the input reads as it did. -/
def sendNilUptoRow : OpenClaim := { program := "ytiepeiconkjmeaa", sum := "2ce6366dc959603b9875b0fd5275167817b4e139460af23422d2925e061c4b50", func := "cuneiform/cuneiformlaw22.SendNil", spec := "sendNil", unfollowed := true, recurses := true, apart := false, narrowed := true }
def SendNilUptoSaid : Prop := sendNilUptoRow.holds Try.pinned (OpenSpec.upto sendNilSpec)

end Rows
end Go.Proofs.Ytiepeiconkjmeaa
