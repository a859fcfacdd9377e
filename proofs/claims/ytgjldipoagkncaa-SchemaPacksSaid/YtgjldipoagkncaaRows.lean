/-
  No cell of these rows narrows 'for every input' (looked for: loops, veiled, ifaces, maps, wideKeys, modest, calm, conditions, laid).
  DERIVED. THE GIVEN ROWS OF THIS SEAT. 4 by the template 'for every input the law returns true; each argument reads behind the call as it read before'; 0 by the template 'total and deterministic' (their statements: YtgjldipoagkncaaTotals.lean).
  GIVEN WITH THE SEED: the statements are not yours to turn. If you find one false, say at which input.
  Laid BY PROGRAM, IN A SANDBOX (cutbox-rows.mjs): the forced cells as the released guide's own fill.sh prints them over the translation 1259e6946c94730e… (all of the seat's roots in one cut). By AI agents, Wed Nov 11 2026. No macro, syntax, notation, axiom, sorry.
-/
import Derived.Test.YtgjldipoagkncaaChecked
import GoSem.Claim
import GoSem.ClaimJoined
import GoSem.ClaimMapViews
import Derived.JoinedTies
import Derived.KernelRfl
namespace Go.Proofs.Ytgjldipoagkncaa
/- THE CELL 'sum', in the pinned program and in every row, IS THE sha256 OF THE DUMP (.gsa) THAT YtgjldipoagkncaaProg.lean LOADS. Nothing in Lean hashes anything: it is a label: what it is worth is what the hold of that sum in a sandbox is worth. -/
noncomputable def Try.pinned : Pinned := { name := "ytgjldipoagkncaa", sum := "1259e6946c94730ec9f03ff95e1b490383e2f510f5a2c12941389e68671a856b", checked := Try.checked }
namespace Rows
def none {H : Type} : Left H := { results := [], args := [] }

/-- 'cuneiformlaw19.SchemaTurns': WHATEVER THE INPUT: true; the input reads as it did. -/
def schemaTurnsSpec : ChangeSpec := { name := "schemaTurns", fn := fun _ => fun
  | [d1, d2, d3, d4] => { results := [.lit (.bool true)], args := [d1, d2, d3, d4] }
  | _ => none }
def schemaTurnsRow : OpenClaim := { program := "ytgjldipoagkncaa", sum := "1259e6946c94730ec9f03ff95e1b490383e2f510f5a2c12941389e68671a856b", func := "cuneiform/cuneiformlaw19.SchemaTurns", spec := "schemaTurns", unfollowed := true, recurses := true, apart := false }
def SchemaTurnsSaid : Prop := schemaTurnsRow.holds Try.pinned (OpenSpec.ofChange schemaTurnsSpec)

/-- ITS FALSE NEIGHBOUR: 'it returns false'. Refute it at one input. -/
def schemaTurnsWrong : ChangeSpec := { name := "schemaTurns", fn := fun _ => fun
  | [d1, d2, d3, d4] => { results := [.lit (.bool false)], args := [d1, d2, d3, d4] }
  | _ => none }
def SchemaTurnsWrongFalsely : Prop := schemaTurnsRow.holds Try.pinned (OpenSpec.ofChange schemaTurnsWrong)

/-- 'cuneiformlaw19.SchemaBack': WHATEVER THE INPUT: true; the input reads as it did. -/
def schemaBackSpec : ChangeSpec := { name := "schemaBack", fn := fun _ => fun
  | [d1, d2] => { results := [.lit (.bool true)], args := [d1, d2] }
  | _ => none }
def schemaBackRow : OpenClaim := { program := "ytgjldipoagkncaa", sum := "1259e6946c94730ec9f03ff95e1b490383e2f510f5a2c12941389e68671a856b", func := "cuneiform/cuneiformlaw19.SchemaBack", spec := "schemaBack", unfollowed := true, recurses := true, apart := false }
def SchemaBackSaid : Prop := schemaBackRow.holds Try.pinned (OpenSpec.ofChange schemaBackSpec)

/-- ITS FALSE NEIGHBOUR: 'it returns false'. Refute it at one input. -/
def schemaBackWrong : ChangeSpec := { name := "schemaBack", fn := fun _ => fun
  | [d1, d2] => { results := [.lit (.bool false)], args := [d1, d2] }
  | _ => none }
def SchemaBackWrongFalsely : Prop := schemaBackRow.holds Try.pinned (OpenSpec.ofChange schemaBackWrong)

/-- 'cuneiformlaw19.SchemaNil': WHATEVER THE INPUT: true; the input reads as it did. -/
def schemaNilSpec : ChangeSpec := { name := "schemaNil", fn := fun _ => fun
  | [d1, d2] => { results := [.lit (.bool true)], args := [d1, d2] }
  | _ => none }
def schemaNilRow : OpenClaim := { program := "ytgjldipoagkncaa", sum := "1259e6946c94730ec9f03ff95e1b490383e2f510f5a2c12941389e68671a856b", func := "cuneiform/cuneiformlaw19.SchemaNil", spec := "schemaNil", unfollowed := true, recurses := true, apart := false }
def SchemaNilSaid : Prop := schemaNilRow.holds Try.pinned (OpenSpec.ofChange schemaNilSpec)

/-- ITS FALSE NEIGHBOUR: 'it returns false'. Refute it at one input. -/
def schemaNilWrong : ChangeSpec := { name := "schemaNil", fn := fun _ => fun
  | [d1, d2] => { results := [.lit (.bool false)], args := [d1, d2] }
  | _ => none }
def SchemaNilWrongFalsely : Prop := schemaNilRow.holds Try.pinned (OpenSpec.ofChange schemaNilWrong)

/-- 'cuneiformlaw19.SchemaPacks': WHATEVER THE INPUT: true; the input reads as it did. -/
def schemaPacksSpec : ChangeSpec := { name := "schemaPacks", fn := fun _ => fun
  | [d1, d2] => { results := [.lit (.bool true)], args := [d1, d2] }
  | _ => none }
def schemaPacksRow : OpenClaim := { program := "ytgjldipoagkncaa", sum := "1259e6946c94730ec9f03ff95e1b490383e2f510f5a2c12941389e68671a856b", func := "cuneiform/cuneiformlaw19.SchemaPacks", spec := "schemaPacks", unfollowed := true, recurses := true, apart := false }
def SchemaPacksSaid : Prop := schemaPacksRow.holds Try.pinned (OpenSpec.ofChange schemaPacksSpec)

/-- ITS FALSE NEIGHBOUR: 'it returns false'. Refute it at one input. -/
def schemaPacksWrong : ChangeSpec := { name := "schemaPacks", fn := fun _ => fun
  | [d1, d2] => { results := [.lit (.bool false)], args := [d1, d2] }
  | _ => none }
def SchemaPacksWrongFalsely : Prop := schemaPacksRow.holds Try.pinned (OpenSpec.ofChange schemaPacksWrong)

/- THE SECOND FORM. 'bulk': how many values and letters a reading holds, each counted each time it is reached (what is shared counts as often as it is met; a slice's spare places count too). A statement '..UptoSaid' is the law's where the arguments, and the package variables that the reading takes, are together of bulk at most 1048576: NARROWER than '..Said'. Prove '..Said' where nothing that the law and all that it calls make is longer than what came in: it says more and counts as full. Else prove '..UptoSaid'. A law counts once. -/
mutual
def uptoBulk {H : Type} : DataW H → Nat
  | .lit (.string bytes) => bytes.length + 1
  | .lit _ => 1
  | .nil => 1
  | .ptr d => uptoBulk d + 1
  | .slice elems spare => uptoBulkAll elems + uptoBulkAll spare + 1
  | .agg parts => uptoBulkAll parts + 1
  | .iface _ d => uptoBulk d + 1
  | .map entries => uptoBulkEntries entries + 1
  | .held _ => 1
def uptoBulkAll {H : Type} : List (DataW H) → Nat
  | [] => 0
  | d :: r => uptoBulk d + uptoBulkAll r
def uptoBulkEntries {H : Type} : List (Lit × DataW H) → Nat
  | [] => 0
  | x :: r => uptoBulkEntry x + uptoBulkEntries r
def uptoBulkEntry {H : Type} : Lit × DataW H → Nat
  | (.string bytes, d) => bytes.length + uptoBulk d + 1
  | (_, d) => uptoBulk d + 1
 end
def uptoSmall : (H : Type) → List (DataW H) → Bool := fun _ ds => decide (uptoBulkAll ds ≤ 1048576)
def OpenSpec.upto (s : _root_.Go.ChangeSpec) : _root_.Go.OpenSpec := { _root_.Go.OpenSpec.ofChange s with cond := some uptoSmall }

/-- 'cuneiformlaw19.SchemaTurns', WHERE WHAT IT READS IS OF BULK AT MOST 1048576: true; the input reads as it did. -/
def schemaTurnsUptoRow : OpenClaim := { program := "ytgjldipoagkncaa", sum := "1259e6946c94730ec9f03ff95e1b490383e2f510f5a2c12941389e68671a856b", func := "cuneiform/cuneiformlaw19.SchemaTurns", spec := "schemaTurns", unfollowed := true, recurses := true, apart := false, narrowed := true }
def SchemaTurnsUptoSaid : Prop := schemaTurnsUptoRow.holds Try.pinned (OpenSpec.upto schemaTurnsSpec)

/-- 'cuneiformlaw19.SchemaBack', WHERE WHAT IT READS IS OF BULK AT MOST 1048576: true; the input reads as it did. -/
def schemaBackUptoRow : OpenClaim := { program := "ytgjldipoagkncaa", sum := "1259e6946c94730ec9f03ff95e1b490383e2f510f5a2c12941389e68671a856b", func := "cuneiform/cuneiformlaw19.SchemaBack", spec := "schemaBack", unfollowed := true, recurses := true, apart := false, narrowed := true }
def SchemaBackUptoSaid : Prop := schemaBackUptoRow.holds Try.pinned (OpenSpec.upto schemaBackSpec)

/-- 'cuneiformlaw19.SchemaNil', WHERE WHAT IT READS IS OF BULK AT MOST 1048576: true; the input reads as it did. -/
def schemaNilUptoRow : OpenClaim := { program := "ytgjldipoagkncaa", sum := "1259e6946c94730ec9f03ff95e1b490383e2f510f5a2c12941389e68671a856b", func := "cuneiform/cuneiformlaw19.SchemaNil", spec := "schemaNil", unfollowed := true, recurses := true, apart := false, narrowed := true }
def SchemaNilUptoSaid : Prop := schemaNilUptoRow.holds Try.pinned (OpenSpec.upto schemaNilSpec)

/-- 'cuneiformlaw19.SchemaPacks', WHERE WHAT IT READS IS OF BULK AT MOST 1048576: true; the input reads as it did. -/
def schemaPacksUptoRow : OpenClaim := { program := "ytgjldipoagkncaa", sum := "1259e6946c94730ec9f03ff95e1b490383e2f510f5a2c12941389e68671a856b", func := "cuneiform/cuneiformlaw19.SchemaPacks", spec := "schemaPacks", unfollowed := true, recurses := true, apart := false, narrowed := true }
def SchemaPacksUptoSaid : Prop := schemaPacksUptoRow.holds Try.pinned (OpenSpec.upto schemaPacksSpec)

end Rows
end Go.Proofs.Ytgjldipoagkncaa
