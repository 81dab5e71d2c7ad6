/-
  No cell of these rows narrows 'for every input' (looked for: loops, veiled, ifaces, maps, wideKeys, modest, calm, conditions, laid).
  DERIVED. THE GIVEN ROWS OF THIS SEAT. 5 by the template 'for every input the law returns true; each argument reads behind the call as it read before'; 0 by the template 'total and deterministic' (their statements: YtaokfpjjaejjgaaTotals.lean).
  GIVEN WITH THE SEED: the statements are not yours to turn. If you find one false, say at which input.
  Laid BY PROGRAM, IN A SANDBOX (cutbox-rows.mjs): the forced cells as the released guide's own fill.sh prints them over the translation 8ceb27f9b9a267a7… (all of the seat's roots in one cut). By AI agents, Wed Nov 11 2026. No macro, syntax, notation, axiom, sorry.
-/
import Derived.Test.YtaokfpjjaejjgaaChecked
import GoSem.Claim
import GoSem.ClaimJoined
import GoSem.ClaimMapViews
import Derived.JoinedTies
import Derived.KernelRfl
namespace Go.Proofs.Ytaokfpjjaejjgaa
/- THE CELL 'sum', in the pinned program and in every row, IS THE sha256 OF THE DUMP (.gsa) THAT YtaokfpjjaejjgaaProg.lean LOADS. Nothing in Lean hashes anything: it is a label: what it is worth is what the hold of that sum in a sandbox is worth. -/
noncomputable def Try.pinned : Pinned := { name := "ytaokfpjjaejjgaa", sum := "8ceb27f9b9a267a7f3b2d6eade0b54b670bca9f6d384a837ca2b31b2c5f17124", checked := Try.checked }
namespace Rows
def none {H : Type} : Left H := { results := [], args := [] }

/-- 'chancellaw10.SchemaChecks': WHATEVER THE INPUT: true; the input reads as it did. -/
def schemaChecksSpec : ChangeSpec := { name := "schemaChecks", fn := fun _ => fun
  | [d1, d2, d3, d4, d5, d6, d7] => { results := [.lit (.bool true)], args := [d1, d2, d3, d4, d5, d6, d7] }
  | _ => none }
def schemaChecksRow : OpenClaim := { program := "ytaokfpjjaejjgaa", sum := "8ceb27f9b9a267a7f3b2d6eade0b54b670bca9f6d384a837ca2b31b2c5f17124", func := "chancel/chancellaw10.SchemaChecks", spec := "schemaChecks", unfollowed := true, recurses := true, apart := false }
def SchemaChecksSaid : Prop := schemaChecksRow.holds Try.pinned (OpenSpec.ofChange schemaChecksSpec)

/-- ITS FALSE NEIGHBOUR: 'it returns false'. Refute it at one input. -/
def schemaChecksWrong : ChangeSpec := { name := "schemaChecks", fn := fun _ => fun
  | [d1, d2, d3, d4, d5, d6, d7] => { results := [.lit (.bool false)], args := [d1, d2, d3, d4, d5, d6, d7] }
  | _ => none }
def SchemaChecksWrongFalsely : Prop := schemaChecksRow.holds Try.pinned (OpenSpec.ofChange schemaChecksWrong)

/-- 'chancellaw10.SchemaTypes': WHATEVER THE INPUT: true; the input reads as it did. -/
def schemaTypesSpec : ChangeSpec := { name := "schemaTypes", fn := fun _ => fun
  | [d1, d2, d3, d4] => { results := [.lit (.bool true)], args := [d1, d2, d3, d4] }
  | _ => none }
def schemaTypesRow : OpenClaim := { program := "ytaokfpjjaejjgaa", sum := "8ceb27f9b9a267a7f3b2d6eade0b54b670bca9f6d384a837ca2b31b2c5f17124", func := "chancel/chancellaw10.SchemaTypes", spec := "schemaTypes", unfollowed := true, recurses := true, apart := false }
def SchemaTypesSaid : Prop := schemaTypesRow.holds Try.pinned (OpenSpec.ofChange schemaTypesSpec)

/-- ITS FALSE NEIGHBOUR: 'it returns false'. Refute it at one input. -/
def schemaTypesWrong : ChangeSpec := { name := "schemaTypes", fn := fun _ => fun
  | [d1, d2, d3, d4] => { results := [.lit (.bool false)], args := [d1, d2, d3, d4] }
  | _ => none }
def SchemaTypesWrongFalsely : Prop := schemaTypesRow.holds Try.pinned (OpenSpec.ofChange schemaTypesWrong)

/-- 'chancellaw10.SchemaBounds': WHATEVER THE INPUT: true; the input reads as it did. -/
def schemaBoundsSpec : ChangeSpec := { name := "schemaBounds", fn := fun _ => fun
  | [d1, d2] => { results := [.lit (.bool true)], args := [d1, d2] }
  | _ => none }
def schemaBoundsRow : OpenClaim := { program := "ytaokfpjjaejjgaa", sum := "8ceb27f9b9a267a7f3b2d6eade0b54b670bca9f6d384a837ca2b31b2c5f17124", func := "chancel/chancellaw10.SchemaBounds", spec := "schemaBounds", unfollowed := true, recurses := true, apart := false }
def SchemaBoundsSaid : Prop := schemaBoundsRow.holds Try.pinned (OpenSpec.ofChange schemaBoundsSpec)

/-- ITS FALSE NEIGHBOUR: 'it returns false'. Refute it at one input. -/
def schemaBoundsWrong : ChangeSpec := { name := "schemaBounds", fn := fun _ => fun
  | [d1, d2] => { results := [.lit (.bool false)], args := [d1, d2] }
  | _ => none }
def SchemaBoundsWrongFalsely : Prop := schemaBoundsRow.holds Try.pinned (OpenSpec.ofChange schemaBoundsWrong)

/-- 'chancellaw10.SchemaFits': WHATEVER THE INPUT: true; the input reads as it did. -/
def schemaFitsSpec : ChangeSpec := { name := "schemaFits", fn := fun _ => fun
  | [d1, d2, d3, d4, d5, d6] => { results := [.lit (.bool true)], args := [d1, d2, d3, d4, d5, d6] }
  | _ => none }
def schemaFitsRow : OpenClaim := { program := "ytaokfpjjaejjgaa", sum := "8ceb27f9b9a267a7f3b2d6eade0b54b670bca9f6d384a837ca2b31b2c5f17124", func := "chancel/chancellaw10.SchemaFits", spec := "schemaFits", unfollowed := true, recurses := true, apart := false }
def SchemaFitsSaid : Prop := schemaFitsRow.holds Try.pinned (OpenSpec.ofChange schemaFitsSpec)

/-- ITS FALSE NEIGHBOUR: 'it returns false'. Refute it at one input. -/
def schemaFitsWrong : ChangeSpec := { name := "schemaFits", fn := fun _ => fun
  | [d1, d2, d3, d4, d5, d6] => { results := [.lit (.bool false)], args := [d1, d2, d3, d4, d5, d6] }
  | _ => none }
def SchemaFitsWrongFalsely : Prop := schemaFitsRow.holds Try.pinned (OpenSpec.ofChange schemaFitsWrong)

/-- 'chancellaw10.SchemaAsks': WHATEVER THE INPUT: true; the input reads as it did. -/
def schemaAsksSpec : ChangeSpec := { name := "schemaAsks", fn := fun _ => fun
  | [d1, d2, d3, d4, d5] => { results := [.lit (.bool true)], args := [d1, d2, d3, d4, d5] }
  | _ => none }
def schemaAsksRow : OpenClaim := { program := "ytaokfpjjaejjgaa", sum := "8ceb27f9b9a267a7f3b2d6eade0b54b670bca9f6d384a837ca2b31b2c5f17124", func := "chancel/chancellaw10.SchemaAsks", spec := "schemaAsks", unfollowed := true, recurses := true, apart := false }
def SchemaAsksSaid : Prop := schemaAsksRow.holds Try.pinned (OpenSpec.ofChange schemaAsksSpec)

/-- ITS FALSE NEIGHBOUR: 'it returns false'. Refute it at one input. -/
def schemaAsksWrong : ChangeSpec := { name := "schemaAsks", fn := fun _ => fun
  | [d1, d2, d3, d4, d5] => { results := [.lit (.bool false)], args := [d1, d2, d3, d4, d5] }
  | _ => none }
def SchemaAsksWrongFalsely : Prop := schemaAsksRow.holds Try.pinned (OpenSpec.ofChange schemaAsksWrong)

/- THE SECOND FORM. 'bulk': how many values and letters a reading holds, each counted each time it is reached (what is shared counts as often as it is met; a slice's spare places count too). A statement '..UptoSaid' is the law's where the arguments, and the package variables that the reading takes, are together of bulk at most 1048576: NARROWER than '..Said'. Prove '..Said' where nothing that the law and all that it calls make is longer than what came in: it says more and counts as full. Else prove '..UptoSaid'. A law counts once. -/
mutual
def uptoBulk {H : Type} : DataW H → Nat
  | .lit (.string bytes) => bytes.length + 1
  | .lit _ => 1
  | .nil => 1
  | .ptr d => uptoBulk d + 1
  | .slice elems spare => uptoBulkAll elems + uptoBulkAll spare + 1
  | .agg parts => uptoBulkAll parts + 1
  | .iface _ d => uptoBulk d + 1
  | .map entries => uptoBulkEntries entries + 1
  | .held _ => 1
def uptoBulkAll {H : Type} : List (DataW H) → Nat
  | [] => 0
  | d :: r => uptoBulk d + uptoBulkAll r
def uptoBulkEntries {H : Type} : List (Lit × DataW H) → Nat
  | [] => 0
  | x :: r => uptoBulkEntry x + uptoBulkEntries r
def uptoBulkEntry {H : Type} : Lit × DataW H → Nat
  | (.string bytes, d) => bytes.length + uptoBulk d + 1
  | (_, d) => uptoBulk d + 1
 end
def uptoSmall : (H : Type) → List (DataW H) → Bool := fun _ ds => decide (uptoBulkAll ds ≤ 1048576)
def OpenSpec.upto (s : _root_.Go.ChangeSpec) : _root_.Go.OpenSpec := { _root_.Go.OpenSpec.ofChange s with cond := some uptoSmall }

/-- 'chancellaw10.SchemaChecks', WHERE WHAT IT READS IS OF BULK AT MOST 1048576: true; the input reads as it did. -/
def schemaChecksUptoRow : OpenClaim := { program := "ytaokfpjjaejjgaa", sum := "8ceb27f9b9a267a7f3b2d6eade0b54b670bca9f6d384a837ca2b31b2c5f17124", func := "chancel/chancellaw10.SchemaChecks", spec := "schemaChecks", unfollowed := true, recurses := true, apart := false, narrowed := true }
def SchemaChecksUptoSaid : Prop := schemaChecksUptoRow.holds Try.pinned (OpenSpec.upto schemaChecksSpec)

/-- 'chancellaw10.SchemaTypes', WHERE WHAT IT READS IS OF BULK AT MOST 1048576: true; the input reads as it did. -/
def schemaTypesUptoRow : OpenClaim := { program := "ytaokfpjjaejjgaa", sum := "8ceb27f9b9a267a7f3b2d6eade0b54b670bca9f6d384a837ca2b31b2c5f17124", func := "chancel/chancellaw10.SchemaTypes", spec := "schemaTypes", unfollowed := true, recurses := true, apart := false, narrowed := true }
def SchemaTypesUptoSaid : Prop := schemaTypesUptoRow.holds Try.pinned (OpenSpec.upto schemaTypesSpec)

/-- 'chancellaw10.SchemaBounds', WHERE WHAT IT READS IS OF BULK AT MOST 1048576: true; the input reads as it did. -/
def schemaBoundsUptoRow : OpenClaim := { program := "ytaokfpjjaejjgaa", sum := "8ceb27f9b9a267a7f3b2d6eade0b54b670bca9f6d384a837ca2b31b2c5f17124", func := "chancel/chancellaw10.SchemaBounds", spec := "schemaBounds", unfollowed := true, recurses := true, apart := false, narrowed := true }
def SchemaBoundsUptoSaid : Prop := schemaBoundsUptoRow.holds Try.pinned (OpenSpec.upto schemaBoundsSpec)

/-- 'chancellaw10.SchemaFits', WHERE WHAT IT READS IS OF BULK AT MOST 1048576: true; the input reads as it did. -/
def schemaFitsUptoRow : OpenClaim := { program := "ytaokfpjjaejjgaa", sum := "8ceb27f9b9a267a7f3b2d6eade0b54b670bca9f6d384a837ca2b31b2c5f17124", func := "chancel/chancellaw10.SchemaFits", spec := "schemaFits", unfollowed := true, recurses := true, apart := false, narrowed := true }
def SchemaFitsUptoSaid : Prop := schemaFitsUptoRow.holds Try.pinned (OpenSpec.upto schemaFitsSpec)

/-- 'chancellaw10.SchemaAsks', WHERE WHAT IT READS IS OF BULK AT MOST 1048576: true; the input reads as it did. -/
def schemaAsksUptoRow : OpenClaim := { program := "ytaokfpjjaejjgaa", sum := "8ceb27f9b9a267a7f3b2d6eade0b54b670bca9f6d384a837ca2b31b2c5f17124", func := "chancel/chancellaw10.SchemaAsks", spec := "schemaAsks", unfollowed := true, recurses := true, apart := false, narrowed := true }
def SchemaAsksUptoSaid : Prop := schemaAsksUptoRow.holds Try.pinned (OpenSpec.upto schemaAsksSpec)

end Rows
end Go.Proofs.Ytaokfpjjaejjgaa
