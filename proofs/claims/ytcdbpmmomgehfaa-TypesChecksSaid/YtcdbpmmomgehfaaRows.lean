/-
  NARROWER THAN 'FOR EVERY INPUT', by the rows' own cells (each row's printed sentence says how): TypesOf: loops · TypesMade: loops · TypesChecks: loops.
  DERIVED. THE GIVEN ROWS OF THIS SEAT. 8 by the template 'for every input the law returns true; each argument reads behind the call as it read before'; 0 by the template 'total and deterministic' (their statements: YtcdbpmmomgehfaaTotals.lean).
  GIVEN WITH THE SEED: the statements are not yours to turn. If you find one false, say at which input.
  Laid BY PROGRAM, IN A SANDBOX (cutbox-rows.mjs): the forced cells as the released guide's own fill.sh prints them over the translation 558a9d44b3f43e97… (all of the seat's roots in one cut). By AI agents, Wed Nov 11 2026. No macro, syntax, notation, axiom, sorry.
-/
import Derived.Test.YtcdbpmmomgehfaaChecked
import GoSem.Claim
import GoSem.ClaimJoined
import GoSem.ClaimMapViews
import Derived.JoinedTies
import Derived.KernelRfl
namespace Go.Proofs.Ytcdbpmmomgehfaa
/- THE CELL 'sum', in the pinned program and in every row, IS THE sha256 OF THE DUMP (.gsa) THAT YtcdbpmmomgehfaaProg.lean LOADS. Nothing in Lean hashes anything: it is a label: what it is worth is what the hold of that sum in a sandbox is worth. -/
noncomputable def Try.pinned : Pinned := { name := "ytcdbpmmomgehfaa", sum := "558a9d44b3f43e9765d39daed00da5054d081d30db9acabdc2c8849b72cd104f", checked := Try.checked }
namespace Rows
def none {H : Type} : Left H := { results := [], args := [] }

/-- 'chancellaw11.TypesOf': WHATEVER THE INPUT: true; the input reads as it did. -/
def typesOfSpec : ChangeSpec := { name := "typesOf", fn := fun _ => fun
  | [d1, d2, d3, d4, d5, d6] => { results := [.lit (.bool true)], args := [d1, d2, d3, d4, d5, d6] }
  | _ => none }
def typesOfRow : OpenClaim := { program := "ytcdbpmmomgehfaa", sum := "558a9d44b3f43e9765d39daed00da5054d081d30db9acabdc2c8849b72cd104f", func := "chancel/chancellaw11.TypesOf", spec := "typesOf", unfollowed := true, recurses := true, loops := true, apart := false }
def TypesOfSaid : Prop := typesOfRow.holds Try.pinned (OpenSpec.ofChange typesOfSpec)

/-- ITS FALSE NEIGHBOUR: 'it returns false'. Refute it at one input. -/
def typesOfWrong : ChangeSpec := { name := "typesOf", fn := fun _ => fun
  | [d1, d2, d3, d4, d5, d6] => { results := [.lit (.bool false)], args := [d1, d2, d3, d4, d5, d6] }
  | _ => none }
def TypesOfWrongFalsely : Prop := typesOfRow.holds Try.pinned (OpenSpec.ofChange typesOfWrong)

/-- 'chancellaw11.TypesMade': WHATEVER THE INPUT: true; the input reads as it did. -/
def typesMadeSpec : ChangeSpec := { name := "typesMade", fn := fun _ => fun
  | [d1, d2, d3, d4, d5, d6] => { results := [.lit (.bool true)], args := [d1, d2, d3, d4, d5, d6] }
  | _ => none }
def typesMadeRow : OpenClaim := { program := "ytcdbpmmomgehfaa", sum := "558a9d44b3f43e9765d39daed00da5054d081d30db9acabdc2c8849b72cd104f", func := "chancel/chancellaw11.TypesMade", spec := "typesMade", unfollowed := true, recurses := true, loops := true, apart := false }
def TypesMadeSaid : Prop := typesMadeRow.holds Try.pinned (OpenSpec.ofChange typesMadeSpec)

/-- ITS FALSE NEIGHBOUR: 'it returns false'. Refute it at one input. -/
def typesMadeWrong : ChangeSpec := { name := "typesMade", fn := fun _ => fun
  | [d1, d2, d3, d4, d5, d6] => { results := [.lit (.bool false)], args := [d1, d2, d3, d4, d5, d6] }
  | _ => none }
def TypesMadeWrongFalsely : Prop := typesMadeRow.holds Try.pinned (OpenSpec.ofChange typesMadeWrong)

/-- 'chancellaw11.TypesOps': WHATEVER THE INPUT: true; the input reads as it did. -/
def typesOpsSpec : ChangeSpec := { name := "typesOps", fn := fun _ => fun
  | [d1, d2, d3, d4] => { results := [.lit (.bool true)], args := [d1, d2, d3, d4] }
  | _ => none }
def typesOpsRow : OpenClaim := { program := "ytcdbpmmomgehfaa", sum := "558a9d44b3f43e9765d39daed00da5054d081d30db9acabdc2c8849b72cd104f", func := "chancel/chancellaw11.TypesOps", spec := "typesOps", unfollowed := true, recurses := true, apart := false }
def TypesOpsSaid : Prop := typesOpsRow.holds Try.pinned (OpenSpec.ofChange typesOpsSpec)

/-- ITS FALSE NEIGHBOUR: 'it returns false'. Refute it at one input. -/
def typesOpsWrong : ChangeSpec := { name := "typesOps", fn := fun _ => fun
  | [d1, d2, d3, d4] => { results := [.lit (.bool false)], args := [d1, d2, d3, d4] }
  | _ => none }
def TypesOpsWrongFalsely : Prop := typesOpsRow.holds Try.pinned (OpenSpec.ofChange typesOpsWrong)

/-- 'chancellaw11.TypesFirst': WHATEVER THE INPUT: true; the input reads as it did. -/
def typesFirstSpec : ChangeSpec := { name := "typesFirst", fn := fun _ => fun
  | [d1, d2, d3] => { results := [.lit (.bool true)], args := [d1, d2, d3] }
  | _ => none }
def typesFirstRow : OpenClaim := { program := "ytcdbpmmomgehfaa", sum := "558a9d44b3f43e9765d39daed00da5054d081d30db9acabdc2c8849b72cd104f", func := "chancel/chancellaw11.TypesFirst", spec := "typesFirst", unfollowed := true, recurses := true, apart := false }
def TypesFirstSaid : Prop := typesFirstRow.holds Try.pinned (OpenSpec.ofChange typesFirstSpec)

/-- ITS FALSE NEIGHBOUR: 'it returns false'. Refute it at one input. -/
def typesFirstWrong : ChangeSpec := { name := "typesFirst", fn := fun _ => fun
  | [d1, d2, d3] => { results := [.lit (.bool false)], args := [d1, d2, d3] }
  | _ => none }
def TypesFirstWrongFalsely : Prop := typesFirstRow.holds Try.pinned (OpenSpec.ofChange typesFirstWrong)

/-- 'chancellaw11.TypesFields': WHATEVER THE INPUT: true; the input reads as it did. -/
def typesFieldsSpec : ChangeSpec := { name := "typesFields", fn := fun _ => fun
  | [d1, d2, d3, d4, d5] => { results := [.lit (.bool true)], args := [d1, d2, d3, d4, d5] }
  | _ => none }
def typesFieldsRow : OpenClaim := { program := "ytcdbpmmomgehfaa", sum := "558a9d44b3f43e9765d39daed00da5054d081d30db9acabdc2c8849b72cd104f", func := "chancel/chancellaw11.TypesFields", spec := "typesFields", unfollowed := true, recurses := true, apart := false }
def TypesFieldsSaid : Prop := typesFieldsRow.holds Try.pinned (OpenSpec.ofChange typesFieldsSpec)

/-- ITS FALSE NEIGHBOUR: 'it returns false'. Refute it at one input. -/
def typesFieldsWrong : ChangeSpec := { name := "typesFields", fn := fun _ => fun
  | [d1, d2, d3, d4, d5] => { results := [.lit (.bool false)], args := [d1, d2, d3, d4, d5] }
  | _ => none }
def TypesFieldsWrongFalsely : Prop := typesFieldsRow.holds Try.pinned (OpenSpec.ofChange typesFieldsWrong)

/-- 'chancellaw11.TypesEnvs': WHATEVER THE INPUT: true; the input reads as it did. -/
def typesEnvsSpec : ChangeSpec := { name := "typesEnvs", fn := fun _ => fun
  | [d1, d2, d3, d4] => { results := [.lit (.bool true)], args := [d1, d2, d3, d4] }
  | _ => none }
def typesEnvsRow : OpenClaim := { program := "ytcdbpmmomgehfaa", sum := "558a9d44b3f43e9765d39daed00da5054d081d30db9acabdc2c8849b72cd104f", func := "chancel/chancellaw11.TypesEnvs", spec := "typesEnvs", unfollowed := true, recurses := true, apart := false }
def TypesEnvsSaid : Prop := typesEnvsRow.holds Try.pinned (OpenSpec.ofChange typesEnvsSpec)

/-- ITS FALSE NEIGHBOUR: 'it returns false'. Refute it at one input. -/
def typesEnvsWrong : ChangeSpec := { name := "typesEnvs", fn := fun _ => fun
  | [d1, d2, d3, d4] => { results := [.lit (.bool false)], args := [d1, d2, d3, d4] }
  | _ => none }
def TypesEnvsWrongFalsely : Prop := typesEnvsRow.holds Try.pinned (OpenSpec.ofChange typesEnvsWrong)

/-- 'chancellaw11.TypesChecks': WHATEVER THE INPUT: true; the input reads as it did. -/
def typesChecksSpec : ChangeSpec := { name := "typesChecks", fn := fun _ => fun
  | [d1, d2, d3, d4, d5, d6, d7] => { results := [.lit (.bool true)], args := [d1, d2, d3, d4, d5, d6, d7] }
  | _ => none }
def typesChecksRow : OpenClaim := { program := "ytcdbpmmomgehfaa", sum := "558a9d44b3f43e9765d39daed00da5054d081d30db9acabdc2c8849b72cd104f", func := "chancel/chancellaw11.TypesChecks", spec := "typesChecks", unfollowed := true, recurses := true, loops := true, apart := false }
def TypesChecksSaid : Prop := typesChecksRow.holds Try.pinned (OpenSpec.ofChange typesChecksSpec)

/-- ITS FALSE NEIGHBOUR: 'it returns false'. Refute it at one input. -/
def typesChecksWrong : ChangeSpec := { name := "typesChecks", fn := fun _ => fun
  | [d1, d2, d3, d4, d5, d6, d7] => { results := [.lit (.bool false)], args := [d1, d2, d3, d4, d5, d6, d7] }
  | _ => none }
def TypesChecksWrongFalsely : Prop := typesChecksRow.holds Try.pinned (OpenSpec.ofChange typesChecksWrong)

/-- 'chancellaw11.TypesRefuses': WHATEVER THE INPUT: true; the input reads as it did. -/
def typesRefusesSpec : ChangeSpec := { name := "typesRefuses", fn := fun _ => fun
  | [d1, d2] => { results := [.lit (.bool true)], args := [d1, d2] }
  | _ => none }
def typesRefusesRow : OpenClaim := { program := "ytcdbpmmomgehfaa", sum := "558a9d44b3f43e9765d39daed00da5054d081d30db9acabdc2c8849b72cd104f", func := "chancel/chancellaw11.TypesRefuses", spec := "typesRefuses", unfollowed := true, recurses := true, apart := false }
def TypesRefusesSaid : Prop := typesRefusesRow.holds Try.pinned (OpenSpec.ofChange typesRefusesSpec)

/-- ITS FALSE NEIGHBOUR: 'it returns false'. Refute it at one input. -/
def typesRefusesWrong : ChangeSpec := { name := "typesRefuses", fn := fun _ => fun
  | [d1, d2] => { results := [.lit (.bool false)], args := [d1, d2] }
  | _ => none }
def TypesRefusesWrongFalsely : Prop := typesRefusesRow.holds Try.pinned (OpenSpec.ofChange typesRefusesWrong)

/- THE SECOND FORM. 'bulk': how many values and letters a reading holds, each counted each time it is reached (what is shared counts as often as it is met; a slice's spare places count too). A statement '..UptoSaid' is the law's where the arguments, and the package variables that the reading takes, are together of bulk at most 1048576: NARROWER than '..Said'. Prove '..Said' where nothing that the law and all that it calls make is longer than what came in: it says more and counts as full. Else prove '..UptoSaid'. A law counts once. -/
mutual
def uptoBulk {H : Type} : DataW H → Nat
  | .lit (.string bytes) => bytes.length + 1
  | .lit _ => 1
  | .nil => 1
  | .ptr d => uptoBulk d + 1
  | .slice elems spare => uptoBulkAll elems + uptoBulkAll spare + 1
  | .agg parts => uptoBulkAll parts + 1
  | .iface _ d => uptoBulk d + 1
  | .map entries => uptoBulkEntries entries + 1
  | .held _ => 1
def uptoBulkAll {H : Type} : List (DataW H) → Nat
  | [] => 0
  | d :: r => uptoBulk d + uptoBulkAll r
def uptoBulkEntries {H : Type} : List (Lit × DataW H) → Nat
  | [] => 0
  | x :: r => uptoBulkEntry x + uptoBulkEntries r
def uptoBulkEntry {H : Type} : Lit × DataW H → Nat
  | (.string bytes, d) => bytes.length + uptoBulk d + 1
  | (_, d) => uptoBulk d + 1
 end
def uptoSmall : (H : Type) → List (DataW H) → Bool := fun _ ds => decide (uptoBulkAll ds ≤ 1048576)
def OpenSpec.upto (s : _root_.Go.ChangeSpec) : _root_.Go.OpenSpec := { _root_.Go.OpenSpec.ofChange s with cond := some uptoSmall }

/-- 'chancellaw11.TypesOf', WHERE WHAT IT READS IS OF BULK AT MOST 1048576: true; the input reads as it did. -/
def typesOfUptoRow : OpenClaim := { program := "ytcdbpmmomgehfaa", sum := "558a9d44b3f43e9765d39daed00da5054d081d30db9acabdc2c8849b72cd104f", func := "chancel/chancellaw11.TypesOf", spec := "typesOf", unfollowed := true, recurses := true, loops := true, apart := false, narrowed := true }
def TypesOfUptoSaid : Prop := typesOfUptoRow.holds Try.pinned (OpenSpec.upto typesOfSpec)

/-- 'chancellaw11.TypesMade', WHERE WHAT IT READS IS OF BULK AT MOST 1048576: true; the input reads as it did. -/
def typesMadeUptoRow : OpenClaim := { program := "ytcdbpmmomgehfaa", sum := "558a9d44b3f43e9765d39daed00da5054d081d30db9acabdc2c8849b72cd104f", func := "chancel/chancellaw11.TypesMade", spec := "typesMade", unfollowed := true, recurses := true, loops := true, apart := false, narrowed := true }
def TypesMadeUptoSaid : Prop := typesMadeUptoRow.holds Try.pinned (OpenSpec.upto typesMadeSpec)

/-- 'chancellaw11.TypesOps', WHERE WHAT IT READS IS OF BULK AT MOST 1048576: true; the input reads as it did. -/
def typesOpsUptoRow : OpenClaim := { program := "ytcdbpmmomgehfaa", sum := "558a9d44b3f43e9765d39daed00da5054d081d30db9acabdc2c8849b72cd104f", func := "chancel/chancellaw11.TypesOps", spec := "typesOps", unfollowed := true, recurses := true, apart := false, narrowed := true }
def TypesOpsUptoSaid : Prop := typesOpsUptoRow.holds Try.pinned (OpenSpec.upto typesOpsSpec)

/-- 'chancellaw11.TypesFirst', WHERE WHAT IT READS IS OF BULK AT MOST 1048576: true; the input reads as it did. -/
def typesFirstUptoRow : OpenClaim := { program := "ytcdbpmmomgehfaa", sum := "558a9d44b3f43e9765d39daed00da5054d081d30db9acabdc2c8849b72cd104f", func := "chancel/chancellaw11.TypesFirst", spec := "typesFirst", unfollowed := true, recurses := true, apart := false, narrowed := true }
def TypesFirstUptoSaid : Prop := typesFirstUptoRow.holds Try.pinned (OpenSpec.upto typesFirstSpec)

/-- 'chancellaw11.TypesFields', WHERE WHAT IT READS IS OF BULK AT MOST 1048576: true; the input reads as it did. -/
def typesFieldsUptoRow : OpenClaim := { program := "ytcdbpmmomgehfaa", sum := "558a9d44b3f43e9765d39daed00da5054d081d30db9acabdc2c8849b72cd104f", func := "chancel/chancellaw11.TypesFields", spec := "typesFields", unfollowed := true, recurses := true, apart := false, narrowed := true }
def TypesFieldsUptoSaid : Prop := typesFieldsUptoRow.holds Try.pinned (OpenSpec.upto typesFieldsSpec)

/-- 'chancellaw11.TypesEnvs', WHERE WHAT IT READS IS OF BULK AT MOST 1048576: true; the input reads as it did. -/
def typesEnvsUptoRow : OpenClaim := { program := "ytcdbpmmomgehfaa", sum := "558a9d44b3f43e9765d39daed00da5054d081d30db9acabdc2c8849b72cd104f", func := "chancel/chancellaw11.TypesEnvs", spec := "typesEnvs", unfollowed := true, recurses := true, apart := false, narrowed := true }
def TypesEnvsUptoSaid : Prop := typesEnvsUptoRow.holds Try.pinned (OpenSpec.upto typesEnvsSpec)

/-- 'chancellaw11.TypesChecks', WHERE WHAT IT READS IS OF BULK AT MOST 1048576: true; the input reads as it did. -/
def typesChecksUptoRow : OpenClaim := { program := "ytcdbpmmomgehfaa", sum := "558a9d44b3f43e9765d39daed00da5054d081d30db9acabdc2c8849b72cd104f", func := "chancel/chancellaw11.TypesChecks", spec := "typesChecks", unfollowed := true, recurses := true, loops := true, apart := false, narrowed := true }
def TypesChecksUptoSaid : Prop := typesChecksUptoRow.holds Try.pinned (OpenSpec.upto typesChecksSpec)

/-- 'chancellaw11.TypesRefuses', WHERE WHAT IT READS IS OF BULK AT MOST 1048576: true; the input reads as it did. -/
def typesRefusesUptoRow : OpenClaim := { program := "ytcdbpmmomgehfaa", sum := "558a9d44b3f43e9765d39daed00da5054d081d30db9acabdc2c8849b72cd104f", func := "chancel/chancellaw11.TypesRefuses", spec := "typesRefuses", unfollowed := true, recurses := true, apart := false, narrowed := true }
def TypesRefusesUptoSaid : Prop := typesRefusesUptoRow.holds Try.pinned (OpenSpec.upto typesRefusesSpec)

end Rows
end Go.Proofs.Ytcdbpmmomgehfaa
