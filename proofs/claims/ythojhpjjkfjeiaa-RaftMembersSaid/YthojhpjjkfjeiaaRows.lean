/-
  No cell of these rows narrows 'for every input' (looked for: loops, veiled, ifaces, maps, wideKeys, modest, calm, conditions, laid).
  DERIVED. THE GIVEN ROWS OF THIS SEAT. 4 by the template 'for every input the law returns true; each argument reads behind the call as it read before'; 0 by the template 'total and deterministic' (their statements: YthojhpjjkfjeiaaTotals.lean).
  GIVEN WITH THE SEED: the statements are not yours to turn. If you find one false, say at which input.
  Laid BY PROGRAM, IN A SANDBOX (cutbox-rows.mjs): the forced cells as the released guide's own fill.sh prints them over the translation 279ac598f03f48a1… (all of the seat's roots in one cut). By AI agents, Wed Nov 11 2026. No macro, syntax, notation, axiom, sorry.
-/
import Derived.Test.YthojhpjjkfjeiaaChecked
import GoSem.Claim
import GoSem.ClaimJoined
import GoSem.ClaimMapViews
import Derived.JoinedTies
import Derived.KernelRfl
namespace Go.Proofs.Ythojhpjjkfjeiaa
/- THE CELL 'sum', in the pinned program and in every row, IS THE sha256 OF THE DUMP (.gsa) THAT YthojhpjjkfjeiaaProg.lean LOADS. Nothing in Lean hashes anything: it is a label: what it is worth is what the hold of that sum in a sandbox is worth. -/
noncomputable def Try.pinned : Pinned := { name := "ythojhpjjkfjeiaa", sum := "279ac598f03f48a1ddb01812da938c7433874d81c1a2762b46345571b5dac280", checked := Try.checked }
namespace Rows
def none {H : Type} : Left H := { results := [], args := [] }

/-- 'chancellaw19.RaftOrder': WHATEVER THE INPUT: true; the input reads as it did. -/
def raftOrderSpec : ChangeSpec := { name := "raftOrder", fn := fun _ => fun
  | [d1, d2] => { results := [.lit (.bool true)], args := [d1, d2] }
  | _ => none }
def raftOrderRow : OpenClaim := { program := "ythojhpjjkfjeiaa", sum := "279ac598f03f48a1ddb01812da938c7433874d81c1a2762b46345571b5dac280", func := "chancel/chancellaw19.RaftOrder", spec := "raftOrder", unfollowed := true, recurses := true, apart := false }
def RaftOrderSaid : Prop := raftOrderRow.holds Try.pinned (OpenSpec.ofChange raftOrderSpec)

/-- ITS FALSE NEIGHBOUR: 'it returns false'. Refute it at one input. -/
def raftOrderWrong : ChangeSpec := { name := "raftOrder", fn := fun _ => fun
  | [d1, d2] => { results := [.lit (.bool false)], args := [d1, d2] }
  | _ => none }
def RaftOrderWrongFalsely : Prop := raftOrderRow.holds Try.pinned (OpenSpec.ofChange raftOrderWrong)

/-- 'chancellaw19.RaftMembers': WHATEVER THE INPUT: true; the input reads as it did. -/
def raftMembersSpec : ChangeSpec := { name := "raftMembers", fn := fun _ => fun
  | [d1, d2] => { results := [.lit (.bool true)], args := [d1, d2] }
  | _ => none }
def raftMembersRow : OpenClaim := { program := "ythojhpjjkfjeiaa", sum := "279ac598f03f48a1ddb01812da938c7433874d81c1a2762b46345571b5dac280", func := "chancel/chancellaw19.RaftMembers", spec := "raftMembers", unfollowed := true, recurses := true, apart := false }
def RaftMembersSaid : Prop := raftMembersRow.holds Try.pinned (OpenSpec.ofChange raftMembersSpec)

/-- ITS FALSE NEIGHBOUR: 'it returns false'. Refute it at one input. -/
def raftMembersWrong : ChangeSpec := { name := "raftMembers", fn := fun _ => fun
  | [d1, d2] => { results := [.lit (.bool false)], args := [d1, d2] }
  | _ => none }
def RaftMembersWrongFalsely : Prop := raftMembersRow.holds Try.pinned (OpenSpec.ofChange raftMembersWrong)

/-- 'chancellaw19.RaftRefuses': WHATEVER THE INPUT: true; the input reads as it did. -/
def raftRefusesSpec : ChangeSpec := { name := "raftRefuses", fn := fun _ => fun
  | [d1, d2, d3, d4] => { results := [.lit (.bool true)], args := [d1, d2, d3, d4] }
  | _ => none }
def raftRefusesRow : OpenClaim := { program := "ythojhpjjkfjeiaa", sum := "279ac598f03f48a1ddb01812da938c7433874d81c1a2762b46345571b5dac280", func := "chancel/chancellaw19.RaftRefuses", spec := "raftRefuses", unfollowed := true, recurses := true, apart := false }
def RaftRefusesSaid : Prop := raftRefusesRow.holds Try.pinned (OpenSpec.ofChange raftRefusesSpec)

/-- ITS FALSE NEIGHBOUR: 'it returns false'. Refute it at one input. -/
def raftRefusesWrong : ChangeSpec := { name := "raftRefuses", fn := fun _ => fun
  | [d1, d2, d3, d4] => { results := [.lit (.bool false)], args := [d1, d2, d3, d4] }
  | _ => none }
def RaftRefusesWrongFalsely : Prop := raftRefusesRow.holds Try.pinned (OpenSpec.ofChange raftRefusesWrong)

/-- 'chancellaw19.RaftGoesOn': WHATEVER THE INPUT: true; the input reads as it did. -/
def raftGoesOnSpec : ChangeSpec := { name := "raftGoesOn", fn := fun _ => fun
  | [d1, d2, d3] => { results := [.lit (.bool true)], args := [d1, d2, d3] }
  | _ => none }
def raftGoesOnRow : OpenClaim := { program := "ythojhpjjkfjeiaa", sum := "279ac598f03f48a1ddb01812da938c7433874d81c1a2762b46345571b5dac280", func := "chancel/chancellaw19.RaftGoesOn", spec := "raftGoesOn", unfollowed := true, recurses := true, apart := false }
def RaftGoesOnSaid : Prop := raftGoesOnRow.holds Try.pinned (OpenSpec.ofChange raftGoesOnSpec)

/-- ITS FALSE NEIGHBOUR: 'it returns false'. Refute it at one input. -/
def raftGoesOnWrong : ChangeSpec := { name := "raftGoesOn", fn := fun _ => fun
  | [d1, d2, d3] => { results := [.lit (.bool false)], args := [d1, d2, d3] }
  | _ => none }
def RaftGoesOnWrongFalsely : Prop := raftGoesOnRow.holds Try.pinned (OpenSpec.ofChange raftGoesOnWrong)

/- THE SECOND FORM. 'bulk': how many values and letters a reading holds, each counted each time it is reached (what is shared counts as often as it is met; a slice's spare places count too). A statement '..UptoSaid' is the law's where the arguments, and the package variables that the reading takes, are together of bulk at most 1048576: NARROWER than '..Said'. Prove '..Said' where nothing that the law and all that it calls make is longer than what came in: it says more and counts as full. Else prove '..UptoSaid'. A law counts once. -/
mutual
def uptoBulk {H : Type} : DataW H → Nat
  | .lit (.string bytes) => bytes.length + 1
  | .lit _ => 1
  | .nil => 1
  | .ptr d => uptoBulk d + 1
  | .slice elems spare => uptoBulkAll elems + uptoBulkAll spare + 1
  | .agg parts => uptoBulkAll parts + 1
  | .iface _ d => uptoBulk d + 1
  | .map entries => uptoBulkEntries entries + 1
  | .held _ => 1
def uptoBulkAll {H : Type} : List (DataW H) → Nat
  | [] => 0
  | d :: r => uptoBulk d + uptoBulkAll r
def uptoBulkEntries {H : Type} : List (Lit × DataW H) → Nat
  | [] => 0
  | x :: r => uptoBulkEntry x + uptoBulkEntries r
def uptoBulkEntry {H : Type} : Lit × DataW H → Nat
  | (.string bytes, d) => bytes.length + uptoBulk d + 1
  | (_, d) => uptoBulk d + 1
 end
def uptoSmall : (H : Type) → List (DataW H) → Bool := fun _ ds => decide (uptoBulkAll ds ≤ 1048576)
def OpenSpec.upto (s : _root_.Go.ChangeSpec) : _root_.Go.OpenSpec := { _root_.Go.OpenSpec.ofChange s with cond := some uptoSmall }

/-- 'chancellaw19.RaftOrder', WHERE WHAT IT READS IS OF BULK AT MOST 1048576: true; the input reads as it did. -/
def raftOrderUptoRow : OpenClaim := { program := "ythojhpjjkfjeiaa", sum := "279ac598f03f48a1ddb01812da938c7433874d81c1a2762b46345571b5dac280", func := "chancel/chancellaw19.RaftOrder", spec := "raftOrder", unfollowed := true, recurses := true, apart := false, narrowed := true }
def RaftOrderUptoSaid : Prop := raftOrderUptoRow.holds Try.pinned (OpenSpec.upto raftOrderSpec)

/-- 'chancellaw19.RaftMembers', WHERE WHAT IT READS IS OF BULK AT MOST 1048576: true; the input reads as it did. -/
def raftMembersUptoRow : OpenClaim := { program := "ythojhpjjkfjeiaa", sum := "279ac598f03f48a1ddb01812da938c7433874d81c1a2762b46345571b5dac280", func := "chancel/chancellaw19.RaftMembers", spec := "raftMembers", unfollowed := true, recurses := true, apart := false, narrowed := true }
def RaftMembersUptoSaid : Prop := raftMembersUptoRow.holds Try.pinned (OpenSpec.upto raftMembersSpec)

/-- 'chancellaw19.RaftRefuses', WHERE WHAT IT READS IS OF BULK AT MOST 1048576: true; the input reads as it did. -/
def raftRefusesUptoRow : OpenClaim := { program := "ythojhpjjkfjeiaa", sum := "279ac598f03f48a1ddb01812da938c7433874d81c1a2762b46345571b5dac280", func := "chancel/chancellaw19.RaftRefuses", spec := "raftRefuses", unfollowed := true, recurses := true, apart := false, narrowed := true }
def RaftRefusesUptoSaid : Prop := raftRefusesUptoRow.holds Try.pinned (OpenSpec.upto raftRefusesSpec)

/-- 'chancellaw19.RaftGoesOn', WHERE WHAT IT READS IS OF BULK AT MOST 1048576: true; the input reads as it did. -/
def raftGoesOnUptoRow : OpenClaim := { program := "ythojhpjjkfjeiaa", sum := "279ac598f03f48a1ddb01812da938c7433874d81c1a2762b46345571b5dac280", func := "chancel/chancellaw19.RaftGoesOn", spec := "raftGoesOn", unfollowed := true, recurses := true, apart := false, narrowed := true }
def RaftGoesOnUptoSaid : Prop := raftGoesOnUptoRow.holds Try.pinned (OpenSpec.upto raftGoesOnSpec)

end Rows
end Go.Proofs.Ythojhpjjkfjeiaa
