/-
  No cell of these rows narrows 'for every input' (looked for: loops, veiled, ifaces, maps, wideKeys, modest, calm, conditions, laid).
  DERIVED. THE GIVEN ROWS OF THIS SEAT. 3 by the template 'for every input the law returns true; each argument reads behind the call as it read before'; 0 by the template 'total and deterministic' (their statements: YthobpdfchhihnaaTotals.lean).
  GIVEN WITH THE SEED: the statements are not yours to turn. If you find one false, say at which input.
  Laid BY PROGRAM, IN A SANDBOX (cutbox-rows.mjs): the forced cells as the released guide's own fill.sh prints them over the translation ad5e4913290958f5… (all of the seat's roots in one cut). By AI agents, Wed Nov 11 2026. No macro, syntax, notation, axiom, sorry.
-/
import Derived.Test.YthobpdfchhihnaaChecked
import GoSem.Claim
import GoSem.ClaimJoined
import GoSem.ClaimMapViews
import Derived.JoinedTies
import Derived.KernelRfl
namespace Go.Proofs.Ythobpdfchhihnaa
/- THE CELL 'sum', in the pinned program and in every row, IS THE sha256 OF THE DUMP (.gsa) THAT YthobpdfchhihnaaProg.lean LOADS. Nothing in Lean hashes anything: it is a label: what it is worth is what the hold of that sum in a sandbox is worth. -/
noncomputable def Try.pinned : Pinned := { name := "ythobpdfchhihnaa", sum := "ad5e4913290958f5c8d129d0666a37994e5e54fab12b49374deff41e97d278f0", checked := Try.checked }
namespace Rows
def none {H : Type} : Left H := { results := [], args := [] }

/-- 'chancellaw7.PackFrames': WHATEVER THE INPUT: true; the input reads as it did. -/
def packFramesSpec : ChangeSpec := { name := "packFrames", fn := fun _ => fun
  | [d1, d2, d3] => { results := [.lit (.bool true)], args := [d1, d2, d3] }
  | _ => none }
def packFramesRow : OpenClaim := { program := "ythobpdfchhihnaa", sum := "ad5e4913290958f5c8d129d0666a37994e5e54fab12b49374deff41e97d278f0", func := "chancel/chancellaw7.PackFrames", spec := "packFrames", apart := false }
def PackFramesSaid : Prop := packFramesRow.holds Try.pinned (OpenSpec.ofChange packFramesSpec)

/-- ITS FALSE NEIGHBOUR: 'it returns false'. Refute it at one input. -/
def packFramesWrong : ChangeSpec := { name := "packFrames", fn := fun _ => fun
  | [d1, d2, d3] => { results := [.lit (.bool false)], args := [d1, d2, d3] }
  | _ => none }
def PackFramesWrongFalsely : Prop := packFramesRow.holds Try.pinned (OpenSpec.ofChange packFramesWrong)

/-- 'chancellaw7.PackCmds': WHATEVER THE INPUT: true; the input reads as it did. -/
def packCmdsSpec : ChangeSpec := { name := "packCmds", fn := fun _ => fun
  | [d1, d2, d3, d4, d5] => { results := [.lit (.bool true)], args := [d1, d2, d3, d4, d5] }
  | _ => none }
def packCmdsRow : OpenClaim := { program := "ythobpdfchhihnaa", sum := "ad5e4913290958f5c8d129d0666a37994e5e54fab12b49374deff41e97d278f0", func := "chancel/chancellaw7.PackCmds", spec := "packCmds", apart := false }
def PackCmdsSaid : Prop := packCmdsRow.holds Try.pinned (OpenSpec.ofChange packCmdsSpec)

/-- ITS FALSE NEIGHBOUR: 'it returns false'. Refute it at one input. -/
def packCmdsWrong : ChangeSpec := { name := "packCmds", fn := fun _ => fun
  | [d1, d2, d3, d4, d5] => { results := [.lit (.bool false)], args := [d1, d2, d3, d4, d5] }
  | _ => none }
def PackCmdsWrongFalsely : Prop := packCmdsRow.holds Try.pinned (OpenSpec.ofChange packCmdsWrong)

/-- 'chancellaw7.PackBounds': WHATEVER THE INPUT: true; the input reads as it did. -/
def packBoundsSpec : ChangeSpec := { name := "packBounds", fn := fun _ => fun
  | [d1, d2] => { results := [.lit (.bool true)], args := [d1, d2] }
  | _ => none }
def packBoundsRow : OpenClaim := { program := "ythobpdfchhihnaa", sum := "ad5e4913290958f5c8d129d0666a37994e5e54fab12b49374deff41e97d278f0", func := "chancel/chancellaw7.PackBounds", spec := "packBounds", unfollowed := true, recurses := true, apart := false }
def PackBoundsSaid : Prop := packBoundsRow.holds Try.pinned (OpenSpec.ofChange packBoundsSpec)

/-- ITS FALSE NEIGHBOUR: 'it returns false'. Refute it at one input. -/
def packBoundsWrong : ChangeSpec := { name := "packBounds", fn := fun _ => fun
  | [d1, d2] => { results := [.lit (.bool false)], args := [d1, d2] }
  | _ => none }
def PackBoundsWrongFalsely : Prop := packBoundsRow.holds Try.pinned (OpenSpec.ofChange packBoundsWrong)

/- THE SECOND FORM. 'bulk': how many values and letters a reading holds, each counted each time it is reached (what is shared counts as often as it is met; a slice's spare places count too). A statement '..UptoSaid' is the law's where the arguments, and the package variables that the reading takes, are together of bulk at most 1048576: NARROWER than '..Said'. Prove '..Said' where nothing that the law and all that it calls make is longer than what came in: it says more and counts as full. Else prove '..UptoSaid'. A law counts once. -/
mutual
def uptoBulk {H : Type} : DataW H → Nat
  | .lit (.string bytes) => bytes.length + 1
  | .lit _ => 1
  | .nil => 1
  | .ptr d => uptoBulk d + 1
  | .slice elems spare => uptoBulkAll elems + uptoBulkAll spare + 1
  | .agg parts => uptoBulkAll parts + 1
  | .iface _ d => uptoBulk d + 1
  | .map entries => uptoBulkEntries entries + 1
  | .held _ => 1
def uptoBulkAll {H : Type} : List (DataW H) → Nat
  | [] => 0
  | d :: r => uptoBulk d + uptoBulkAll r
def uptoBulkEntries {H : Type} : List (Lit × DataW H) → Nat
  | [] => 0
  | x :: r => uptoBulkEntry x + uptoBulkEntries r
def uptoBulkEntry {H : Type} : Lit × DataW H → Nat
  | (.string bytes, d) => bytes.length + uptoBulk d + 1
  | (_, d) => uptoBulk d + 1
 end
def uptoSmall : (H : Type) → List (DataW H) → Bool := fun _ ds => decide (uptoBulkAll ds ≤ 1048576)
def OpenSpec.upto (s : _root_.Go.ChangeSpec) : _root_.Go.OpenSpec := { _root_.Go.OpenSpec.ofChange s with cond := some uptoSmall }

/-- 'chancellaw7.PackFrames', WHERE WHAT IT READS IS OF BULK AT MOST 1048576: true; the input reads as it did. -/
def packFramesUptoRow : OpenClaim := { program := "ythobpdfchhihnaa", sum := "ad5e4913290958f5c8d129d0666a37994e5e54fab12b49374deff41e97d278f0", func := "chancel/chancellaw7.PackFrames", spec := "packFrames", apart := false, narrowed := true }
def PackFramesUptoSaid : Prop := packFramesUptoRow.holds Try.pinned (OpenSpec.upto packFramesSpec)

/-- 'chancellaw7.PackCmds', WHERE WHAT IT READS IS OF BULK AT MOST 1048576: true; the input reads as it did. -/
def packCmdsUptoRow : OpenClaim := { program := "ythobpdfchhihnaa", sum := "ad5e4913290958f5c8d129d0666a37994e5e54fab12b49374deff41e97d278f0", func := "chancel/chancellaw7.PackCmds", spec := "packCmds", apart := false, narrowed := true }
def PackCmdsUptoSaid : Prop := packCmdsUptoRow.holds Try.pinned (OpenSpec.upto packCmdsSpec)

/-- 'chancellaw7.PackBounds', WHERE WHAT IT READS IS OF BULK AT MOST 1048576: true; the input reads as it did. -/
def packBoundsUptoRow : OpenClaim := { program := "ythobpdfchhihnaa", sum := "ad5e4913290958f5c8d129d0666a37994e5e54fab12b49374deff41e97d278f0", func := "chancel/chancellaw7.PackBounds", spec := "packBounds", unfollowed := true, recurses := true, apart := false, narrowed := true }
def PackBoundsUptoSaid : Prop := packBoundsUptoRow.holds Try.pinned (OpenSpec.upto packBoundsSpec)

end Rows
end Go.Proofs.Ythobpdfchhihnaa
