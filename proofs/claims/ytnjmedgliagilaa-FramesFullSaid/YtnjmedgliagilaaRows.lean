/-
  No cell of these rows narrows 'for every input' (looked for: loops, veiled, ifaces, maps, wideKeys, modest, calm, conditions, laid).
  DERIVED. THE GIVEN ROWS OF THIS SEAT. 4 by the template 'for every input the law returns true; each argument reads behind the call as it read before'; 0 by the template 'total and deterministic' (their statements: YtnjmedgliagilaaTotals.lean).
  GIVEN WITH THE SEED: the statements are not yours to turn. If you find one false, say at which input.
  Laid BY PROGRAM, IN A SANDBOX (cutbox-rows.mjs): the forced cells as the released guide's own fill.sh prints them over the translation d206fff4d292bb5f… (all of the seat's roots in one cut). By AI agents, Wed Nov 11 2026. No macro, syntax, notation, axiom, sorry.
-/
import Derived.Test.YtnjmedgliagilaaChecked
import GoSem.Claim
import GoSem.ClaimJoined
import GoSem.ClaimMapViews
import Derived.JoinedTies
import Derived.KernelRfl
namespace Go.Proofs.Ytnjmedgliagilaa
/- THE CELL 'sum', in the pinned program and in every row, IS THE sha256 OF THE DUMP (.gsa) THAT YtnjmedgliagilaaProg.lean LOADS. Nothing in Lean hashes anything: it is a label: what it is worth is what the hold of that sum in a sandbox is worth. -/
noncomputable def Try.pinned : Pinned := { name := "ytnjmedgliagilaa", sum := "d206fff4d292bb5f9970a854c0a2d5fccdacbbf102ca89b60e1203337a1a5db3", checked := Try.checked }
namespace Rows
def none {H : Type} : Left H := { results := [], args := [] }

/-- 'lockkeeperlaw15.FramesRoom': WHATEVER THE INPUT: true; the input reads as it did. -/
def framesRoomSpec : ChangeSpec := { name := "framesRoom", fn := fun _ => fun
  | [d] => { results := [.lit (.bool true)], args := [d] }
  | _ => none }
def framesRoomRow : OpenClaim := { program := "ytnjmedgliagilaa", sum := "d206fff4d292bb5f9970a854c0a2d5fccdacbbf102ca89b60e1203337a1a5db3", func := "lockkeeper/lockkeeperlaw15.FramesRoom", spec := "framesRoom", unfollowed := true, recurses := true, apart := false }
def FramesRoomSaid : Prop := framesRoomRow.holds Try.pinned (OpenSpec.ofChange framesRoomSpec)

/-- ITS FALSE NEIGHBOUR: 'it returns false'. Refute it at one input. -/
def framesRoomWrong : ChangeSpec := { name := "framesRoom", fn := fun _ => fun
  | [d] => { results := [.lit (.bool false)], args := [d] }
  | _ => none }
def FramesRoomWrongFalsely : Prop := framesRoomRow.holds Try.pinned (OpenSpec.ofChange framesRoomWrong)

/-- 'lockkeeperlaw15.FramesFull': WHATEVER THE INPUT: true; the input reads as it did. -/
def framesFullSpec : ChangeSpec := { name := "framesFull", fn := fun _ => fun
  | [d1, d2] => { results := [.lit (.bool true)], args := [d1, d2] }
  | _ => none }
def framesFullRow : OpenClaim := { program := "ytnjmedgliagilaa", sum := "d206fff4d292bb5f9970a854c0a2d5fccdacbbf102ca89b60e1203337a1a5db3", func := "lockkeeper/lockkeeperlaw15.FramesFull", spec := "framesFull", unfollowed := true, recurses := true, apart := false }
def FramesFullSaid : Prop := framesFullRow.holds Try.pinned (OpenSpec.ofChange framesFullSpec)

/-- ITS FALSE NEIGHBOUR: 'it returns false'. Refute it at one input. -/
def framesFullWrong : ChangeSpec := { name := "framesFull", fn := fun _ => fun
  | [d1, d2] => { results := [.lit (.bool false)], args := [d1, d2] }
  | _ => none }
def FramesFullWrongFalsely : Prop := framesFullRow.holds Try.pinned (OpenSpec.ofChange framesFullWrong)

/-- 'lockkeeperlaw15.FramesBack': WHATEVER THE INPUT: true; the input reads as it did. -/
def framesBackSpec : ChangeSpec := { name := "framesBack", fn := fun _ => fun
  | [d1, d2, d3] => { results := [.lit (.bool true)], args := [d1, d2, d3] }
  | _ => none }
def framesBackRow : OpenClaim := { program := "ytnjmedgliagilaa", sum := "d206fff4d292bb5f9970a854c0a2d5fccdacbbf102ca89b60e1203337a1a5db3", func := "lockkeeper/lockkeeperlaw15.FramesBack", spec := "framesBack", unfollowed := true, recurses := true, apart := false }
def FramesBackSaid : Prop := framesBackRow.holds Try.pinned (OpenSpec.ofChange framesBackSpec)

/-- ITS FALSE NEIGHBOUR: 'it returns false'. Refute it at one input. -/
def framesBackWrong : ChangeSpec := { name := "framesBack", fn := fun _ => fun
  | [d1, d2, d3] => { results := [.lit (.bool false)], args := [d1, d2, d3] }
  | _ => none }
def FramesBackWrongFalsely : Prop := framesBackRow.holds Try.pinned (OpenSpec.ofChange framesBackWrong)

/-- 'lockkeeperlaw15.FramesKeep': WHATEVER THE INPUT: true; the input reads as it did. -/
def framesKeepSpec : ChangeSpec := { name := "framesKeep", fn := fun _ => fun
  | [d1, d2] => { results := [.lit (.bool true)], args := [d1, d2] }
  | _ => none }
def framesKeepRow : OpenClaim := { program := "ytnjmedgliagilaa", sum := "d206fff4d292bb5f9970a854c0a2d5fccdacbbf102ca89b60e1203337a1a5db3", func := "lockkeeper/lockkeeperlaw15.FramesKeep", spec := "framesKeep", unfollowed := true, recurses := true, apart := false }
def FramesKeepSaid : Prop := framesKeepRow.holds Try.pinned (OpenSpec.ofChange framesKeepSpec)

/-- ITS FALSE NEIGHBOUR: 'it returns false'. Refute it at one input. -/
def framesKeepWrong : ChangeSpec := { name := "framesKeep", fn := fun _ => fun
  | [d1, d2] => { results := [.lit (.bool false)], args := [d1, d2] }
  | _ => none }
def FramesKeepWrongFalsely : Prop := framesKeepRow.holds Try.pinned (OpenSpec.ofChange framesKeepWrong)

/- THE SECOND FORM. 'bulk': how many values and letters a reading holds, each counted each time it is reached (what is shared counts as often as it is met; a slice's spare places count too). A statement '..UptoSaid' is the law's where the arguments, and the package variables that the reading takes, are together of bulk at most 1048576: NARROWER than '..Said'. Prove '..Said' where nothing that the law and all that it calls make is longer than what came in: it says more and counts as full. Else prove '..UptoSaid'. A law counts once. -/
mutual
def uptoBulk {H : Type} : DataW H → Nat
  | .lit (.string bytes) => bytes.length + 1
  | .lit _ => 1
  | .nil => 1
  | .ptr d => uptoBulk d + 1
  | .slice elems spare => uptoBulkAll elems + uptoBulkAll spare + 1
  | .agg parts => uptoBulkAll parts + 1
  | .iface _ d => uptoBulk d + 1
  | .map entries => uptoBulkEntries entries + 1
  | .held _ => 1
def uptoBulkAll {H : Type} : List (DataW H) → Nat
  | [] => 0
  | d :: r => uptoBulk d + uptoBulkAll r
def uptoBulkEntries {H : Type} : List (Lit × DataW H) → Nat
  | [] => 0
  | x :: r => uptoBulkEntry x + uptoBulkEntries r
def uptoBulkEntry {H : Type} : Lit × DataW H → Nat
  | (.string bytes, d) => bytes.length + uptoBulk d + 1
  | (_, d) => uptoBulk d + 1
 end
def uptoSmall : (H : Type) → List (DataW H) → Bool := fun _ ds => decide (uptoBulkAll ds ≤ 1048576)
def OpenSpec.upto (s : _root_.Go.ChangeSpec) : _root_.Go.OpenSpec := { _root_.Go.OpenSpec.ofChange s with cond := some uptoSmall }

/-- 'lockkeeperlaw15.FramesRoom', WHERE WHAT IT READS IS OF BULK AT MOST 1048576: true; the input reads as it did. -/
def framesRoomUptoRow : OpenClaim := { program := "ytnjmedgliagilaa", sum := "d206fff4d292bb5f9970a854c0a2d5fccdacbbf102ca89b60e1203337a1a5db3", func := "lockkeeper/lockkeeperlaw15.FramesRoom", spec := "framesRoom", unfollowed := true, recurses := true, apart := false, narrowed := true }
def FramesRoomUptoSaid : Prop := framesRoomUptoRow.holds Try.pinned (OpenSpec.upto framesRoomSpec)

/-- 'lockkeeperlaw15.FramesFull', WHERE WHAT IT READS IS OF BULK AT MOST 1048576: true; the input reads as it did. -/
def framesFullUptoRow : OpenClaim := { program := "ytnjmedgliagilaa", sum := "d206fff4d292bb5f9970a854c0a2d5fccdacbbf102ca89b60e1203337a1a5db3", func := "lockkeeper/lockkeeperlaw15.FramesFull", spec := "framesFull", unfollowed := true, recurses := true, apart := false, narrowed := true }
def FramesFullUptoSaid : Prop := framesFullUptoRow.holds Try.pinned (OpenSpec.upto framesFullSpec)

/-- 'lockkeeperlaw15.FramesBack', WHERE WHAT IT READS IS OF BULK AT MOST 1048576: true; the input reads as it did. -/
def framesBackUptoRow : OpenClaim := { program := "ytnjmedgliagilaa", sum := "d206fff4d292bb5f9970a854c0a2d5fccdacbbf102ca89b60e1203337a1a5db3", func := "lockkeeper/lockkeeperlaw15.FramesBack", spec := "framesBack", unfollowed := true, recurses := true, apart := false, narrowed := true }
def FramesBackUptoSaid : Prop := framesBackUptoRow.holds Try.pinned (OpenSpec.upto framesBackSpec)

/-- 'lockkeeperlaw15.FramesKeep', WHERE WHAT IT READS IS OF BULK AT MOST 1048576: true; the input reads as it did. -/
def framesKeepUptoRow : OpenClaim := { program := "ytnjmedgliagilaa", sum := "d206fff4d292bb5f9970a854c0a2d5fccdacbbf102ca89b60e1203337a1a5db3", func := "lockkeeper/lockkeeperlaw15.FramesKeep", spec := "framesKeep", unfollowed := true, recurses := true, apart := false, narrowed := true }
def FramesKeepUptoSaid : Prop := framesKeepUptoRow.holds Try.pinned (OpenSpec.upto framesKeepSpec)

end Rows
end Go.Proofs.Ytnjmedgliagilaa
