/-
  No cell of these rows narrows 'for every input' (looked for: loops, veiled, ifaces, maps, wideKeys, modest, calm, conditions, laid).
  DERIVED. THE GIVEN ROWS OF THIS SEAT. 6 by the template 'for every input the law returns true; each argument reads behind the call as it read before'; 0 by the template 'total and deterministic' (their statements: YtmkjebpdcclfdaaTotals.lean).
  GIVEN WITH THE SEED: the statements are not yours to turn. If you find one false, say at which input.
  Laid BY PROGRAM, IN A SANDBOX (cutbox-rows.mjs): the forced cells as the released guide's own fill.sh prints them over the translation 70688aff1aecf6f3… (all of the seat's roots in one cut). By AI agents, Wed Nov 11 2026. No macro, syntax, notation, axiom, sorry.
-/
import Derived.Test.YtmkjebpdcclfdaaChecked
import GoSem.Claim
import GoSem.ClaimJoined
import GoSem.ClaimMapViews
import Derived.JoinedTies
import Derived.KernelRfl
namespace Go.Proofs.Ytmkjebpdcclfdaa
/- THE CELL 'sum', in the pinned program and in every row, IS THE sha256 OF THE DUMP (.gsa) THAT YtmkjebpdcclfdaaProg.lean LOADS. Nothing in Lean hashes anything: it is a label: what it is worth is what the hold of that sum in a sandbox is worth. -/
noncomputable def Try.pinned : Pinned := { name := "ytmkjebpdcclfdaa", sum := "70688aff1aecf6f3b29f1c5942b26ffcd99657ea4701c0f4b7f0cb5cc327805f", checked := Try.checked }
namespace Rows
def none {H : Type} : Left H := { results := [], args := [] }

/-- 'lockkeeperlaw21.HistoryChecks': WHATEVER THE INPUT: true; the input reads as it did. -/
def historyChecksSpec : ChangeSpec := { name := "historyChecks", fn := fun _ => fun
  | [d1, d2] => { results := [.lit (.bool true)], args := [d1, d2] }
  | _ => none }
def historyChecksRow : OpenClaim := { program := "ytmkjebpdcclfdaa", sum := "70688aff1aecf6f3b29f1c5942b26ffcd99657ea4701c0f4b7f0cb5cc327805f", func := "lockkeeper/lockkeeperlaw21.HistoryChecks", spec := "historyChecks", inPlace := ["slices.overlaps[lockkeeper/api.Page]"], unfollowed := true, recurses := true, apart := false }
def HistoryChecksSaid : Prop := historyChecksRow.holds Try.pinned (OpenSpec.ofChange historyChecksSpec)

/-- ITS FALSE NEIGHBOUR: 'it returns false'. Refute it at one input. -/
def historyChecksWrong : ChangeSpec := { name := "historyChecks", fn := fun _ => fun
  | [d1, d2] => { results := [.lit (.bool false)], args := [d1, d2] }
  | _ => none }
def HistoryChecksWrongFalsely : Prop := historyChecksRow.holds Try.pinned (OpenSpec.ofChange historyChecksWrong)

/-- 'lockkeeperlaw21.HistoryBegins': WHATEVER THE INPUT: true; the input reads as it did. -/
def historyBeginsSpec : ChangeSpec := { name := "historyBegins", fn := fun _ => fun
  | [d1, d2, d3] => { results := [.lit (.bool true)], args := [d1, d2, d3] }
  | _ => none }
def historyBeginsRow : OpenClaim := { program := "ytmkjebpdcclfdaa", sum := "70688aff1aecf6f3b29f1c5942b26ffcd99657ea4701c0f4b7f0cb5cc327805f", func := "lockkeeper/lockkeeperlaw21.HistoryBegins", spec := "historyBegins", inPlace := ["slices.overlaps[lockkeeper/api.Page]"], unfollowed := true, recurses := true, apart := false }
def HistoryBeginsSaid : Prop := historyBeginsRow.holds Try.pinned (OpenSpec.ofChange historyBeginsSpec)

/-- ITS FALSE NEIGHBOUR: 'it returns false'. Refute it at one input. -/
def historyBeginsWrong : ChangeSpec := { name := "historyBegins", fn := fun _ => fun
  | [d1, d2, d3] => { results := [.lit (.bool false)], args := [d1, d2, d3] }
  | _ => none }
def HistoryBeginsWrongFalsely : Prop := historyBeginsRow.holds Try.pinned (OpenSpec.ofChange historyBeginsWrong)

/-- 'lockkeeperlaw21.HistoryTurned': WHATEVER THE INPUT: true; the input reads as it did. -/
def historyTurnedSpec : ChangeSpec := { name := "historyTurned", fn := fun _ => fun
  | [d1, d2, d3, d4] => { results := [.lit (.bool true)], args := [d1, d2, d3, d4] }
  | _ => none }
def historyTurnedRow : OpenClaim := { program := "ytmkjebpdcclfdaa", sum := "70688aff1aecf6f3b29f1c5942b26ffcd99657ea4701c0f4b7f0cb5cc327805f", func := "lockkeeper/lockkeeperlaw21.HistoryTurned", spec := "historyTurned", inPlace := ["slices.overlaps[lockkeeper/api.Page]"], unfollowed := true, recurses := true, apart := false }
def HistoryTurnedSaid : Prop := historyTurnedRow.holds Try.pinned (OpenSpec.ofChange historyTurnedSpec)

/-- ITS FALSE NEIGHBOUR: 'it returns false'. Refute it at one input. -/
def historyTurnedWrong : ChangeSpec := { name := "historyTurned", fn := fun _ => fun
  | [d1, d2, d3, d4] => { results := [.lit (.bool false)], args := [d1, d2, d3, d4] }
  | _ => none }
def HistoryTurnedWrongFalsely : Prop := historyTurnedRow.holds Try.pinned (OpenSpec.ofChange historyTurnedWrong)

/-- 'lockkeeperlaw21.HistoryAny': WHATEVER THE INPUT: true; the input reads as it did. -/
def historyAnySpec : ChangeSpec := { name := "historyAny", fn := fun _ => fun
  | [d1, d2, d3] => { results := [.lit (.bool true)], args := [d1, d2, d3] }
  | _ => none }
def historyAnyRow : OpenClaim := { program := "ytmkjebpdcclfdaa", sum := "70688aff1aecf6f3b29f1c5942b26ffcd99657ea4701c0f4b7f0cb5cc327805f", func := "lockkeeper/lockkeeperlaw21.HistoryAny", spec := "historyAny", inPlace := ["slices.overlaps[lockkeeper/api.Page]"], unfollowed := true, recurses := true, apart := false }
def HistoryAnySaid : Prop := historyAnyRow.holds Try.pinned (OpenSpec.ofChange historyAnySpec)

/-- ITS FALSE NEIGHBOUR: 'it returns false'. Refute it at one input. -/
def historyAnyWrong : ChangeSpec := { name := "historyAny", fn := fun _ => fun
  | [d1, d2, d3] => { results := [.lit (.bool false)], args := [d1, d2, d3] }
  | _ => none }
def HistoryAnyWrongFalsely : Prop := historyAnyRow.holds Try.pinned (OpenSpec.ofChange historyAnyWrong)

/-- 'lockkeeperlaw21.HistoryLate': WHATEVER THE INPUT: true; the input reads as it did. -/
def historyLateSpec : ChangeSpec := { name := "historyLate", fn := fun _ => fun
  | [d1, d2, d3, d4] => { results := [.lit (.bool true)], args := [d1, d2, d3, d4] }
  | _ => none }
def historyLateRow : OpenClaim := { program := "ytmkjebpdcclfdaa", sum := "70688aff1aecf6f3b29f1c5942b26ffcd99657ea4701c0f4b7f0cb5cc327805f", func := "lockkeeper/lockkeeperlaw21.HistoryLate", spec := "historyLate", inPlace := ["slices.overlaps[lockkeeper/api.Page]"], unfollowed := true, recurses := true, apart := false }
def HistoryLateSaid : Prop := historyLateRow.holds Try.pinned (OpenSpec.ofChange historyLateSpec)

/-- ITS FALSE NEIGHBOUR: 'it returns false'. Refute it at one input. -/
def historyLateWrong : ChangeSpec := { name := "historyLate", fn := fun _ => fun
  | [d1, d2, d3, d4] => { results := [.lit (.bool false)], args := [d1, d2, d3, d4] }
  | _ => none }
def HistoryLateWrongFalsely : Prop := historyLateRow.holds Try.pinned (OpenSpec.ofChange historyLateWrong)

/-- 'lockkeeperlaw21.HistoryOps': WHATEVER THE INPUT: true; the input reads as it did. -/
def historyOpsSpec : ChangeSpec := { name := "historyOps", fn := fun _ => fun
  | [d1, d2] => { results := [.lit (.bool true)], args := [d1, d2] }
  | _ => none }
def historyOpsRow : OpenClaim := { program := "ytmkjebpdcclfdaa", sum := "70688aff1aecf6f3b29f1c5942b26ffcd99657ea4701c0f4b7f0cb5cc327805f", func := "lockkeeper/lockkeeperlaw21.HistoryOps", spec := "historyOps", inPlace := ["slices.overlaps[lockkeeper/api.Page]"], unfollowed := true, recurses := true, apart := false }
def HistoryOpsSaid : Prop := historyOpsRow.holds Try.pinned (OpenSpec.ofChange historyOpsSpec)

/-- ITS FALSE NEIGHBOUR: 'it returns false'. Refute it at one input. -/
def historyOpsWrong : ChangeSpec := { name := "historyOps", fn := fun _ => fun
  | [d1, d2] => { results := [.lit (.bool false)], args := [d1, d2] }
  | _ => none }
def HistoryOpsWrongFalsely : Prop := historyOpsRow.holds Try.pinned (OpenSpec.ofChange historyOpsWrong)

/- THE SECOND FORM. 'bulk': how many values and letters a reading holds, each counted each time it is reached (what is shared counts as often as it is met; a slice's spare places count too). A statement '..UptoSaid' is the law's where the arguments, and the package variables that the reading takes, are together of bulk at most 1048576: NARROWER than '..Said'. Prove '..Said' where nothing that the law and all that it calls make is longer than what came in: it says more and counts as full. Else prove '..UptoSaid'. A law counts once. -/
mutual
def uptoBulk {H : Type} : DataW H → Nat
  | .lit (.string bytes) => bytes.length + 1
  | .lit _ => 1
  | .nil => 1
  | .ptr d => uptoBulk d + 1
  | .slice elems spare => uptoBulkAll elems + uptoBulkAll spare + 1
  | .agg parts => uptoBulkAll parts + 1
  | .iface _ d => uptoBulk d + 1
  | .map entries => uptoBulkEntries entries + 1
  | .held _ => 1
def uptoBulkAll {H : Type} : List (DataW H) → Nat
  | [] => 0
  | d :: r => uptoBulk d + uptoBulkAll r
def uptoBulkEntries {H : Type} : List (Lit × DataW H) → Nat
  | [] => 0
  | x :: r => uptoBulkEntry x + uptoBulkEntries r
def uptoBulkEntry {H : Type} : Lit × DataW H → Nat
  | (.string bytes, d) => bytes.length + uptoBulk d + 1
  | (_, d) => uptoBulk d + 1
 end
def uptoSmall : (H : Type) → List (DataW H) → Bool := fun _ ds => decide (uptoBulkAll ds ≤ 1048576)
def OpenSpec.upto (s : _root_.Go.ChangeSpec) : _root_.Go.OpenSpec := { _root_.Go.OpenSpec.ofChange s with cond := some uptoSmall }

/-- 'lockkeeperlaw21.HistoryChecks', WHERE WHAT IT READS IS OF BULK AT MOST 1048576: true; the input reads as it did. -/
def historyChecksUptoRow : OpenClaim := { program := "ytmkjebpdcclfdaa", sum := "70688aff1aecf6f3b29f1c5942b26ffcd99657ea4701c0f4b7f0cb5cc327805f", func := "lockkeeper/lockkeeperlaw21.HistoryChecks", spec := "historyChecks", inPlace := ["slices.overlaps[lockkeeper/api.Page]"], unfollowed := true, recurses := true, apart := false, narrowed := true }
def HistoryChecksUptoSaid : Prop := historyChecksUptoRow.holds Try.pinned (OpenSpec.upto historyChecksSpec)

/-- 'lockkeeperlaw21.HistoryBegins', WHERE WHAT IT READS IS OF BULK AT MOST 1048576: true; the input reads as it did. -/
def historyBeginsUptoRow : OpenClaim := { program := "ytmkjebpdcclfdaa", sum := "70688aff1aecf6f3b29f1c5942b26ffcd99657ea4701c0f4b7f0cb5cc327805f", func := "lockkeeper/lockkeeperlaw21.HistoryBegins", spec := "historyBegins", inPlace := ["slices.overlaps[lockkeeper/api.Page]"], unfollowed := true, recurses := true, apart := false, narrowed := true }
def HistoryBeginsUptoSaid : Prop := historyBeginsUptoRow.holds Try.pinned (OpenSpec.upto historyBeginsSpec)

/-- 'lockkeeperlaw21.HistoryTurned', WHERE WHAT IT READS IS OF BULK AT MOST 1048576: true; the input reads as it did. -/
def historyTurnedUptoRow : OpenClaim := { program := "ytmkjebpdcclfdaa", sum := "70688aff1aecf6f3b29f1c5942b26ffcd99657ea4701c0f4b7f0cb5cc327805f", func := "lockkeeper/lockkeeperlaw21.HistoryTurned", spec := "historyTurned", inPlace := ["slices.overlaps[lockkeeper/api.Page]"], unfollowed := true, recurses := true, apart := false, narrowed := true }
def HistoryTurnedUptoSaid : Prop := historyTurnedUptoRow.holds Try.pinned (OpenSpec.upto historyTurnedSpec)

/-- 'lockkeeperlaw21.HistoryAny', WHERE WHAT IT READS IS OF BULK AT MOST 1048576: true; the input reads as it did. -/
def historyAnyUptoRow : OpenClaim := { program := "ytmkjebpdcclfdaa", sum := "70688aff1aecf6f3b29f1c5942b26ffcd99657ea4701c0f4b7f0cb5cc327805f", func := "lockkeeper/lockkeeperlaw21.HistoryAny", spec := "historyAny", inPlace := ["slices.overlaps[lockkeeper/api.Page]"], unfollowed := true, recurses := true, apart := false, narrowed := true }
def HistoryAnyUptoSaid : Prop := historyAnyUptoRow.holds Try.pinned (OpenSpec.upto historyAnySpec)

/-- 'lockkeeperlaw21.HistoryLate', WHERE WHAT IT READS IS OF BULK AT MOST 1048576: true; the input reads as it did. -/
def historyLateUptoRow : OpenClaim := { program := "ytmkjebpdcclfdaa", sum := "70688aff1aecf6f3b29f1c5942b26ffcd99657ea4701c0f4b7f0cb5cc327805f", func := "lockkeeper/lockkeeperlaw21.HistoryLate", spec := "historyLate", inPlace := ["slices.overlaps[lockkeeper/api.Page]"], unfollowed := true, recurses := true, apart := false, narrowed := true }
def HistoryLateUptoSaid : Prop := historyLateUptoRow.holds Try.pinned (OpenSpec.upto historyLateSpec)

/-- 'lockkeeperlaw21.HistoryOps', WHERE WHAT IT READS IS OF BULK AT MOST 1048576: true; the input reads as it did. -/
def historyOpsUptoRow : OpenClaim := { program := "ytmkjebpdcclfdaa", sum := "70688aff1aecf6f3b29f1c5942b26ffcd99657ea4701c0f4b7f0cb5cc327805f", func := "lockkeeper/lockkeeperlaw21.HistoryOps", spec := "historyOps", inPlace := ["slices.overlaps[lockkeeper/api.Page]"], unfollowed := true, recurses := true, apart := false, narrowed := true }
def HistoryOpsUptoSaid : Prop := historyOpsUptoRow.holds Try.pinned (OpenSpec.upto historyOpsSpec)

end Rows
end Go.Proofs.Ytmkjebpdcclfdaa
