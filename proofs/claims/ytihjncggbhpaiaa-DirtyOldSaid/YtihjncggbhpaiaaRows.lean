/-
  No cell of these rows narrows 'for every input' (looked for: loops, veiled, ifaces, maps, wideKeys, modest, calm, conditions, laid).
  DERIVED. THE GIVEN ROWS OF THIS SEAT. 6 by the template 'for every input the law returns true; each argument reads behind the call as it read before'; 0 by the template 'total and deterministic' (their statements: YtihjncggbhpaiaaTotals.lean).
  GIVEN WITH THE SEED: the statements are not yours to turn. If you find one false, say at which input.
  Laid BY PROGRAM, IN A SANDBOX (cutbox-rows.mjs): the forced cells as the released guide's own fill.sh prints them over the translation 47d67add487aba29… (all of the seat's roots in one cut). By AI agents, Wed Nov 11 2026. No macro, syntax, notation, axiom, sorry.
-/
import Derived.Test.YtihjncggbhpaiaaChecked
import GoSem.Claim
import GoSem.ClaimJoined
import GoSem.ClaimMapViews
import Derived.JoinedTies
import Derived.KernelRfl
namespace Go.Proofs.Ytihjncggbhpaiaa
/- THE CELL 'sum', in the pinned program and in every row, IS THE sha256 OF THE DUMP (.gsa) THAT YtihjncggbhpaiaaProg.lean LOADS. Nothing in Lean hashes anything: it is a label: what it is worth is what the hold of that sum in a sandbox is worth. -/
noncomputable def Try.pinned : Pinned := { name := "ytihjncggbhpaiaa", sum := "47d67add487aba2988fdeeb790e9bac7900de45e8a9af70c94bf5c22ec67e43f", checked := Try.checked }
namespace Rows
def none {H : Type} : Left H := { results := [], args := [] }

/-- 'lockkeeperlaw14.DirtyDue': WHATEVER THE INPUT: true; the input reads as it did. -/
def dirtyDueSpec : ChangeSpec := { name := "dirtyDue", fn := fun _ => fun
  | [d1, d2, d3, d4] => { results := [.lit (.bool true)], args := [d1, d2, d3, d4] }
  | _ => none }
def dirtyDueRow : OpenClaim := { program := "ytihjncggbhpaiaa", sum := "47d67add487aba2988fdeeb790e9bac7900de45e8a9af70c94bf5c22ec67e43f", func := "lockkeeper/lockkeeperlaw14.DirtyDue", spec := "dirtyDue", apart := false }
def DirtyDueSaid : Prop := dirtyDueRow.holds Try.pinned (OpenSpec.ofChange dirtyDueSpec)

/-- ITS FALSE NEIGHBOUR: 'it returns false'. Refute it at one input. -/
def dirtyDueWrong : ChangeSpec := { name := "dirtyDue", fn := fun _ => fun
  | [d1, d2, d3, d4] => { results := [.lit (.bool false)], args := [d1, d2, d3, d4] }
  | _ => none }
def DirtyDueWrongFalsely : Prop := dirtyDueRow.holds Try.pinned (OpenSpec.ofChange dirtyDueWrong)

/-- 'lockkeeperlaw14.DirtyAll': WHATEVER THE INPUT: true; the input reads as it did. -/
def dirtyAllSpec : ChangeSpec := { name := "dirtyAll", fn := fun _ => fun
  | [d1, d2] => { results := [.lit (.bool true)], args := [d1, d2] }
  | _ => none }
def dirtyAllRow : OpenClaim := { program := "ytihjncggbhpaiaa", sum := "47d67add487aba2988fdeeb790e9bac7900de45e8a9af70c94bf5c22ec67e43f", func := "lockkeeper/lockkeeperlaw14.DirtyAll", spec := "dirtyAll", apart := false }
def DirtyAllSaid : Prop := dirtyAllRow.holds Try.pinned (OpenSpec.ofChange dirtyAllSpec)

/-- ITS FALSE NEIGHBOUR: 'it returns false'. Refute it at one input. -/
def dirtyAllWrong : ChangeSpec := { name := "dirtyAll", fn := fun _ => fun
  | [d1, d2] => { results := [.lit (.bool false)], args := [d1, d2] }
  | _ => none }
def DirtyAllWrongFalsely : Prop := dirtyAllRow.holds Try.pinned (OpenSpec.ofChange dirtyAllWrong)

/-- 'lockkeeperlaw14.DirtyOld': WHATEVER THE INPUT: true; the input reads as it did. -/
def dirtyOldSpec : ChangeSpec := { name := "dirtyOld", fn := fun _ => fun
  | [d1, d2] => { results := [.lit (.bool true)], args := [d1, d2] }
  | _ => none }
def dirtyOldRow : OpenClaim := { program := "ytihjncggbhpaiaa", sum := "47d67add487aba2988fdeeb790e9bac7900de45e8a9af70c94bf5c22ec67e43f", func := "lockkeeper/lockkeeperlaw14.DirtyOld", spec := "dirtyOld", apart := false }
def DirtyOldSaid : Prop := dirtyOldRow.holds Try.pinned (OpenSpec.ofChange dirtyOldSpec)

/-- ITS FALSE NEIGHBOUR: 'it returns false'. Refute it at one input. -/
def dirtyOldWrong : ChangeSpec := { name := "dirtyOld", fn := fun _ => fun
  | [d1, d2] => { results := [.lit (.bool false)], args := [d1, d2] }
  | _ => none }
def DirtyOldWrongFalsely : Prop := dirtyOldRow.holds Try.pinned (OpenSpec.ofChange dirtyOldWrong)

/-- 'lockkeeperlaw14.DirtyExact': WHATEVER THE INPUT: true; the input reads as it did. -/
def dirtyExactSpec : ChangeSpec := { name := "dirtyExact", fn := fun _ => fun
  | [d1, d2, d3] => { results := [.lit (.bool true)], args := [d1, d2, d3] }
  | _ => none }
def dirtyExactRow : OpenClaim := { program := "ytihjncggbhpaiaa", sum := "47d67add487aba2988fdeeb790e9bac7900de45e8a9af70c94bf5c22ec67e43f", func := "lockkeeper/lockkeeperlaw14.DirtyExact", spec := "dirtyExact", apart := false }
def DirtyExactSaid : Prop := dirtyExactRow.holds Try.pinned (OpenSpec.ofChange dirtyExactSpec)

/-- ITS FALSE NEIGHBOUR: 'it returns false'. Refute it at one input. -/
def dirtyExactWrong : ChangeSpec := { name := "dirtyExact", fn := fun _ => fun
  | [d1, d2, d3] => { results := [.lit (.bool false)], args := [d1, d2, d3] }
  | _ => none }
def DirtyExactWrongFalsely : Prop := dirtyExactRow.holds Try.pinned (OpenSpec.ofChange dirtyExactWrong)

/-- 'lockkeeperlaw14.DirtyFirst': WHATEVER THE INPUT: true; the input reads as it did. -/
def dirtyFirstSpec : ChangeSpec := { name := "dirtyFirst", fn := fun _ => fun
  | [d1, d2] => { results := [.lit (.bool true)], args := [d1, d2] }
  | _ => none }
def dirtyFirstRow : OpenClaim := { program := "ytihjncggbhpaiaa", sum := "47d67add487aba2988fdeeb790e9bac7900de45e8a9af70c94bf5c22ec67e43f", func := "lockkeeper/lockkeeperlaw14.DirtyFirst", spec := "dirtyFirst", apart := false }
def DirtyFirstSaid : Prop := dirtyFirstRow.holds Try.pinned (OpenSpec.ofChange dirtyFirstSpec)

/-- ITS FALSE NEIGHBOUR: 'it returns false'. Refute it at one input. -/
def dirtyFirstWrong : ChangeSpec := { name := "dirtyFirst", fn := fun _ => fun
  | [d1, d2] => { results := [.lit (.bool false)], args := [d1, d2] }
  | _ => none }
def DirtyFirstWrongFalsely : Prop := dirtyFirstRow.holds Try.pinned (OpenSpec.ofChange dirtyFirstWrong)

/-- 'lockkeeperlaw14.DirtyBack': WHATEVER THE INPUT: true; the input reads as it did. -/
def dirtyBackSpec : ChangeSpec := { name := "dirtyBack", fn := fun _ => fun
  | [d1, d2, d3] => { results := [.lit (.bool true)], args := [d1, d2, d3] }
  | _ => none }
def dirtyBackRow : OpenClaim := { program := "ytihjncggbhpaiaa", sum := "47d67add487aba2988fdeeb790e9bac7900de45e8a9af70c94bf5c22ec67e43f", func := "lockkeeper/lockkeeperlaw14.DirtyBack", spec := "dirtyBack", apart := false }
def DirtyBackSaid : Prop := dirtyBackRow.holds Try.pinned (OpenSpec.ofChange dirtyBackSpec)

/-- ITS FALSE NEIGHBOUR: 'it returns false'. Refute it at one input. -/
def dirtyBackWrong : ChangeSpec := { name := "dirtyBack", fn := fun _ => fun
  | [d1, d2, d3] => { results := [.lit (.bool false)], args := [d1, d2, d3] }
  | _ => none }
def DirtyBackWrongFalsely : Prop := dirtyBackRow.holds Try.pinned (OpenSpec.ofChange dirtyBackWrong)

/- THE SECOND FORM. 'bulk': how many values and letters a reading holds, each counted each time it is reached (what is shared counts as often as it is met; a slice's spare places count too). A statement '..UptoSaid' is the law's where the arguments, and the package variables that the reading takes, are together of bulk at most 1048576: NARROWER than '..Said'. Prove '..Said' where nothing that the law and all that it calls make is longer than what came in: it says more and counts as full. Else prove '..UptoSaid'. A law counts once. -/
mutual
def uptoBulk {H : Type} : DataW H → Nat
  | .lit (.string bytes) => bytes.length + 1
  | .lit _ => 1
  | .nil => 1
  | .ptr d => uptoBulk d + 1
  | .slice elems spare => uptoBulkAll elems + uptoBulkAll spare + 1
  | .agg parts => uptoBulkAll parts + 1
  | .iface _ d => uptoBulk d + 1
  | .map entries => uptoBulkEntries entries + 1
  | .held _ => 1
def uptoBulkAll {H : Type} : List (DataW H) → Nat
  | [] => 0
  | d :: r => uptoBulk d + uptoBulkAll r
def uptoBulkEntries {H : Type} : List (Lit × DataW H) → Nat
  | [] => 0
  | x :: r => uptoBulkEntry x + uptoBulkEntries r
def uptoBulkEntry {H : Type} : Lit × DataW H → Nat
  | (.string bytes, d) => bytes.length + uptoBulk d + 1
  | (_, d) => uptoBulk d + 1
 end
def uptoSmall : (H : Type) → List (DataW H) → Bool := fun _ ds => decide (uptoBulkAll ds ≤ 1048576)
def OpenSpec.upto (s : _root_.Go.ChangeSpec) : _root_.Go.OpenSpec := { _root_.Go.OpenSpec.ofChange s with cond := some uptoSmall }

/-- 'lockkeeperlaw14.DirtyDue', WHERE WHAT IT READS IS OF BULK AT MOST 1048576: true; the input reads as it did. -/
def dirtyDueUptoRow : OpenClaim := { program := "ytihjncggbhpaiaa", sum := "47d67add487aba2988fdeeb790e9bac7900de45e8a9af70c94bf5c22ec67e43f", func := "lockkeeper/lockkeeperlaw14.DirtyDue", spec := "dirtyDue", apart := false, narrowed := true }
def DirtyDueUptoSaid : Prop := dirtyDueUptoRow.holds Try.pinned (OpenSpec.upto dirtyDueSpec)

/-- 'lockkeeperlaw14.DirtyAll', WHERE WHAT IT READS IS OF BULK AT MOST 1048576: true; the input reads as it did. -/
def dirtyAllUptoRow : OpenClaim := { program := "ytihjncggbhpaiaa", sum := "47d67add487aba2988fdeeb790e9bac7900de45e8a9af70c94bf5c22ec67e43f", func := "lockkeeper/lockkeeperlaw14.DirtyAll", spec := "dirtyAll", apart := false, narrowed := true }
def DirtyAllUptoSaid : Prop := dirtyAllUptoRow.holds Try.pinned (OpenSpec.upto dirtyAllSpec)

/-- 'lockkeeperlaw14.DirtyOld', WHERE WHAT IT READS IS OF BULK AT MOST 1048576: true; the input reads as it did. -/
def dirtyOldUptoRow : OpenClaim := { program := "ytihjncggbhpaiaa", sum := "47d67add487aba2988fdeeb790e9bac7900de45e8a9af70c94bf5c22ec67e43f", func := "lockkeeper/lockkeeperlaw14.DirtyOld", spec := "dirtyOld", apart := false, narrowed := true }
def DirtyOldUptoSaid : Prop := dirtyOldUptoRow.holds Try.pinned (OpenSpec.upto dirtyOldSpec)

/-- 'lockkeeperlaw14.DirtyExact', WHERE WHAT IT READS IS OF BULK AT MOST 1048576: true; the input reads as it did. -/
def dirtyExactUptoRow : OpenClaim := { program := "ytihjncggbhpaiaa", sum := "47d67add487aba2988fdeeb790e9bac7900de45e8a9af70c94bf5c22ec67e43f", func := "lockkeeper/lockkeeperlaw14.DirtyExact", spec := "dirtyExact", apart := false, narrowed := true }
def DirtyExactUptoSaid : Prop := dirtyExactUptoRow.holds Try.pinned (OpenSpec.upto dirtyExactSpec)

/-- 'lockkeeperlaw14.DirtyFirst', WHERE WHAT IT READS IS OF BULK AT MOST 1048576: true; the input reads as it did. -/
def dirtyFirstUptoRow : OpenClaim := { program := "ytihjncggbhpaiaa", sum := "47d67add487aba2988fdeeb790e9bac7900de45e8a9af70c94bf5c22ec67e43f", func := "lockkeeper/lockkeeperlaw14.DirtyFirst", spec := "dirtyFirst", apart := false, narrowed := true }
def DirtyFirstUptoSaid : Prop := dirtyFirstUptoRow.holds Try.pinned (OpenSpec.upto dirtyFirstSpec)

/-- 'lockkeeperlaw14.DirtyBack', WHERE WHAT IT READS IS OF BULK AT MOST 1048576: true; the input reads as it did. -/
def dirtyBackUptoRow : OpenClaim := { program := "ytihjncggbhpaiaa", sum := "47d67add487aba2988fdeeb790e9bac7900de45e8a9af70c94bf5c22ec67e43f", func := "lockkeeper/lockkeeperlaw14.DirtyBack", spec := "dirtyBack", apart := false, narrowed := true }
def DirtyBackUptoSaid : Prop := dirtyBackUptoRow.holds Try.pinned (OpenSpec.upto dirtyBackSpec)

end Rows
end Go.Proofs.Ytihjncggbhpaiaa
