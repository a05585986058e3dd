/-
  No cell of these rows narrows 'for every input' (looked for: loops, veiled, ifaces, maps, wideKeys, modest, calm, conditions, laid).
  DERIVED. THE GIVEN ROWS OF THIS SEAT. 4 by the template 'for every input the law returns true; each argument reads behind the call as it read before'; 0 by the template 'total and deterministic' (their statements: YtjbhlhfdkhdmjaaTotals.lean).
  GIVEN WITH THE SEED: the statements are not yours to turn. If you find one false, say at which input.
  Laid BY PROGRAM, IN A SANDBOX (cutbox-rows.mjs): the forced cells as the released guide's own fill.sh prints them over the translation 267a34297b0d2c90… (all of the seat's roots in one cut). By AI agents, Wed Nov 11 2026. No macro, syntax, notation, axiom, sorry.
-/
import Derived.Test.YtjbhlhfdkhdmjaaChecked
import GoSem.Claim
import GoSem.ClaimJoined
import GoSem.ClaimMapViews
import Derived.JoinedTies
import Derived.KernelRfl
namespace Go.Proofs.Ytjbhlhfdkhdmjaa
/- THE CELL 'sum', in the pinned program and in every row, IS THE sha256 OF THE DUMP (.gsa) THAT YtjbhlhfdkhdmjaaProg.lean LOADS. Nothing in Lean hashes anything: it is a label: what it is worth is what the hold of that sum in a sandbox is worth. -/
noncomputable def Try.pinned : Pinned := { name := "ytjbhlhfdkhdmjaa", sum := "267a34297b0d2c90b3f7e3f788499473eb5c6839f81d9831aff7fcb3eacb8826", checked := Try.checked }
namespace Rows
def none {H : Type} : Left H := { results := [], args := [] }

/-- 'lockkeeperlaw07.TablePages': WHATEVER THE INPUT: true; the input reads as it did. -/
def tablePagesSpec : ChangeSpec := { name := "tablePages", fn := fun _ => fun
  | [d] => { results := [.lit (.bool true)], args := [d] }
  | _ => none }
def tablePagesRow : OpenClaim := { program := "ytjbhlhfdkhdmjaa", sum := "267a34297b0d2c90b3f7e3f788499473eb5c6839f81d9831aff7fcb3eacb8826", func := "lockkeeper/lockkeeperlaw07.TablePages", spec := "tablePages", recurses := true, apart := false }
def TablePagesSaid : Prop := tablePagesRow.holds Try.pinned (OpenSpec.ofChange tablePagesSpec)

/-- ITS FALSE NEIGHBOUR: 'it returns false'. Refute it at one input. -/
def tablePagesWrong : ChangeSpec := { name := "tablePages", fn := fun _ => fun
  | [d] => { results := [.lit (.bool false)], args := [d] }
  | _ => none }
def TablePagesWrongFalsely : Prop := tablePagesRow.holds Try.pinned (OpenSpec.ofChange tablePagesWrong)

/-- 'lockkeeperlaw07.TableKeeps': WHATEVER THE INPUT: true; the input reads as it did. -/
def tableKeepsSpec : ChangeSpec := { name := "tableKeeps", fn := fun _ => fun
  | [d] => { results := [.lit (.bool true)], args := [d] }
  | _ => none }
def tableKeepsRow : OpenClaim := { program := "ytjbhlhfdkhdmjaa", sum := "267a34297b0d2c90b3f7e3f788499473eb5c6839f81d9831aff7fcb3eacb8826", func := "lockkeeper/lockkeeperlaw07.TableKeeps", spec := "tableKeeps", recurses := true, apart := false }
def TableKeepsSaid : Prop := tableKeepsRow.holds Try.pinned (OpenSpec.ofChange tableKeepsSpec)

/-- ITS FALSE NEIGHBOUR: 'it returns false'. Refute it at one input. -/
def tableKeepsWrong : ChangeSpec := { name := "tableKeeps", fn := fun _ => fun
  | [d] => { results := [.lit (.bool false)], args := [d] }
  | _ => none }
def TableKeepsWrongFalsely : Prop := tableKeepsRow.holds Try.pinned (OpenSpec.ofChange tableKeepsWrong)

/-- 'lockkeeperlaw07.TableBack': WHATEVER THE INPUT: true; the input reads as it did. -/
def tableBackSpec : ChangeSpec := { name := "tableBack", fn := fun _ => fun
  | [d1, d2, d3] => { results := [.lit (.bool true)], args := [d1, d2, d3] }
  | _ => none }
def tableBackRow : OpenClaim := { program := "ytjbhlhfdkhdmjaa", sum := "267a34297b0d2c90b3f7e3f788499473eb5c6839f81d9831aff7fcb3eacb8826", func := "lockkeeper/lockkeeperlaw07.TableBack", spec := "tableBack", recurses := true, apart := false }
def TableBackSaid : Prop := tableBackRow.holds Try.pinned (OpenSpec.ofChange tableBackSpec)

/-- ITS FALSE NEIGHBOUR: 'it returns false'. Refute it at one input. -/
def tableBackWrong : ChangeSpec := { name := "tableBack", fn := fun _ => fun
  | [d1, d2, d3] => { results := [.lit (.bool false)], args := [d1, d2, d3] }
  | _ => none }
def TableBackWrongFalsely : Prop := tableBackRow.holds Try.pinned (OpenSpec.ofChange tableBackWrong)

/-- 'lockkeeperlaw07.TableHomes': WHATEVER THE INPUT: true; the input reads as it did. -/
def tableHomesSpec : ChangeSpec := { name := "tableHomes", fn := fun _ => fun
  | [d1, d2] => { results := [.lit (.bool true)], args := [d1, d2] }
  | _ => none }
def tableHomesRow : OpenClaim := { program := "ytjbhlhfdkhdmjaa", sum := "267a34297b0d2c90b3f7e3f788499473eb5c6839f81d9831aff7fcb3eacb8826", func := "lockkeeper/lockkeeperlaw07.TableHomes", spec := "tableHomes", recurses := true, apart := false }
def TableHomesSaid : Prop := tableHomesRow.holds Try.pinned (OpenSpec.ofChange tableHomesSpec)

/-- ITS FALSE NEIGHBOUR: 'it returns false'. Refute it at one input. -/
def tableHomesWrong : ChangeSpec := { name := "tableHomes", fn := fun _ => fun
  | [d1, d2] => { results := [.lit (.bool false)], args := [d1, d2] }
  | _ => none }
def TableHomesWrongFalsely : Prop := tableHomesRow.holds Try.pinned (OpenSpec.ofChange tableHomesWrong)

/- THE SECOND FORM. 'bulk': how many values and letters a reading holds, each counted each time it is reached (what is shared counts as often as it is met; a slice's spare places count too). A statement '..UptoSaid' is the law's where the arguments, and the package variables that the reading takes, are together of bulk at most 1048576: NARROWER than '..Said'. Prove '..Said' where nothing that the law and all that it calls make is longer than what came in: it says more and counts as full. Else prove '..UptoSaid'. A law counts once. -/
mutual
def uptoBulk {H : Type} : DataW H → Nat
  | .lit (.string bytes) => bytes.length + 1
  | .lit _ => 1
  | .nil => 1
  | .ptr d => uptoBulk d + 1
  | .slice elems spare => uptoBulkAll elems + uptoBulkAll spare + 1
  | .agg parts => uptoBulkAll parts + 1
  | .iface _ d => uptoBulk d + 1
  | .map entries => uptoBulkEntries entries + 1
  | .held _ => 1
def uptoBulkAll {H : Type} : List (DataW H) → Nat
  | [] => 0
  | d :: r => uptoBulk d + uptoBulkAll r
def uptoBulkEntries {H : Type} : List (Lit × DataW H) → Nat
  | [] => 0
  | x :: r => uptoBulkEntry x + uptoBulkEntries r
def uptoBulkEntry {H : Type} : Lit × DataW H → Nat
  | (.string bytes, d) => bytes.length + uptoBulk d + 1
  | (_, d) => uptoBulk d + 1
 end
def uptoSmall : (H : Type) → List (DataW H) → Bool := fun _ ds => decide (uptoBulkAll ds ≤ 1048576)
def OpenSpec.upto (s : _root_.Go.ChangeSpec) : _root_.Go.OpenSpec := { _root_.Go.OpenSpec.ofChange s with cond := some uptoSmall }

/-- 'lockkeeperlaw07.TablePages', WHERE WHAT IT READS IS OF BULK AT MOST 1048576: true; the input reads as it did. -/
def tablePagesUptoRow : OpenClaim := { program := "ytjbhlhfdkhdmjaa", sum := "267a34297b0d2c90b3f7e3f788499473eb5c6839f81d9831aff7fcb3eacb8826", func := "lockkeeper/lockkeeperlaw07.TablePages", spec := "tablePages", recurses := true, apart := false, narrowed := true }
def TablePagesUptoSaid : Prop := tablePagesUptoRow.holds Try.pinned (OpenSpec.upto tablePagesSpec)

/-- 'lockkeeperlaw07.TableKeeps', WHERE WHAT IT READS IS OF BULK AT MOST 1048576: true; the input reads as it did. -/
def tableKeepsUptoRow : OpenClaim := { program := "ytjbhlhfdkhdmjaa", sum := "267a34297b0d2c90b3f7e3f788499473eb5c6839f81d9831aff7fcb3eacb8826", func := "lockkeeper/lockkeeperlaw07.TableKeeps", spec := "tableKeeps", recurses := true, apart := false, narrowed := true }
def TableKeepsUptoSaid : Prop := tableKeepsUptoRow.holds Try.pinned (OpenSpec.upto tableKeepsSpec)

/-- 'lockkeeperlaw07.TableBack', WHERE WHAT IT READS IS OF BULK AT MOST 1048576: true; the input reads as it did. -/
def tableBackUptoRow : OpenClaim := { program := "ytjbhlhfdkhdmjaa", sum := "267a34297b0d2c90b3f7e3f788499473eb5c6839f81d9831aff7fcb3eacb8826", func := "lockkeeper/lockkeeperlaw07.TableBack", spec := "tableBack", recurses := true, apart := false, narrowed := true }
def TableBackUptoSaid : Prop := tableBackUptoRow.holds Try.pinned (OpenSpec.upto tableBackSpec)

/-- 'lockkeeperlaw07.TableHomes', WHERE WHAT IT READS IS OF BULK AT MOST 1048576: true; the input reads as it did. -/
def tableHomesUptoRow : OpenClaim := { program := "ytjbhlhfdkhdmjaa", sum := "267a34297b0d2c90b3f7e3f788499473eb5c6839f81d9831aff7fcb3eacb8826", func := "lockkeeper/lockkeeperlaw07.TableHomes", spec := "tableHomes", recurses := true, apart := false, narrowed := true }
def TableHomesUptoSaid : Prop := tableHomesUptoRow.holds Try.pinned (OpenSpec.upto tableHomesSpec)

end Rows
end Go.Proofs.Ytjbhlhfdkhdmjaa
