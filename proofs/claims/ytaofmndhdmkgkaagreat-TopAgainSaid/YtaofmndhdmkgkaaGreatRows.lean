/-
  No cell of these rows narrows 'for every input' (looked for: loops, veiled, ifaces, maps, wideKeys, modest, calm, conditions, laid).
  DERIVED. THE GIVEN ROWS OF THIS SEAT. 12 by the template 'for every input the law returns true; each argument reads behind the call as it read before'; 0 by the template 'total and deterministic' (their statements: YtaofmndhdmkgkaaGreatTotals.lean).
  GIVEN WITH THE SEED: the statements are not yours to turn. If you find one false, say at which input.
  Laid BY PROGRAM, IN A SANDBOX (cutbox-rows.mjs): the forced cells as the released guide's own fill.sh prints them over the translation df498fe8bdbe1740… (all of the seat's roots in one cut). By AI agents, Wed Nov 11 2026. No macro, syntax, notation, axiom, sorry.
-/
import Derived.Test.YtaofmndhdmkgkaaGreatChecked
import GoSem.Claim
import GoSem.ClaimJoined
import GoSem.ClaimMapViews
import Derived.JoinedTies
import Derived.KernelRfl
namespace Go.Proofs.YtaofmndhdmkgkaaGreat
/- THE CELL 'sum', in the pinned program and in every row, IS THE sha256 OF THE DUMP (.gsa) THAT YtaofmndhdmkgkaaGreatProg.lean LOADS. Nothing in Lean hashes anything: it is a label: what it is worth is what the hold of that sum in a sandbox is worth. -/
noncomputable def Tryz.pinned : Pinned := { name := "ytaofmndhdmkgkaagreat", sum := "df498fe8bdbe17402129b1c543b4c44d0693d11d51f0a92181b2b13d1e1e4859", checked := Tryz.checked }
namespace Rows
def none {H : Type} : Left H := { results := [], args := [] }

/-- 'lockkeepertop.TopLasts': WHATEVER THE INPUT: true; the input reads as it did. -/
def topLastsSpec : ChangeSpec := { name := "topLasts", fn := fun _ => fun
  | [d1, d2, d3, d4, d5] => { results := [.lit (.bool true)], args := [d1, d2, d3, d4, d5] }
  | _ => none }
def topLastsRow : OpenClaim := { program := "ytaofmndhdmkgkaagreat", sum := "df498fe8bdbe17402129b1c543b4c44d0693d11d51f0a92181b2b13d1e1e4859", func := "lockkeeper/lockkeepertop.TopLasts", spec := "topLasts", inPlace := ["internal/abi.NoEscape", "internal/bytealg.MakeNoZero", "slices.overlaps[lockkeeper/api.Page]", "slices.overlaps[int]"], unfollowed := true, recurses := true, apart := false }
def TopLastsSaid : Prop := topLastsRow.holds Tryz.pinned (OpenSpec.ofChange topLastsSpec)

/-- ITS FALSE NEIGHBOUR: 'it returns false'. Refute it at one input. -/
def topLastsWrong : ChangeSpec := { name := "topLasts", fn := fun _ => fun
  | [d1, d2, d3, d4, d5] => { results := [.lit (.bool false)], args := [d1, d2, d3, d4, d5] }
  | _ => none }
def TopLastsWrongFalsely : Prop := topLastsRow.holds Tryz.pinned (OpenSpec.ofChange topLastsWrong)

/-- 'lockkeepertop.TopAgain': WHATEVER THE INPUT: true; the input reads as it did. -/
def topAgainSpec : ChangeSpec := { name := "topAgain", fn := fun _ => fun
  | [d1, d2, d3] => { results := [.lit (.bool true)], args := [d1, d2, d3] }
  | _ => none }
def topAgainRow : OpenClaim := { program := "ytaofmndhdmkgkaagreat", sum := "df498fe8bdbe17402129b1c543b4c44d0693d11d51f0a92181b2b13d1e1e4859", func := "lockkeeper/lockkeepertop.TopAgain", spec := "topAgain", inPlace := ["internal/abi.NoEscape", "internal/bytealg.MakeNoZero", "slices.overlaps[lockkeeper/api.Page]", "slices.overlaps[int]"], unfollowed := true, recurses := true, apart := false }
def TopAgainSaid : Prop := topAgainRow.holds Tryz.pinned (OpenSpec.ofChange topAgainSpec)

/-- ITS FALSE NEIGHBOUR: 'it returns false'. Refute it at one input. -/
def topAgainWrong : ChangeSpec := { name := "topAgain", fn := fun _ => fun
  | [d1, d2, d3] => { results := [.lit (.bool false)], args := [d1, d2, d3] }
  | _ => none }
def TopAgainWrongFalsely : Prop := topAgainRow.holds Tryz.pinned (OpenSpec.ofChange topAgainWrong)

/-- 'lockkeeperlaw19.MachineReads': WHATEVER THE INPUT: true; the input reads as it did. -/
def machineReadsSpec : ChangeSpec := { name := "machineReads", fn := fun _ => fun
  | [d1, d2, d3] => { results := [.lit (.bool true)], args := [d1, d2, d3] }
  | _ => none }
def machineReadsRow : OpenClaim := { program := "ytaofmndhdmkgkaagreat", sum := "df498fe8bdbe17402129b1c543b4c44d0693d11d51f0a92181b2b13d1e1e4859", func := "lockkeeper/lockkeeperlaw19.MachineReads", spec := "machineReads", inPlace := ["internal/abi.NoEscape", "internal/bytealg.MakeNoZero", "slices.overlaps[lockkeeper/api.Page]", "slices.overlaps[int]"], unfollowed := true, recurses := true, apart := false }
def MachineReadsSaid : Prop := machineReadsRow.holds Tryz.pinned (OpenSpec.ofChange machineReadsSpec)

/-- ITS FALSE NEIGHBOUR: 'it returns false'. Refute it at one input. -/
def machineReadsWrong : ChangeSpec := { name := "machineReads", fn := fun _ => fun
  | [d1, d2, d3] => { results := [.lit (.bool false)], args := [d1, d2, d3] }
  | _ => none }
def MachineReadsWrongFalsely : Prop := machineReadsRow.holds Tryz.pinned (OpenSpec.ofChange machineReadsWrong)

/-- 'lockkeeperlaw19.MachineFails': WHATEVER THE INPUT: true; the input reads as it did. -/
def machineFailsSpec : ChangeSpec := { name := "machineFails", fn := fun _ => fun
  | [d1, d2] => { results := [.lit (.bool true)], args := [d1, d2] }
  | _ => none }
def machineFailsRow : OpenClaim := { program := "ytaofmndhdmkgkaagreat", sum := "df498fe8bdbe17402129b1c543b4c44d0693d11d51f0a92181b2b13d1e1e4859", func := "lockkeeper/lockkeeperlaw19.MachineFails", spec := "machineFails", inPlace := ["internal/abi.NoEscape", "internal/bytealg.MakeNoZero", "slices.overlaps[lockkeeper/api.Page]", "slices.overlaps[int]"], unfollowed := true, recurses := true, apart := false }
def MachineFailsSaid : Prop := machineFailsRow.holds Tryz.pinned (OpenSpec.ofChange machineFailsSpec)

/-- ITS FALSE NEIGHBOUR: 'it returns false'. Refute it at one input. -/
def machineFailsWrong : ChangeSpec := { name := "machineFails", fn := fun _ => fun
  | [d1, d2] => { results := [.lit (.bool false)], args := [d1, d2] }
  | _ => none }
def MachineFailsWrongFalsely : Prop := machineFailsRow.holds Tryz.pinned (OpenSpec.ofChange machineFailsWrong)

/-- 'lockkeeperlaw20.RoundsBound': WHATEVER THE INPUT: true; the input reads as it did. -/
def roundsBoundSpec : ChangeSpec := { name := "roundsBound", fn := fun _ => fun
  | [d] => { results := [.lit (.bool true)], args := [d] }
  | _ => none }
def roundsBoundRow : OpenClaim := { program := "ytaofmndhdmkgkaagreat", sum := "df498fe8bdbe17402129b1c543b4c44d0693d11d51f0a92181b2b13d1e1e4859", func := "lockkeeper/lockkeeperlaw20.RoundsBound", spec := "roundsBound", inPlace := ["internal/abi.NoEscape", "internal/bytealg.MakeNoZero", "slices.overlaps[lockkeeper/api.Page]", "slices.overlaps[int]"], unfollowed := true, recurses := true, apart := false }
def RoundsBoundSaid : Prop := roundsBoundRow.holds Tryz.pinned (OpenSpec.ofChange roundsBoundSpec)

/-- ITS FALSE NEIGHBOUR: 'it returns false'. Refute it at one input. -/
def roundsBoundWrong : ChangeSpec := { name := "roundsBound", fn := fun _ => fun
  | [d] => { results := [.lit (.bool false)], args := [d] }
  | _ => none }
def RoundsBoundWrongFalsely : Prop := roundsBoundRow.holds Tryz.pinned (OpenSpec.ofChange roundsBoundWrong)

/-- 'lockkeeperlaw20.RoundsEach': WHATEVER THE INPUT: true; the input reads as it did. -/
def roundsEachSpec : ChangeSpec := { name := "roundsEach", fn := fun _ => fun
  | [d1, d2, d3] => { results := [.lit (.bool true)], args := [d1, d2, d3] }
  | _ => none }
def roundsEachRow : OpenClaim := { program := "ytaofmndhdmkgkaagreat", sum := "df498fe8bdbe17402129b1c543b4c44d0693d11d51f0a92181b2b13d1e1e4859", func := "lockkeeper/lockkeeperlaw20.RoundsEach", spec := "roundsEach", inPlace := ["internal/abi.NoEscape", "internal/bytealg.MakeNoZero", "slices.overlaps[lockkeeper/api.Page]", "slices.overlaps[int]"], unfollowed := true, recurses := true, apart := false }
def RoundsEachSaid : Prop := roundsEachRow.holds Tryz.pinned (OpenSpec.ofChange roundsEachSpec)

/-- ITS FALSE NEIGHBOUR: 'it returns false'. Refute it at one input. -/
def roundsEachWrong : ChangeSpec := { name := "roundsEach", fn := fun _ => fun
  | [d1, d2, d3] => { results := [.lit (.bool false)], args := [d1, d2, d3] }
  | _ => none }
def RoundsEachWrongFalsely : Prop := roundsEachRow.holds Tryz.pinned (OpenSpec.ofChange roundsEachWrong)

/-- 'lockkeeperlaw20.RoundsWell': WHATEVER THE INPUT: true; the input reads as it did. -/
def roundsWellSpec : ChangeSpec := { name := "roundsWell", fn := fun _ => fun
  | [d1, d2] => { results := [.lit (.bool true)], args := [d1, d2] }
  | _ => none }
def roundsWellRow : OpenClaim := { program := "ytaofmndhdmkgkaagreat", sum := "df498fe8bdbe17402129b1c543b4c44d0693d11d51f0a92181b2b13d1e1e4859", func := "lockkeeper/lockkeeperlaw20.RoundsWell", spec := "roundsWell", inPlace := ["internal/abi.NoEscape", "internal/bytealg.MakeNoZero", "slices.overlaps[lockkeeper/api.Page]", "slices.overlaps[int]"], unfollowed := true, recurses := true, apart := false }
def RoundsWellSaid : Prop := roundsWellRow.holds Tryz.pinned (OpenSpec.ofChange roundsWellSpec)

/-- ITS FALSE NEIGHBOUR: 'it returns false'. Refute it at one input. -/
def roundsWellWrong : ChangeSpec := { name := "roundsWell", fn := fun _ => fun
  | [d1, d2] => { results := [.lit (.bool false)], args := [d1, d2] }
  | _ => none }
def RoundsWellWrongFalsely : Prop := roundsWellRow.holds Tryz.pinned (OpenSpec.ofChange roundsWellWrong)

/-- 'lockkeeperlaw20.RoundsApart': WHATEVER THE INPUT: true; the input reads as it did. -/
def roundsApartSpec : ChangeSpec := { name := "roundsApart", fn := fun _ => fun
  | [d] => { results := [.lit (.bool true)], args := [d] }
  | _ => none }
def roundsApartRow : OpenClaim := { program := "ytaofmndhdmkgkaagreat", sum := "df498fe8bdbe17402129b1c543b4c44d0693d11d51f0a92181b2b13d1e1e4859", func := "lockkeeper/lockkeeperlaw20.RoundsApart", spec := "roundsApart", inPlace := ["internal/abi.NoEscape", "internal/bytealg.MakeNoZero", "slices.overlaps[lockkeeper/api.Page]", "slices.overlaps[int]"], unfollowed := true, recurses := true, apart := false }
def RoundsApartSaid : Prop := roundsApartRow.holds Tryz.pinned (OpenSpec.ofChange roundsApartSpec)

/-- ITS FALSE NEIGHBOUR: 'it returns false'. Refute it at one input. -/
def roundsApartWrong : ChangeSpec := { name := "roundsApart", fn := fun _ => fun
  | [d] => { results := [.lit (.bool false)], args := [d] }
  | _ => none }
def RoundsApartWrongFalsely : Prop := roundsApartRow.holds Tryz.pinned (OpenSpec.ofChange roundsApartWrong)

/-- 'lockkeeperlaw20.RoundsBehind': WHATEVER THE INPUT: true; the input reads as it did. -/
def roundsBehindSpec : ChangeSpec := { name := "roundsBehind", fn := fun _ => fun
  | [d1, d2, d3, d4] => { results := [.lit (.bool true)], args := [d1, d2, d3, d4] }
  | _ => none }
def roundsBehindRow : OpenClaim := { program := "ytaofmndhdmkgkaagreat", sum := "df498fe8bdbe17402129b1c543b4c44d0693d11d51f0a92181b2b13d1e1e4859", func := "lockkeeper/lockkeeperlaw20.RoundsBehind", spec := "roundsBehind", inPlace := ["internal/abi.NoEscape", "internal/bytealg.MakeNoZero", "slices.overlaps[lockkeeper/api.Page]", "slices.overlaps[int]"], unfollowed := true, recurses := true, apart := false }
def RoundsBehindSaid : Prop := roundsBehindRow.holds Tryz.pinned (OpenSpec.ofChange roundsBehindSpec)

/-- ITS FALSE NEIGHBOUR: 'it returns false'. Refute it at one input. -/
def roundsBehindWrong : ChangeSpec := { name := "roundsBehind", fn := fun _ => fun
  | [d1, d2, d3, d4] => { results := [.lit (.bool false)], args := [d1, d2, d3, d4] }
  | _ => none }
def RoundsBehindWrongFalsely : Prop := roundsBehindRow.holds Tryz.pinned (OpenSpec.ofChange roundsBehindWrong)

/-- 'lockkeeperlaw20.RoundsEnd': WHATEVER THE INPUT: true; the input reads as it did. -/
def roundsEndSpec : ChangeSpec := { name := "roundsEnd", fn := fun _ => fun
  | [d1, d2, d3, d4] => { results := [.lit (.bool true)], args := [d1, d2, d3, d4] }
  | _ => none }
def roundsEndRow : OpenClaim := { program := "ytaofmndhdmkgkaagreat", sum := "df498fe8bdbe17402129b1c543b4c44d0693d11d51f0a92181b2b13d1e1e4859", func := "lockkeeper/lockkeeperlaw20.RoundsEnd", spec := "roundsEnd", inPlace := ["internal/abi.NoEscape", "internal/bytealg.MakeNoZero", "slices.overlaps[lockkeeper/api.Page]", "slices.overlaps[int]"], unfollowed := true, recurses := true, apart := false }
def RoundsEndSaid : Prop := roundsEndRow.holds Tryz.pinned (OpenSpec.ofChange roundsEndSpec)

/-- ITS FALSE NEIGHBOUR: 'it returns false'. Refute it at one input. -/
def roundsEndWrong : ChangeSpec := { name := "roundsEnd", fn := fun _ => fun
  | [d1, d2, d3, d4] => { results := [.lit (.bool false)], args := [d1, d2, d3, d4] }
  | _ => none }
def RoundsEndWrongFalsely : Prop := roundsEndRow.holds Tryz.pinned (OpenSpec.ofChange roundsEndWrong)

/-- 'lockkeeperlaw20.RoundsSame': WHATEVER THE INPUT: true; the input reads as it did. -/
def roundsSameSpec : ChangeSpec := { name := "roundsSame", fn := fun _ => fun
  | [d1, d2, d3] => { results := [.lit (.bool true)], args := [d1, d2, d3] }
  | _ => none }
def roundsSameRow : OpenClaim := { program := "ytaofmndhdmkgkaagreat", sum := "df498fe8bdbe17402129b1c543b4c44d0693d11d51f0a92181b2b13d1e1e4859", func := "lockkeeper/lockkeeperlaw20.RoundsSame", spec := "roundsSame", inPlace := ["internal/abi.NoEscape", "internal/bytealg.MakeNoZero", "slices.overlaps[lockkeeper/api.Page]", "slices.overlaps[int]"], unfollowed := true, recurses := true, apart := false }
def RoundsSameSaid : Prop := roundsSameRow.holds Tryz.pinned (OpenSpec.ofChange roundsSameSpec)

/-- ITS FALSE NEIGHBOUR: 'it returns false'. Refute it at one input. -/
def roundsSameWrong : ChangeSpec := { name := "roundsSame", fn := fun _ => fun
  | [d1, d2, d3] => { results := [.lit (.bool false)], args := [d1, d2, d3] }
  | _ => none }
def RoundsSameWrongFalsely : Prop := roundsSameRow.holds Tryz.pinned (OpenSpec.ofChange roundsSameWrong)

/-- 'lockkeeperlaw21.HistoryMachine': WHATEVER THE INPUT: true; the input reads as it did. -/
def historyMachineSpec : ChangeSpec := { name := "historyMachine", fn := fun _ => fun
  | [d1, d2, d3, d4] => { results := [.lit (.bool true)], args := [d1, d2, d3, d4] }
  | _ => none }
def historyMachineRow : OpenClaim := { program := "ytaofmndhdmkgkaagreat", sum := "df498fe8bdbe17402129b1c543b4c44d0693d11d51f0a92181b2b13d1e1e4859", func := "lockkeeper/lockkeeperlaw21.HistoryMachine", spec := "historyMachine", inPlace := ["slices.overlaps[lockkeeper/api.Page]", "internal/abi.NoEscape", "internal/bytealg.MakeNoZero", "slices.overlaps[int]"], unfollowed := true, recurses := true, apart := false }
def HistoryMachineSaid : Prop := historyMachineRow.holds Tryz.pinned (OpenSpec.ofChange historyMachineSpec)

/-- ITS FALSE NEIGHBOUR: 'it returns false'. Refute it at one input. -/
def historyMachineWrong : ChangeSpec := { name := "historyMachine", fn := fun _ => fun
  | [d1, d2, d3, d4] => { results := [.lit (.bool false)], args := [d1, d2, d3, d4] }
  | _ => none }
def HistoryMachineWrongFalsely : Prop := historyMachineRow.holds Tryz.pinned (OpenSpec.ofChange historyMachineWrong)

/- THE SECOND FORM. 'bulk': how many values and letters a reading holds, each counted each time it is reached (what is shared counts as often as it is met; a slice's spare places count too). A statement '..UptoSaid' is the law's where the arguments, and the package variables that the reading takes, are together of bulk at most 1048576: NARROWER than '..Said'. Prove '..Said' where nothing that the law and all that it calls make is longer than what came in: it says more and counts as full. Else prove '..UptoSaid'. A law counts once. -/
mutual
def uptoBulk {H : Type} : DataW H → Nat
  | .lit (.string bytes) => bytes.length + 1
  | .lit _ => 1
  | .nil => 1
  | .ptr d => uptoBulk d + 1
  | .slice elems spare => uptoBulkAll elems + uptoBulkAll spare + 1
  | .agg parts => uptoBulkAll parts + 1
  | .iface _ d => uptoBulk d + 1
  | .map entries => uptoBulkEntries entries + 1
  | .held _ => 1
def uptoBulkAll {H : Type} : List (DataW H) → Nat
  | [] => 0
  | d :: r => uptoBulk d + uptoBulkAll r
def uptoBulkEntries {H : Type} : List (Lit × DataW H) → Nat
  | [] => 0
  | x :: r => uptoBulkEntry x + uptoBulkEntries r
def uptoBulkEntry {H : Type} : Lit × DataW H → Nat
  | (.string bytes, d) => bytes.length + uptoBulk d + 1
  | (_, d) => uptoBulk d + 1
 end
def uptoSmall : (H : Type) → List (DataW H) → Bool := fun _ ds => decide (uptoBulkAll ds ≤ 1048576)
def OpenSpec.upto (s : _root_.Go.ChangeSpec) : _root_.Go.OpenSpec := { _root_.Go.OpenSpec.ofChange s with cond := some uptoSmall }

/-- 'lockkeepertop.TopLasts', WHERE WHAT IT READS IS OF BULK AT MOST 1048576: true; the input reads as it did. -/
def topLastsUptoRow : OpenClaim := { program := "ytaofmndhdmkgkaagreat", sum := "df498fe8bdbe17402129b1c543b4c44d0693d11d51f0a92181b2b13d1e1e4859", func := "lockkeeper/lockkeepertop.TopLasts", spec := "topLasts", inPlace := ["internal/abi.NoEscape", "internal/bytealg.MakeNoZero", "slices.overlaps[lockkeeper/api.Page]", "slices.overlaps[int]"], unfollowed := true, recurses := true, apart := false, narrowed := true }
def TopLastsUptoSaid : Prop := topLastsUptoRow.holds Tryz.pinned (OpenSpec.upto topLastsSpec)

/-- 'lockkeepertop.TopAgain', WHERE WHAT IT READS IS OF BULK AT MOST 1048576: true; the input reads as it did. -/
def topAgainUptoRow : OpenClaim := { program := "ytaofmndhdmkgkaagreat", sum := "df498fe8bdbe17402129b1c543b4c44d0693d11d51f0a92181b2b13d1e1e4859", func := "lockkeeper/lockkeepertop.TopAgain", spec := "topAgain", inPlace := ["internal/abi.NoEscape", "internal/bytealg.MakeNoZero", "slices.overlaps[lockkeeper/api.Page]", "slices.overlaps[int]"], unfollowed := true, recurses := true, apart := false, narrowed := true }
def TopAgainUptoSaid : Prop := topAgainUptoRow.holds Tryz.pinned (OpenSpec.upto topAgainSpec)

/-- 'lockkeeperlaw19.MachineReads', WHERE WHAT IT READS IS OF BULK AT MOST 1048576: true; the input reads as it did. -/
def machineReadsUptoRow : OpenClaim := { program := "ytaofmndhdmkgkaagreat", sum := "df498fe8bdbe17402129b1c543b4c44d0693d11d51f0a92181b2b13d1e1e4859", func := "lockkeeper/lockkeeperlaw19.MachineReads", spec := "machineReads", inPlace := ["internal/abi.NoEscape", "internal/bytealg.MakeNoZero", "slices.overlaps[lockkeeper/api.Page]", "slices.overlaps[int]"], unfollowed := true, recurses := true, apart := false, narrowed := true }
def MachineReadsUptoSaid : Prop := machineReadsUptoRow.holds Tryz.pinned (OpenSpec.upto machineReadsSpec)

/-- 'lockkeeperlaw19.MachineFails', WHERE WHAT IT READS IS OF BULK AT MOST 1048576: true; the input reads as it did. -/
def machineFailsUptoRow : OpenClaim := { program := "ytaofmndhdmkgkaagreat", sum := "df498fe8bdbe17402129b1c543b4c44d0693d11d51f0a92181b2b13d1e1e4859", func := "lockkeeper/lockkeeperlaw19.MachineFails", spec := "machineFails", inPlace := ["internal/abi.NoEscape", "internal/bytealg.MakeNoZero", "slices.overlaps[lockkeeper/api.Page]", "slices.overlaps[int]"], unfollowed := true, recurses := true, apart := false, narrowed := true }
def MachineFailsUptoSaid : Prop := machineFailsUptoRow.holds Tryz.pinned (OpenSpec.upto machineFailsSpec)

/-- 'lockkeeperlaw20.RoundsBound', WHERE WHAT IT READS IS OF BULK AT MOST 1048576: true; the input reads as it did. -/
def roundsBoundUptoRow : OpenClaim := { program := "ytaofmndhdmkgkaagreat", sum := "df498fe8bdbe17402129b1c543b4c44d0693d11d51f0a92181b2b13d1e1e4859", func := "lockkeeper/lockkeeperlaw20.RoundsBound", spec := "roundsBound", inPlace := ["internal/abi.NoEscape", "internal/bytealg.MakeNoZero", "slices.overlaps[lockkeeper/api.Page]", "slices.overlaps[int]"], unfollowed := true, recurses := true, apart := false, narrowed := true }
def RoundsBoundUptoSaid : Prop := roundsBoundUptoRow.holds Tryz.pinned (OpenSpec.upto roundsBoundSpec)

/-- 'lockkeeperlaw20.RoundsEach', WHERE WHAT IT READS IS OF BULK AT MOST 1048576: true; the input reads as it did. -/
def roundsEachUptoRow : OpenClaim := { program := "ytaofmndhdmkgkaagreat", sum := "df498fe8bdbe17402129b1c543b4c44d0693d11d51f0a92181b2b13d1e1e4859", func := "lockkeeper/lockkeeperlaw20.RoundsEach", spec := "roundsEach", inPlace := ["internal/abi.NoEscape", "internal/bytealg.MakeNoZero", "slices.overlaps[lockkeeper/api.Page]", "slices.overlaps[int]"], unfollowed := true, recurses := true, apart := false, narrowed := true }
def RoundsEachUptoSaid : Prop := roundsEachUptoRow.holds Tryz.pinned (OpenSpec.upto roundsEachSpec)

/-- 'lockkeeperlaw20.RoundsWell', WHERE WHAT IT READS IS OF BULK AT MOST 1048576: true; the input reads as it did. -/
def roundsWellUptoRow : OpenClaim := { program := "ytaofmndhdmkgkaagreat", sum := "df498fe8bdbe17402129b1c543b4c44d0693d11d51f0a92181b2b13d1e1e4859", func := "lockkeeper/lockkeeperlaw20.RoundsWell", spec := "roundsWell", inPlace := ["internal/abi.NoEscape", "internal/bytealg.MakeNoZero", "slices.overlaps[lockkeeper/api.Page]", "slices.overlaps[int]"], unfollowed := true, recurses := true, apart := false, narrowed := true }
def RoundsWellUptoSaid : Prop := roundsWellUptoRow.holds Tryz.pinned (OpenSpec.upto roundsWellSpec)

/-- 'lockkeeperlaw20.RoundsApart', WHERE WHAT IT READS IS OF BULK AT MOST 1048576: true; the input reads as it did. -/
def roundsApartUptoRow : OpenClaim := { program := "ytaofmndhdmkgkaagreat", sum := "df498fe8bdbe17402129b1c543b4c44d0693d11d51f0a92181b2b13d1e1e4859", func := "lockkeeper/lockkeeperlaw20.RoundsApart", spec := "roundsApart", inPlace := ["internal/abi.NoEscape", "internal/bytealg.MakeNoZero", "slices.overlaps[lockkeeper/api.Page]", "slices.overlaps[int]"], unfollowed := true, recurses := true, apart := false, narrowed := true }
def RoundsApartUptoSaid : Prop := roundsApartUptoRow.holds Tryz.pinned (OpenSpec.upto roundsApartSpec)

/-- 'lockkeeperlaw20.RoundsBehind', WHERE WHAT IT READS IS OF BULK AT MOST 1048576: true; the input reads as it did. -/
def roundsBehindUptoRow : OpenClaim := { program := "ytaofmndhdmkgkaagreat", sum := "df498fe8bdbe17402129b1c543b4c44d0693d11d51f0a92181b2b13d1e1e4859", func := "lockkeeper/lockkeeperlaw20.RoundsBehind", spec := "roundsBehind", inPlace := ["internal/abi.NoEscape", "internal/bytealg.MakeNoZero", "slices.overlaps[lockkeeper/api.Page]", "slices.overlaps[int]"], unfollowed := true, recurses := true, apart := false, narrowed := true }
def RoundsBehindUptoSaid : Prop := roundsBehindUptoRow.holds Tryz.pinned (OpenSpec.upto roundsBehindSpec)

/-- 'lockkeeperlaw20.RoundsEnd', WHERE WHAT IT READS IS OF BULK AT MOST 1048576: true; the input reads as it did. -/
def roundsEndUptoRow : OpenClaim := { program := "ytaofmndhdmkgkaagreat", sum := "df498fe8bdbe17402129b1c543b4c44d0693d11d51f0a92181b2b13d1e1e4859", func := "lockkeeper/lockkeeperlaw20.RoundsEnd", spec := "roundsEnd", inPlace := ["internal/abi.NoEscape", "internal/bytealg.MakeNoZero", "slices.overlaps[lockkeeper/api.Page]", "slices.overlaps[int]"], unfollowed := true, recurses := true, apart := false, narrowed := true }
def RoundsEndUptoSaid : Prop := roundsEndUptoRow.holds Tryz.pinned (OpenSpec.upto roundsEndSpec)

/-- 'lockkeeperlaw20.RoundsSame', WHERE WHAT IT READS IS OF BULK AT MOST 1048576: true; the input reads as it did. -/
def roundsSameUptoRow : OpenClaim := { program := "ytaofmndhdmkgkaagreat", sum := "df498fe8bdbe17402129b1c543b4c44d0693d11d51f0a92181b2b13d1e1e4859", func := "lockkeeper/lockkeeperlaw20.RoundsSame", spec := "roundsSame", inPlace := ["internal/abi.NoEscape", "internal/bytealg.MakeNoZero", "slices.overlaps[lockkeeper/api.Page]", "slices.overlaps[int]"], unfollowed := true, recurses := true, apart := false, narrowed := true }
def RoundsSameUptoSaid : Prop := roundsSameUptoRow.holds Tryz.pinned (OpenSpec.upto roundsSameSpec)

/-- 'lockkeeperlaw21.HistoryMachine', WHERE WHAT IT READS IS OF BULK AT MOST 1048576: true; the input reads as it did. -/
def historyMachineUptoRow : OpenClaim := { program := "ytaofmndhdmkgkaagreat", sum := "df498fe8bdbe17402129b1c543b4c44d0693d11d51f0a92181b2b13d1e1e4859", func := "lockkeeper/lockkeeperlaw21.HistoryMachine", spec := "historyMachine", inPlace := ["slices.overlaps[lockkeeper/api.Page]", "internal/abi.NoEscape", "internal/bytealg.MakeNoZero", "slices.overlaps[int]"], unfollowed := true, recurses := true, apart := false, narrowed := true }
def HistoryMachineUptoSaid : Prop := historyMachineUptoRow.holds Tryz.pinned (OpenSpec.upto historyMachineSpec)

end Rows
end Go.Proofs.YtaofmndhdmkgkaaGreat
