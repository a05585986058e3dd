/-
  No cell of these rows narrows 'for every input' (looked for: loops, veiled, ifaces, maps, wideKeys, modest, calm, conditions, laid).
  DERIVED. THE GIVEN ROWS OF THIS SEAT. 12 by the template 'for every input the law returns true; each argument reads behind the call as it read before'; 0 by the template 'total and deterministic' (their statements: YtnlfingofodhlaaGreatTotals.lean).
  GIVEN WITH THE SEED: the statements are not yours to turn. If you find one false, say at which input.
  Laid BY PROGRAM, IN A SANDBOX (cutbox-rows.mjs): the forced cells as the released guide's own fill.sh prints them over the translation f060359be4e6047e… (all of the seat's roots in one cut). By AI agents, Wed Nov 11 2026. No macro, syntax, notation, axiom, sorry.
-/
import Derived.Test.YtnlfingofodhlaaGreatChecked
import GoSem.Claim
import GoSem.ClaimJoined
import GoSem.ClaimMapViews
import Derived.JoinedTies
import Derived.KernelRfl
namespace Go.Proofs.YtnlfingofodhlaaGreat
/- THE CELL 'sum', in the pinned program and in every row, IS THE sha256 OF THE DUMP (.gsa) THAT YtnlfingofodhlaaGreatProg.lean LOADS. Nothing in Lean hashes anything: it is a label: what it is worth is what the hold of that sum in a sandbox is worth. -/
noncomputable def Tryz.pinned : Pinned := { name := "ytnlfingofodhlaagreat", sum := "f060359be4e6047e13011f86d4afffe1b1d2b9ccdb87c14b2a767977d432a911", checked := Tryz.checked }
namespace Rows
def none {H : Type} : Left H := { results := [], args := [] }

/-- 'lockkeepertop.TopLasts': WHATEVER THE INPUT: true; the input reads as it did. -/
def topLastsSpec : ChangeSpec := { name := "topLasts", fn := fun _ => fun
  | [d1, d2, d3, d4, d5] => { results := [.lit (.bool true)], args := [d1, d2, d3, d4, d5] }
  | _ => none }
def topLastsRow : OpenClaim := { program := "ytnlfingofodhlaagreat", sum := "f060359be4e6047e13011f86d4afffe1b1d2b9ccdb87c14b2a767977d432a911", func := "lockkeeper/lockkeepertop.TopLasts", spec := "topLasts", inPlace := ["internal/abi.NoEscape", "internal/bytealg.MakeNoZero", "slices.overlaps[lockkeeper/api.Page]", "slices.overlaps[int]"], unfollowed := true, recurses := true, apart := false }
def TopLastsSaid : Prop := topLastsRow.holds Tryz.pinned (OpenSpec.ofChange topLastsSpec)

/-- ITS FALSE NEIGHBOUR: 'it returns false'. Refute it at one input. -/
def topLastsWrong : ChangeSpec := { name := "topLasts", fn := fun _ => fun
  | [d1, d2, d3, d4, d5] => { results := [.lit (.bool false)], args := [d1, d2, d3, d4, d5] }
  | _ => none }
def TopLastsWrongFalsely : Prop := topLastsRow.holds Tryz.pinned (OpenSpec.ofChange topLastsWrong)

/-- 'lockkeeperlaw19.MachineRefuses': WHATEVER THE INPUT: true; the input reads as it did. -/
def machineRefusesSpec : ChangeSpec := { name := "machineRefuses", fn := fun _ => fun
  | [d1, d2] => { results := [.lit (.bool true)], args := [d1, d2] }
  | _ => none }
def machineRefusesRow : OpenClaim := { program := "ytnlfingofodhlaagreat", sum := "f060359be4e6047e13011f86d4afffe1b1d2b9ccdb87c14b2a767977d432a911", func := "lockkeeper/lockkeeperlaw19.MachineRefuses", spec := "machineRefuses", inPlace := ["internal/abi.NoEscape", "internal/bytealg.MakeNoZero", "slices.overlaps[lockkeeper/api.Page]", "slices.overlaps[int]"], unfollowed := true, recurses := true, apart := false }
def MachineRefusesSaid : Prop := machineRefusesRow.holds Tryz.pinned (OpenSpec.ofChange machineRefusesSpec)

/-- ITS FALSE NEIGHBOUR: 'it returns false'. Refute it at one input. -/
def machineRefusesWrong : ChangeSpec := { name := "machineRefuses", fn := fun _ => fun
  | [d1, d2] => { results := [.lit (.bool false)], args := [d1, d2] }
  | _ => none }
def MachineRefusesWrongFalsely : Prop := machineRefusesRow.holds Tryz.pinned (OpenSpec.ofChange machineRefusesWrong)

/-- 'lockkeeperlaw19.MachineReads': WHATEVER THE INPUT: true; the input reads as it did. -/
def machineReadsSpec : ChangeSpec := { name := "machineReads", fn := fun _ => fun
  | [d1, d2, d3] => { results := [.lit (.bool true)], args := [d1, d2, d3] }
  | _ => none }
def machineReadsRow : OpenClaim := { program := "ytnlfingofodhlaagreat", sum := "f060359be4e6047e13011f86d4afffe1b1d2b9ccdb87c14b2a767977d432a911", func := "lockkeeper/lockkeeperlaw19.MachineReads", spec := "machineReads", inPlace := ["internal/abi.NoEscape", "internal/bytealg.MakeNoZero", "slices.overlaps[lockkeeper/api.Page]", "slices.overlaps[int]"], unfollowed := true, recurses := true, apart := false }
def MachineReadsSaid : Prop := machineReadsRow.holds Tryz.pinned (OpenSpec.ofChange machineReadsSpec)

/-- ITS FALSE NEIGHBOUR: 'it returns false'. Refute it at one input. -/
def machineReadsWrong : ChangeSpec := { name := "machineReads", fn := fun _ => fun
  | [d1, d2, d3] => { results := [.lit (.bool false)], args := [d1, d2, d3] }
  | _ => none }
def MachineReadsWrongFalsely : Prop := machineReadsRow.holds Tryz.pinned (OpenSpec.ofChange machineReadsWrong)

/-- 'lockkeeperlaw19.MachineTickets': WHATEVER THE INPUT: true; the input reads as it did. -/
def machineTicketsSpec : ChangeSpec := { name := "machineTickets", fn := fun _ => fun
  | [d] => { results := [.lit (.bool true)], args := [d] }
  | _ => none }
def machineTicketsRow : OpenClaim := { program := "ytnlfingofodhlaagreat", sum := "f060359be4e6047e13011f86d4afffe1b1d2b9ccdb87c14b2a767977d432a911", func := "lockkeeper/lockkeeperlaw19.MachineTickets", spec := "machineTickets", inPlace := ["internal/abi.NoEscape", "internal/bytealg.MakeNoZero", "slices.overlaps[lockkeeper/api.Page]", "slices.overlaps[int]"], unfollowed := true, recurses := true, apart := false }
def MachineTicketsSaid : Prop := machineTicketsRow.holds Tryz.pinned (OpenSpec.ofChange machineTicketsSpec)

/-- ITS FALSE NEIGHBOUR: 'it returns false'. Refute it at one input. -/
def machineTicketsWrong : ChangeSpec := { name := "machineTickets", fn := fun _ => fun
  | [d] => { results := [.lit (.bool false)], args := [d] }
  | _ => none }
def MachineTicketsWrongFalsely : Prop := machineTicketsRow.holds Tryz.pinned (OpenSpec.ofChange machineTicketsWrong)

/-- 'lockkeeperlaw19.MachineFails': WHATEVER THE INPUT: true; the input reads as it did. -/
def machineFailsSpec : ChangeSpec := { name := "machineFails", fn := fun _ => fun
  | [d1, d2] => { results := [.lit (.bool true)], args := [d1, d2] }
  | _ => none }
def machineFailsRow : OpenClaim := { program := "ytnlfingofodhlaagreat", sum := "f060359be4e6047e13011f86d4afffe1b1d2b9ccdb87c14b2a767977d432a911", func := "lockkeeper/lockkeeperlaw19.MachineFails", spec := "machineFails", inPlace := ["internal/abi.NoEscape", "internal/bytealg.MakeNoZero", "slices.overlaps[lockkeeper/api.Page]", "slices.overlaps[int]"], unfollowed := true, recurses := true, apart := false }
def MachineFailsSaid : Prop := machineFailsRow.holds Tryz.pinned (OpenSpec.ofChange machineFailsSpec)

/-- ITS FALSE NEIGHBOUR: 'it returns false'. Refute it at one input. -/
def machineFailsWrong : ChangeSpec := { name := "machineFails", fn := fun _ => fun
  | [d1, d2] => { results := [.lit (.bool false)], args := [d1, d2] }
  | _ => none }
def MachineFailsWrongFalsely : Prop := machineFailsRow.holds Tryz.pinned (OpenSpec.ofChange machineFailsWrong)

/-- 'lockkeeperlaw19.MachineProgram': WHATEVER THE INPUT: true; the input reads as it did. -/
def machineProgramSpec : ChangeSpec := { name := "machineProgram", fn := fun _ => fun
  | [d1, d2, d3] => { results := [.lit (.bool true)], args := [d1, d2, d3] }
  | _ => none }
def machineProgramRow : OpenClaim := { program := "ytnlfingofodhlaagreat", sum := "f060359be4e6047e13011f86d4afffe1b1d2b9ccdb87c14b2a767977d432a911", func := "lockkeeper/lockkeeperlaw19.MachineProgram", spec := "machineProgram", inPlace := ["internal/abi.NoEscape", "internal/bytealg.MakeNoZero", "slices.overlaps[lockkeeper/api.Page]", "slices.overlaps[int]"], unfollowed := true, recurses := true, apart := false }
def MachineProgramSaid : Prop := machineProgramRow.holds Tryz.pinned (OpenSpec.ofChange machineProgramSpec)

/-- ITS FALSE NEIGHBOUR: 'it returns false'. Refute it at one input. -/
def machineProgramWrong : ChangeSpec := { name := "machineProgram", fn := fun _ => fun
  | [d1, d2, d3] => { results := [.lit (.bool false)], args := [d1, d2, d3] }
  | _ => none }
def MachineProgramWrongFalsely : Prop := machineProgramRow.holds Tryz.pinned (OpenSpec.ofChange machineProgramWrong)

/-- 'lockkeeperlaw19.MachineSame': WHATEVER THE INPUT: true; the input reads as it did. -/
def machineSameSpec : ChangeSpec := { name := "machineSame", fn := fun _ => fun
  | [d1, d2, d3] => { results := [.lit (.bool true)], args := [d1, d2, d3] }
  | _ => none }
def machineSameRow : OpenClaim := { program := "ytnlfingofodhlaagreat", sum := "f060359be4e6047e13011f86d4afffe1b1d2b9ccdb87c14b2a767977d432a911", func := "lockkeeper/lockkeeperlaw19.MachineSame", spec := "machineSame", inPlace := ["internal/abi.NoEscape", "internal/bytealg.MakeNoZero", "slices.overlaps[lockkeeper/api.Page]", "slices.overlaps[int]"], unfollowed := true, recurses := true, apart := false }
def MachineSameSaid : Prop := machineSameRow.holds Tryz.pinned (OpenSpec.ofChange machineSameSpec)

/-- ITS FALSE NEIGHBOUR: 'it returns false'. Refute it at one input. -/
def machineSameWrong : ChangeSpec := { name := "machineSame", fn := fun _ => fun
  | [d1, d2, d3] => { results := [.lit (.bool false)], args := [d1, d2, d3] }
  | _ => none }
def MachineSameWrongFalsely : Prop := machineSameRow.holds Tryz.pinned (OpenSpec.ofChange machineSameWrong)

/-- 'lockkeeperlaw19.MachineOrder': WHATEVER THE INPUT: true; the input reads as it did. -/
def machineOrderSpec : ChangeSpec := { name := "machineOrder", fn := fun _ => fun
  | [d1, d2, d3, d4] => { results := [.lit (.bool true)], args := [d1, d2, d3, d4] }
  | _ => none }
def machineOrderRow : OpenClaim := { program := "ytnlfingofodhlaagreat", sum := "f060359be4e6047e13011f86d4afffe1b1d2b9ccdb87c14b2a767977d432a911", func := "lockkeeper/lockkeeperlaw19.MachineOrder", spec := "machineOrder", inPlace := ["internal/abi.NoEscape", "internal/bytealg.MakeNoZero", "slices.overlaps[lockkeeper/api.Page]", "slices.overlaps[int]"], unfollowed := true, recurses := true, apart := false }
def MachineOrderSaid : Prop := machineOrderRow.holds Tryz.pinned (OpenSpec.ofChange machineOrderSpec)

/-- ITS FALSE NEIGHBOUR: 'it returns false'. Refute it at one input. -/
def machineOrderWrong : ChangeSpec := { name := "machineOrder", fn := fun _ => fun
  | [d1, d2, d3, d4] => { results := [.lit (.bool false)], args := [d1, d2, d3, d4] }
  | _ => none }
def MachineOrderWrongFalsely : Prop := machineOrderRow.holds Tryz.pinned (OpenSpec.ofChange machineOrderWrong)

/-- 'lockkeeperlaw19.MachineRest': WHATEVER THE INPUT: true; the input reads as it did. -/
def machineRestSpec : ChangeSpec := { name := "machineRest", fn := fun _ => fun
  | [d1, d2, d3, d4] => { results := [.lit (.bool true)], args := [d1, d2, d3, d4] }
  | _ => none }
def machineRestRow : OpenClaim := { program := "ytnlfingofodhlaagreat", sum := "f060359be4e6047e13011f86d4afffe1b1d2b9ccdb87c14b2a767977d432a911", func := "lockkeeper/lockkeeperlaw19.MachineRest", spec := "machineRest", inPlace := ["internal/abi.NoEscape", "internal/bytealg.MakeNoZero", "slices.overlaps[lockkeeper/api.Page]", "slices.overlaps[int]"], unfollowed := true, recurses := true, apart := false }
def MachineRestSaid : Prop := machineRestRow.holds Tryz.pinned (OpenSpec.ofChange machineRestSpec)

/-- ITS FALSE NEIGHBOUR: 'it returns false'. Refute it at one input. -/
def machineRestWrong : ChangeSpec := { name := "machineRest", fn := fun _ => fun
  | [d1, d2, d3, d4] => { results := [.lit (.bool false)], args := [d1, d2, d3, d4] }
  | _ => none }
def MachineRestWrongFalsely : Prop := machineRestRow.holds Tryz.pinned (OpenSpec.ofChange machineRestWrong)

/-- 'lockkeeperlaw19.MachineLatch': WHATEVER THE INPUT: true; the input reads as it did. -/
def machineLatchSpec : ChangeSpec := { name := "machineLatch", fn := fun _ => fun
  | [d1, d2, d3] => { results := [.lit (.bool true)], args := [d1, d2, d3] }
  | _ => none }
def machineLatchRow : OpenClaim := { program := "ytnlfingofodhlaagreat", sum := "f060359be4e6047e13011f86d4afffe1b1d2b9ccdb87c14b2a767977d432a911", func := "lockkeeper/lockkeeperlaw19.MachineLatch", spec := "machineLatch", inPlace := ["internal/abi.NoEscape", "internal/bytealg.MakeNoZero", "slices.overlaps[lockkeeper/api.Page]", "slices.overlaps[int]"], unfollowed := true, recurses := true, apart := false }
def MachineLatchSaid : Prop := machineLatchRow.holds Tryz.pinned (OpenSpec.ofChange machineLatchSpec)

/-- ITS FALSE NEIGHBOUR: 'it returns false'. Refute it at one input. -/
def machineLatchWrong : ChangeSpec := { name := "machineLatch", fn := fun _ => fun
  | [d1, d2, d3] => { results := [.lit (.bool false)], args := [d1, d2, d3] }
  | _ => none }
def MachineLatchWrongFalsely : Prop := machineLatchRow.holds Tryz.pinned (OpenSpec.ofChange machineLatchWrong)

/-- 'lockkeeperlaw19.MachineSafe': WHATEVER THE INPUT: true; the input reads as it did. -/
def machineSafeSpec : ChangeSpec := { name := "machineSafe", fn := fun _ => fun
  | [d1, d2, d3] => { results := [.lit (.bool true)], args := [d1, d2, d3] }
  | _ => none }
def machineSafeRow : OpenClaim := { program := "ytnlfingofodhlaagreat", sum := "f060359be4e6047e13011f86d4afffe1b1d2b9ccdb87c14b2a767977d432a911", func := "lockkeeper/lockkeeperlaw19.MachineSafe", spec := "machineSafe", inPlace := ["internal/abi.NoEscape", "internal/bytealg.MakeNoZero", "slices.overlaps[lockkeeper/api.Page]", "slices.overlaps[int]"], unfollowed := true, recurses := true, apart := false }
def MachineSafeSaid : Prop := machineSafeRow.holds Tryz.pinned (OpenSpec.ofChange machineSafeSpec)

/-- ITS FALSE NEIGHBOUR: 'it returns false'. Refute it at one input. -/
def machineSafeWrong : ChangeSpec := { name := "machineSafe", fn := fun _ => fun
  | [d1, d2, d3] => { results := [.lit (.bool false)], args := [d1, d2, d3] }
  | _ => none }
def MachineSafeWrongFalsely : Prop := machineSafeRow.holds Tryz.pinned (OpenSpec.ofChange machineSafeWrong)

/-- 'lockkeeperlaw21.HistoryMachine': WHATEVER THE INPUT: true; the input reads as it did. -/
def historyMachineSpec : ChangeSpec := { name := "historyMachine", fn := fun _ => fun
  | [d1, d2, d3, d4] => { results := [.lit (.bool true)], args := [d1, d2, d3, d4] }
  | _ => none }
def historyMachineRow : OpenClaim := { program := "ytnlfingofodhlaagreat", sum := "f060359be4e6047e13011f86d4afffe1b1d2b9ccdb87c14b2a767977d432a911", func := "lockkeeper/lockkeeperlaw21.HistoryMachine", spec := "historyMachine", inPlace := ["slices.overlaps[lockkeeper/api.Page]", "internal/abi.NoEscape", "internal/bytealg.MakeNoZero", "slices.overlaps[int]"], unfollowed := true, recurses := true, apart := false }
def HistoryMachineSaid : Prop := historyMachineRow.holds Tryz.pinned (OpenSpec.ofChange historyMachineSpec)

/-- ITS FALSE NEIGHBOUR: 'it returns false'. Refute it at one input. -/
def historyMachineWrong : ChangeSpec := { name := "historyMachine", fn := fun _ => fun
  | [d1, d2, d3, d4] => { results := [.lit (.bool false)], args := [d1, d2, d3, d4] }
  | _ => none }
def HistoryMachineWrongFalsely : Prop := historyMachineRow.holds Tryz.pinned (OpenSpec.ofChange historyMachineWrong)

/- THE SECOND FORM. 'bulk': how many values and letters a reading holds, each counted each time it is reached (what is shared counts as often as it is met; a slice's spare places count too). A statement '..UptoSaid' is the law's where the arguments, and the package variables that the reading takes, are together of bulk at most 1048576: NARROWER than '..Said'. Prove '..Said' where nothing that the law and all that it calls make is longer than what came in: it says more and counts as full. Else prove '..UptoSaid'. A law counts once. -/
mutual
def uptoBulk {H : Type} : DataW H → Nat
  | .lit (.string bytes) => bytes.length + 1
  | .lit _ => 1
  | .nil => 1
  | .ptr d => uptoBulk d + 1
  | .slice elems spare => uptoBulkAll elems + uptoBulkAll spare + 1
  | .agg parts => uptoBulkAll parts + 1
  | .iface _ d => uptoBulk d + 1
  | .map entries => uptoBulkEntries entries + 1
  | .held _ => 1
def uptoBulkAll {H : Type} : List (DataW H) → Nat
  | [] => 0
  | d :: r => uptoBulk d + uptoBulkAll r
def uptoBulkEntries {H : Type} : List (Lit × DataW H) → Nat
  | [] => 0
  | x :: r => uptoBulkEntry x + uptoBulkEntries r
def uptoBulkEntry {H : Type} : Lit × DataW H → Nat
  | (.string bytes, d) => bytes.length + uptoBulk d + 1
  | (_, d) => uptoBulk d + 1
 end
def uptoSmall : (H : Type) → List (DataW H) → Bool := fun _ ds => decide (uptoBulkAll ds ≤ 1048576)
def OpenSpec.upto (s : _root_.Go.ChangeSpec) : _root_.Go.OpenSpec := { _root_.Go.OpenSpec.ofChange s with cond := some uptoSmall }

/-- 'lockkeepertop.TopLasts', WHERE WHAT IT READS IS OF BULK AT MOST 1048576: true; the input reads as it did. -/
def topLastsUptoRow : OpenClaim := { program := "ytnlfingofodhlaagreat", sum := "f060359be4e6047e13011f86d4afffe1b1d2b9ccdb87c14b2a767977d432a911", func := "lockkeeper/lockkeepertop.TopLasts", spec := "topLasts", inPlace := ["internal/abi.NoEscape", "internal/bytealg.MakeNoZero", "slices.overlaps[lockkeeper/api.Page]", "slices.overlaps[int]"], unfollowed := true, recurses := true, apart := false, narrowed := true }
def TopLastsUptoSaid : Prop := topLastsUptoRow.holds Tryz.pinned (OpenSpec.upto topLastsSpec)

/-- 'lockkeeperlaw19.MachineRefuses', WHERE WHAT IT READS IS OF BULK AT MOST 1048576: true; the input reads as it did. -/
def machineRefusesUptoRow : OpenClaim := { program := "ytnlfingofodhlaagreat", sum := "f060359be4e6047e13011f86d4afffe1b1d2b9ccdb87c14b2a767977d432a911", func := "lockkeeper/lockkeeperlaw19.MachineRefuses", spec := "machineRefuses", inPlace := ["internal/abi.NoEscape", "internal/bytealg.MakeNoZero", "slices.overlaps[lockkeeper/api.Page]", "slices.overlaps[int]"], unfollowed := true, recurses := true, apart := false, narrowed := true }
def MachineRefusesUptoSaid : Prop := machineRefusesUptoRow.holds Tryz.pinned (OpenSpec.upto machineRefusesSpec)

/-- 'lockkeeperlaw19.MachineReads', WHERE WHAT IT READS IS OF BULK AT MOST 1048576: true; the input reads as it did. -/
def machineReadsUptoRow : OpenClaim := { program := "ytnlfingofodhlaagreat", sum := "f060359be4e6047e13011f86d4afffe1b1d2b9ccdb87c14b2a767977d432a911", func := "lockkeeper/lockkeeperlaw19.MachineReads", spec := "machineReads", inPlace := ["internal/abi.NoEscape", "internal/bytealg.MakeNoZero", "slices.overlaps[lockkeeper/api.Page]", "slices.overlaps[int]"], unfollowed := true, recurses := true, apart := false, narrowed := true }
def MachineReadsUptoSaid : Prop := machineReadsUptoRow.holds Tryz.pinned (OpenSpec.upto machineReadsSpec)

/-- 'lockkeeperlaw19.MachineTickets', WHERE WHAT IT READS IS OF BULK AT MOST 1048576: true; the input reads as it did. -/
def machineTicketsUptoRow : OpenClaim := { program := "ytnlfingofodhlaagreat", sum := "f060359be4e6047e13011f86d4afffe1b1d2b9ccdb87c14b2a767977d432a911", func := "lockkeeper/lockkeeperlaw19.MachineTickets", spec := "machineTickets", inPlace := ["internal/abi.NoEscape", "internal/bytealg.MakeNoZero", "slices.overlaps[lockkeeper/api.Page]", "slices.overlaps[int]"], unfollowed := true, recurses := true, apart := false, narrowed := true }
def MachineTicketsUptoSaid : Prop := machineTicketsUptoRow.holds Tryz.pinned (OpenSpec.upto machineTicketsSpec)

/-- 'lockkeeperlaw19.MachineFails', WHERE WHAT IT READS IS OF BULK AT MOST 1048576: true; the input reads as it did. -/
def machineFailsUptoRow : OpenClaim := { program := "ytnlfingofodhlaagreat", sum := "f060359be4e6047e13011f86d4afffe1b1d2b9ccdb87c14b2a767977d432a911", func := "lockkeeper/lockkeeperlaw19.MachineFails", spec := "machineFails", inPlace := ["internal/abi.NoEscape", "internal/bytealg.MakeNoZero", "slices.overlaps[lockkeeper/api.Page]", "slices.overlaps[int]"], unfollowed := true, recurses := true, apart := false, narrowed := true }
def MachineFailsUptoSaid : Prop := machineFailsUptoRow.holds Tryz.pinned (OpenSpec.upto machineFailsSpec)

/-- 'lockkeeperlaw19.MachineProgram', WHERE WHAT IT READS IS OF BULK AT MOST 1048576: true; the input reads as it did. -/
def machineProgramUptoRow : OpenClaim := { program := "ytnlfingofodhlaagreat", sum := "f060359be4e6047e13011f86d4afffe1b1d2b9ccdb87c14b2a767977d432a911", func := "lockkeeper/lockkeeperlaw19.MachineProgram", spec := "machineProgram", inPlace := ["internal/abi.NoEscape", "internal/bytealg.MakeNoZero", "slices.overlaps[lockkeeper/api.Page]", "slices.overlaps[int]"], unfollowed := true, recurses := true, apart := false, narrowed := true }
def MachineProgramUptoSaid : Prop := machineProgramUptoRow.holds Tryz.pinned (OpenSpec.upto machineProgramSpec)

/-- 'lockkeeperlaw19.MachineSame', WHERE WHAT IT READS IS OF BULK AT MOST 1048576: true; the input reads as it did. -/
def machineSameUptoRow : OpenClaim := { program := "ytnlfingofodhlaagreat", sum := "f060359be4e6047e13011f86d4afffe1b1d2b9ccdb87c14b2a767977d432a911", func := "lockkeeper/lockkeeperlaw19.MachineSame", spec := "machineSame", inPlace := ["internal/abi.NoEscape", "internal/bytealg.MakeNoZero", "slices.overlaps[lockkeeper/api.Page]", "slices.overlaps[int]"], unfollowed := true, recurses := true, apart := false, narrowed := true }
def MachineSameUptoSaid : Prop := machineSameUptoRow.holds Tryz.pinned (OpenSpec.upto machineSameSpec)

/-- 'lockkeeperlaw19.MachineOrder', WHERE WHAT IT READS IS OF BULK AT MOST 1048576: true; the input reads as it did. -/
def machineOrderUptoRow : OpenClaim := { program := "ytnlfingofodhlaagreat", sum := "f060359be4e6047e13011f86d4afffe1b1d2b9ccdb87c14b2a767977d432a911", func := "lockkeeper/lockkeeperlaw19.MachineOrder", spec := "machineOrder", inPlace := ["internal/abi.NoEscape", "internal/bytealg.MakeNoZero", "slices.overlaps[lockkeeper/api.Page]", "slices.overlaps[int]"], unfollowed := true, recurses := true, apart := false, narrowed := true }
def MachineOrderUptoSaid : Prop := machineOrderUptoRow.holds Tryz.pinned (OpenSpec.upto machineOrderSpec)

/-- 'lockkeeperlaw19.MachineRest', WHERE WHAT IT READS IS OF BULK AT MOST 1048576: true; the input reads as it did. -/
def machineRestUptoRow : OpenClaim := { program := "ytnlfingofodhlaagreat", sum := "f060359be4e6047e13011f86d4afffe1b1d2b9ccdb87c14b2a767977d432a911", func := "lockkeeper/lockkeeperlaw19.MachineRest", spec := "machineRest", inPlace := ["internal/abi.NoEscape", "internal/bytealg.MakeNoZero", "slices.overlaps[lockkeeper/api.Page]", "slices.overlaps[int]"], unfollowed := true, recurses := true, apart := false, narrowed := true }
def MachineRestUptoSaid : Prop := machineRestUptoRow.holds Tryz.pinned (OpenSpec.upto machineRestSpec)

/-- 'lockkeeperlaw19.MachineLatch', WHERE WHAT IT READS IS OF BULK AT MOST 1048576: true; the input reads as it did. -/
def machineLatchUptoRow : OpenClaim := { program := "ytnlfingofodhlaagreat", sum := "f060359be4e6047e13011f86d4afffe1b1d2b9ccdb87c14b2a767977d432a911", func := "lockkeeper/lockkeeperlaw19.MachineLatch", spec := "machineLatch", inPlace := ["internal/abi.NoEscape", "internal/bytealg.MakeNoZero", "slices.overlaps[lockkeeper/api.Page]", "slices.overlaps[int]"], unfollowed := true, recurses := true, apart := false, narrowed := true }
def MachineLatchUptoSaid : Prop := machineLatchUptoRow.holds Tryz.pinned (OpenSpec.upto machineLatchSpec)

/-- 'lockkeeperlaw19.MachineSafe', WHERE WHAT IT READS IS OF BULK AT MOST 1048576: true; the input reads as it did. -/
def machineSafeUptoRow : OpenClaim := { program := "ytnlfingofodhlaagreat", sum := "f060359be4e6047e13011f86d4afffe1b1d2b9ccdb87c14b2a767977d432a911", func := "lockkeeper/lockkeeperlaw19.MachineSafe", spec := "machineSafe", inPlace := ["internal/abi.NoEscape", "internal/bytealg.MakeNoZero", "slices.overlaps[lockkeeper/api.Page]", "slices.overlaps[int]"], unfollowed := true, recurses := true, apart := false, narrowed := true }
def MachineSafeUptoSaid : Prop := machineSafeUptoRow.holds Tryz.pinned (OpenSpec.upto machineSafeSpec)

/-- 'lockkeeperlaw21.HistoryMachine', WHERE WHAT IT READS IS OF BULK AT MOST 1048576: true; the input reads as it did. -/
def historyMachineUptoRow : OpenClaim := { program := "ytnlfingofodhlaagreat", sum := "f060359be4e6047e13011f86d4afffe1b1d2b9ccdb87c14b2a767977d432a911", func := "lockkeeper/lockkeeperlaw21.HistoryMachine", spec := "historyMachine", inPlace := ["slices.overlaps[lockkeeper/api.Page]", "internal/abi.NoEscape", "internal/bytealg.MakeNoZero", "slices.overlaps[int]"], unfollowed := true, recurses := true, apart := false, narrowed := true }
def HistoryMachineUptoSaid : Prop := historyMachineUptoRow.holds Tryz.pinned (OpenSpec.upto historyMachineSpec)

end Rows
end Go.Proofs.YtnlfingofodhlaaGreat
