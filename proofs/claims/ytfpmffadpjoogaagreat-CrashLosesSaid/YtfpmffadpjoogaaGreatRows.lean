/-
  No cell of these rows narrows 'for every input' (looked for: loops, veiled, ifaces, maps, wideKeys, modest, calm, conditions, laid).
  DERIVED. THE GIVEN ROWS OF THIS SEAT. 12 by the template 'for every input the law returns true; each argument reads behind the call as it read before'; 0 by the template 'total and deterministic' (their statements: YtfpmffadpjoogaaGreatTotals.lean).
  GIVEN WITH THE SEED: the statements are not yours to turn. If you find one false, say at which input.
  Laid BY PROGRAM, IN A SANDBOX (cutbox-rows.mjs): the forced cells as the released guide's own fill.sh prints them over the translation 94a29b4714669b2c… (all of the seat's roots in one cut). By AI agents, Wed Nov 11 2026. No macro, syntax, notation, axiom, sorry.
-/
import Derived.Test.YtfpmffadpjoogaaGreatChecked
import GoSem.Claim
import GoSem.ClaimJoined
import GoSem.ClaimMapViews
import Derived.JoinedTies
import Derived.KernelRfl
namespace Go.Proofs.YtfpmffadpjoogaaGreat
/- THE CELL 'sum', in the pinned program and in every row, IS THE sha256 OF THE DUMP (.gsa) THAT YtfpmffadpjoogaaGreatProg.lean LOADS. Nothing in Lean hashes anything: it is a label: what it is worth is what the hold of that sum in a sandbox is worth. -/
noncomputable def Tryz.pinned : Pinned := { name := "ytfpmffadpjoogaagreat", sum := "94a29b4714669b2cf4a70c1d3ca34e88c7b40b13418f23e7eb5315e82ea69b08", checked := Tryz.checked }
namespace Rows
def none {H : Type} : Left H := { results := [], args := [] }

/-- 'lockkeeperlaw16.PoolAgain': WHATEVER THE INPUT: true; the input reads as it did. -/
def poolAgainSpec : ChangeSpec := { name := "poolAgain", fn := fun _ => fun
  | [d1, d2, d3] => { results := [.lit (.bool true)], args := [d1, d2, d3] }
  | _ => none }
def poolAgainRow : OpenClaim := { program := "ytfpmffadpjoogaagreat", sum := "94a29b4714669b2cf4a70c1d3ca34e88c7b40b13418f23e7eb5315e82ea69b08", func := "lockkeeper/lockkeeperlaw16.PoolAgain", spec := "poolAgain", inPlace := ["internal/abi.NoEscape", "internal/bytealg.MakeNoZero"], unfollowed := true, recurses := true, apart := false }
def PoolAgainSaid : Prop := poolAgainRow.holds Tryz.pinned (OpenSpec.ofChange poolAgainSpec)

/-- ITS FALSE NEIGHBOUR: 'it returns false'. Refute it at one input. -/
def poolAgainWrong : ChangeSpec := { name := "poolAgain", fn := fun _ => fun
  | [d1, d2, d3] => { results := [.lit (.bool false)], args := [d1, d2, d3] }
  | _ => none }
def PoolAgainWrongFalsely : Prop := poolAgainRow.holds Tryz.pinned (OpenSpec.ofChange poolAgainWrong)

/-- 'lockkeeperlaw16.PoolOpens': WHATEVER THE INPUT: true; the input reads as it did. -/
def poolOpensSpec : ChangeSpec := { name := "poolOpens", fn := fun _ => fun
  | [d1, d2] => { results := [.lit (.bool true)], args := [d1, d2] }
  | _ => none }
def poolOpensRow : OpenClaim := { program := "ytfpmffadpjoogaagreat", sum := "94a29b4714669b2cf4a70c1d3ca34e88c7b40b13418f23e7eb5315e82ea69b08", func := "lockkeeper/lockkeeperlaw16.PoolOpens", spec := "poolOpens", inPlace := ["internal/abi.NoEscape", "internal/bytealg.MakeNoZero"], unfollowed := true, recurses := true, apart := false }
def PoolOpensSaid : Prop := poolOpensRow.holds Tryz.pinned (OpenSpec.ofChange poolOpensSpec)

/-- ITS FALSE NEIGHBOUR: 'it returns false'. Refute it at one input. -/
def poolOpensWrong : ChangeSpec := { name := "poolOpens", fn := fun _ => fun
  | [d1, d2] => { results := [.lit (.bool false)], args := [d1, d2] }
  | _ => none }
def PoolOpensWrongFalsely : Prop := poolOpensRow.holds Tryz.pinned (OpenSpec.ofChange poolOpensWrong)

/-- 'lockkeeperlaw16.PoolBusy': WHATEVER THE INPUT: true; the input reads as it did. -/
def poolBusySpec : ChangeSpec := { name := "poolBusy", fn := fun _ => fun
  | [d1, d2] => { results := [.lit (.bool true)], args := [d1, d2] }
  | _ => none }
def poolBusyRow : OpenClaim := { program := "ytfpmffadpjoogaagreat", sum := "94a29b4714669b2cf4a70c1d3ca34e88c7b40b13418f23e7eb5315e82ea69b08", func := "lockkeeper/lockkeeperlaw16.PoolBusy", spec := "poolBusy", inPlace := ["internal/abi.NoEscape", "internal/bytealg.MakeNoZero"], unfollowed := true, recurses := true, apart := false }
def PoolBusySaid : Prop := poolBusyRow.holds Tryz.pinned (OpenSpec.ofChange poolBusySpec)

/-- ITS FALSE NEIGHBOUR: 'it returns false'. Refute it at one input. -/
def poolBusyWrong : ChangeSpec := { name := "poolBusy", fn := fun _ => fun
  | [d1, d2] => { results := [.lit (.bool false)], args := [d1, d2] }
  | _ => none }
def PoolBusyWrongFalsely : Prop := poolBusyRow.holds Tryz.pinned (OpenSpec.ofChange poolBusyWrong)

/-- 'lockkeeperlaw16.PoolPins': WHATEVER THE INPUT: true; the input reads as it did. -/
def poolPinsSpec : ChangeSpec := { name := "poolPins", fn := fun _ => fun
  | [d1, d2] => { results := [.lit (.bool true)], args := [d1, d2] }
  | _ => none }
def poolPinsRow : OpenClaim := { program := "ytfpmffadpjoogaagreat", sum := "94a29b4714669b2cf4a70c1d3ca34e88c7b40b13418f23e7eb5315e82ea69b08", func := "lockkeeper/lockkeeperlaw16.PoolPins", spec := "poolPins", inPlace := ["internal/abi.NoEscape", "internal/bytealg.MakeNoZero"], unfollowed := true, recurses := true, apart := false }
def PoolPinsSaid : Prop := poolPinsRow.holds Tryz.pinned (OpenSpec.ofChange poolPinsSpec)

/-- ITS FALSE NEIGHBOUR: 'it returns false'. Refute it at one input. -/
def poolPinsWrong : ChangeSpec := { name := "poolPins", fn := fun _ => fun
  | [d1, d2] => { results := [.lit (.bool false)], args := [d1, d2] }
  | _ => none }
def PoolPinsWrongFalsely : Prop := poolPinsRow.holds Tryz.pinned (OpenSpec.ofChange poolPinsWrong)

/-- 'lockkeeperlaw16.PoolSame': WHATEVER THE INPUT: true; the input reads as it did. -/
def poolSameSpec : ChangeSpec := { name := "poolSame", fn := fun _ => fun
  | [d1, d2] => { results := [.lit (.bool true)], args := [d1, d2] }
  | _ => none }
def poolSameRow : OpenClaim := { program := "ytfpmffadpjoogaagreat", sum := "94a29b4714669b2cf4a70c1d3ca34e88c7b40b13418f23e7eb5315e82ea69b08", func := "lockkeeper/lockkeeperlaw16.PoolSame", spec := "poolSame", inPlace := ["internal/abi.NoEscape", "internal/bytealg.MakeNoZero"], unfollowed := true, recurses := true, apart := false }
def PoolSameSaid : Prop := poolSameRow.holds Tryz.pinned (OpenSpec.ofChange poolSameSpec)

/-- ITS FALSE NEIGHBOUR: 'it returns false'. Refute it at one input. -/
def poolSameWrong : ChangeSpec := { name := "poolSame", fn := fun _ => fun
  | [d1, d2] => { results := [.lit (.bool false)], args := [d1, d2] }
  | _ => none }
def PoolSameWrongFalsely : Prop := poolSameRow.holds Tryz.pinned (OpenSpec.ofChange poolSameWrong)

/-- 'lockkeeperlaw16.PoolMap': WHATEVER THE INPUT: true; the input reads as it did. -/
def poolMapSpec : ChangeSpec := { name := "poolMap", fn := fun _ => fun
  | [d1, d2, d3] => { results := [.lit (.bool true)], args := [d1, d2, d3] }
  | _ => none }
def poolMapRow : OpenClaim := { program := "ytfpmffadpjoogaagreat", sum := "94a29b4714669b2cf4a70c1d3ca34e88c7b40b13418f23e7eb5315e82ea69b08", func := "lockkeeper/lockkeeperlaw16.PoolMap", spec := "poolMap", inPlace := ["internal/abi.NoEscape", "internal/bytealg.MakeNoZero"], unfollowed := true, recurses := true, apart := false }
def PoolMapSaid : Prop := poolMapRow.holds Tryz.pinned (OpenSpec.ofChange poolMapSpec)

/-- ITS FALSE NEIGHBOUR: 'it returns false'. Refute it at one input. -/
def poolMapWrong : ChangeSpec := { name := "poolMap", fn := fun _ => fun
  | [d1, d2, d3] => { results := [.lit (.bool false)], args := [d1, d2, d3] }
  | _ => none }
def PoolMapWrongFalsely : Prop := poolMapRow.holds Tryz.pinned (OpenSpec.ofChange poolMapWrong)

/-- 'lockkeeperlaw16.PoolDisk': WHATEVER THE INPUT: true; the input reads as it did. -/
def poolDiskSpec : ChangeSpec := { name := "poolDisk", fn := fun _ => fun
  | [d1, d2, d3] => { results := [.lit (.bool true)], args := [d1, d2, d3] }
  | _ => none }
def poolDiskRow : OpenClaim := { program := "ytfpmffadpjoogaagreat", sum := "94a29b4714669b2cf4a70c1d3ca34e88c7b40b13418f23e7eb5315e82ea69b08", func := "lockkeeper/lockkeeperlaw16.PoolDisk", spec := "poolDisk", inPlace := ["internal/abi.NoEscape", "internal/bytealg.MakeNoZero"], unfollowed := true, recurses := true, apart := false }
def PoolDiskSaid : Prop := poolDiskRow.holds Tryz.pinned (OpenSpec.ofChange poolDiskSpec)

/-- ITS FALSE NEIGHBOUR: 'it returns false'. Refute it at one input. -/
def poolDiskWrong : ChangeSpec := { name := "poolDisk", fn := fun _ => fun
  | [d1, d2, d3] => { results := [.lit (.bool false)], args := [d1, d2, d3] }
  | _ => none }
def PoolDiskWrongFalsely : Prop := poolDiskRow.holds Tryz.pinned (OpenSpec.ofChange poolDiskWrong)

/-- 'lockkeeperlaw16.PoolFlush': WHATEVER THE INPUT: true; the input reads as it did. -/
def poolFlushSpec : ChangeSpec := { name := "poolFlush", fn := fun _ => fun
  | [d1, d2, d3, d4] => { results := [.lit (.bool true)], args := [d1, d2, d3, d4] }
  | _ => none }
def poolFlushRow : OpenClaim := { program := "ytfpmffadpjoogaagreat", sum := "94a29b4714669b2cf4a70c1d3ca34e88c7b40b13418f23e7eb5315e82ea69b08", func := "lockkeeper/lockkeeperlaw16.PoolFlush", spec := "poolFlush", inPlace := ["internal/abi.NoEscape", "internal/bytealg.MakeNoZero"], unfollowed := true, recurses := true, apart := false }
def PoolFlushSaid : Prop := poolFlushRow.holds Tryz.pinned (OpenSpec.ofChange poolFlushSpec)

/-- ITS FALSE NEIGHBOUR: 'it returns false'. Refute it at one input. -/
def poolFlushWrong : ChangeSpec := { name := "poolFlush", fn := fun _ => fun
  | [d1, d2, d3, d4] => { results := [.lit (.bool false)], args := [d1, d2, d3, d4] }
  | _ => none }
def PoolFlushWrongFalsely : Prop := poolFlushRow.holds Tryz.pinned (OpenSpec.ofChange poolFlushWrong)

/-- 'lockkeeperlaw17.CrashArms': WHATEVER THE INPUT: true; the input reads as it did. -/
def crashArmsSpec : ChangeSpec := { name := "crashArms", fn := fun _ => fun
  | [d1, d2, d3] => { results := [.lit (.bool true)], args := [d1, d2, d3] }
  | _ => none }
def crashArmsRow : OpenClaim := { program := "ytfpmffadpjoogaagreat", sum := "94a29b4714669b2cf4a70c1d3ca34e88c7b40b13418f23e7eb5315e82ea69b08", func := "lockkeeper/lockkeeperlaw17.CrashArms", spec := "crashArms", inPlace := ["internal/abi.NoEscape", "internal/bytealg.MakeNoZero"], unfollowed := true, recurses := true, apart := false }
def CrashArmsSaid : Prop := crashArmsRow.holds Tryz.pinned (OpenSpec.ofChange crashArmsSpec)

/-- ITS FALSE NEIGHBOUR: 'it returns false'. Refute it at one input. -/
def crashArmsWrong : ChangeSpec := { name := "crashArms", fn := fun _ => fun
  | [d1, d2, d3] => { results := [.lit (.bool false)], args := [d1, d2, d3] }
  | _ => none }
def CrashArmsWrongFalsely : Prop := crashArmsRow.holds Tryz.pinned (OpenSpec.ofChange crashArmsWrong)

/-- 'lockkeeperlaw17.CrashLoses': WHATEVER THE INPUT: true; the input reads as it did. -/
def crashLosesSpec : ChangeSpec := { name := "crashLoses", fn := fun _ => fun
  | [d1, d2, d3] => { results := [.lit (.bool true)], args := [d1, d2, d3] }
  | _ => none }
def crashLosesRow : OpenClaim := { program := "ytfpmffadpjoogaagreat", sum := "94a29b4714669b2cf4a70c1d3ca34e88c7b40b13418f23e7eb5315e82ea69b08", func := "lockkeeper/lockkeeperlaw17.CrashLoses", spec := "crashLoses", inPlace := ["internal/abi.NoEscape", "internal/bytealg.MakeNoZero"], unfollowed := true, recurses := true, apart := false }
def CrashLosesSaid : Prop := crashLosesRow.holds Tryz.pinned (OpenSpec.ofChange crashLosesSpec)

/-- ITS FALSE NEIGHBOUR: 'it returns false'. Refute it at one input. -/
def crashLosesWrong : ChangeSpec := { name := "crashLoses", fn := fun _ => fun
  | [d1, d2, d3] => { results := [.lit (.bool false)], args := [d1, d2, d3] }
  | _ => none }
def CrashLosesWrongFalsely : Prop := crashLosesRow.holds Tryz.pinned (OpenSpec.ofChange crashLosesWrong)

/-- 'lockkeeperlaw17.CrashCalm': WHATEVER THE INPUT: true; the input reads as it did. -/
def crashCalmSpec : ChangeSpec := { name := "crashCalm", fn := fun _ => fun
  | [d1, d2, d3, d4, d5] => { results := [.lit (.bool true)], args := [d1, d2, d3, d4, d5] }
  | _ => none }
def crashCalmRow : OpenClaim := { program := "ytfpmffadpjoogaagreat", sum := "94a29b4714669b2cf4a70c1d3ca34e88c7b40b13418f23e7eb5315e82ea69b08", func := "lockkeeper/lockkeeperlaw17.CrashCalm", spec := "crashCalm", inPlace := ["internal/abi.NoEscape", "internal/bytealg.MakeNoZero"], unfollowed := true, recurses := true, apart := false }
def CrashCalmSaid : Prop := crashCalmRow.holds Tryz.pinned (OpenSpec.ofChange crashCalmSpec)

/-- ITS FALSE NEIGHBOUR: 'it returns false'. Refute it at one input. -/
def crashCalmWrong : ChangeSpec := { name := "crashCalm", fn := fun _ => fun
  | [d1, d2, d3, d4, d5] => { results := [.lit (.bool false)], args := [d1, d2, d3, d4, d5] }
  | _ => none }
def CrashCalmWrongFalsely : Prop := crashCalmRow.holds Tryz.pinned (OpenSpec.ofChange crashCalmWrong)

/-- 'lockkeeperlaw17.CrashSame': WHATEVER THE INPUT: true; the input reads as it did. -/
def crashSameSpec : ChangeSpec := { name := "crashSame", fn := fun _ => fun
  | [d1, d2] => { results := [.lit (.bool true)], args := [d1, d2] }
  | _ => none }
def crashSameRow : OpenClaim := { program := "ytfpmffadpjoogaagreat", sum := "94a29b4714669b2cf4a70c1d3ca34e88c7b40b13418f23e7eb5315e82ea69b08", func := "lockkeeper/lockkeeperlaw17.CrashSame", spec := "crashSame", inPlace := ["internal/abi.NoEscape", "internal/bytealg.MakeNoZero"], unfollowed := true, recurses := true, apart := false }
def CrashSameSaid : Prop := crashSameRow.holds Tryz.pinned (OpenSpec.ofChange crashSameSpec)

/-- ITS FALSE NEIGHBOUR: 'it returns false'. Refute it at one input. -/
def crashSameWrong : ChangeSpec := { name := "crashSame", fn := fun _ => fun
  | [d1, d2] => { results := [.lit (.bool false)], args := [d1, d2] }
  | _ => none }
def CrashSameWrongFalsely : Prop := crashSameRow.holds Tryz.pinned (OpenSpec.ofChange crashSameWrong)

/- THE SECOND FORM. 'bulk': how many values and letters a reading holds, each counted each time it is reached (what is shared counts as often as it is met; a slice's spare places count too). A statement '..UptoSaid' is the law's where the arguments, and the package variables that the reading takes, are together of bulk at most 1048576: NARROWER than '..Said'. Prove '..Said' where nothing that the law and all that it calls make is longer than what came in: it says more and counts as full. Else prove '..UptoSaid'. A law counts once. -/
mutual
def uptoBulk {H : Type} : DataW H → Nat
  | .lit (.string bytes) => bytes.length + 1
  | .lit _ => 1
  | .nil => 1
  | .ptr d => uptoBulk d + 1
  | .slice elems spare => uptoBulkAll elems + uptoBulkAll spare + 1
  | .agg parts => uptoBulkAll parts + 1
  | .iface _ d => uptoBulk d + 1
  | .map entries => uptoBulkEntries entries + 1
  | .held _ => 1
def uptoBulkAll {H : Type} : List (DataW H) → Nat
  | [] => 0
  | d :: r => uptoBulk d + uptoBulkAll r
def uptoBulkEntries {H : Type} : List (Lit × DataW H) → Nat
  | [] => 0
  | x :: r => uptoBulkEntry x + uptoBulkEntries r
def uptoBulkEntry {H : Type} : Lit × DataW H → Nat
  | (.string bytes, d) => bytes.length + uptoBulk d + 1
  | (_, d) => uptoBulk d + 1
 end
def uptoSmall : (H : Type) → List (DataW H) → Bool := fun _ ds => decide (uptoBulkAll ds ≤ 1048576)
def OpenSpec.upto (s : _root_.Go.ChangeSpec) : _root_.Go.OpenSpec := { _root_.Go.OpenSpec.ofChange s with cond := some uptoSmall }

/-- 'lockkeeperlaw16.PoolAgain', WHERE WHAT IT READS IS OF BULK AT MOST 1048576: true; the input reads as it did. -/
def poolAgainUptoRow : OpenClaim := { program := "ytfpmffadpjoogaagreat", sum := "94a29b4714669b2cf4a70c1d3ca34e88c7b40b13418f23e7eb5315e82ea69b08", func := "lockkeeper/lockkeeperlaw16.PoolAgain", spec := "poolAgain", inPlace := ["internal/abi.NoEscape", "internal/bytealg.MakeNoZero"], unfollowed := true, recurses := true, apart := false, narrowed := true }
def PoolAgainUptoSaid : Prop := poolAgainUptoRow.holds Tryz.pinned (OpenSpec.upto poolAgainSpec)

/-- 'lockkeeperlaw16.PoolOpens', WHERE WHAT IT READS IS OF BULK AT MOST 1048576: true; the input reads as it did. -/
def poolOpensUptoRow : OpenClaim := { program := "ytfpmffadpjoogaagreat", sum := "94a29b4714669b2cf4a70c1d3ca34e88c7b40b13418f23e7eb5315e82ea69b08", func := "lockkeeper/lockkeeperlaw16.PoolOpens", spec := "poolOpens", inPlace := ["internal/abi.NoEscape", "internal/bytealg.MakeNoZero"], unfollowed := true, recurses := true, apart := false, narrowed := true }
def PoolOpensUptoSaid : Prop := poolOpensUptoRow.holds Tryz.pinned (OpenSpec.upto poolOpensSpec)

/-- 'lockkeeperlaw16.PoolBusy', WHERE WHAT IT READS IS OF BULK AT MOST 1048576: true; the input reads as it did. -/
def poolBusyUptoRow : OpenClaim := { program := "ytfpmffadpjoogaagreat", sum := "94a29b4714669b2cf4a70c1d3ca34e88c7b40b13418f23e7eb5315e82ea69b08", func := "lockkeeper/lockkeeperlaw16.PoolBusy", spec := "poolBusy", inPlace := ["internal/abi.NoEscape", "internal/bytealg.MakeNoZero"], unfollowed := true, recurses := true, apart := false, narrowed := true }
def PoolBusyUptoSaid : Prop := poolBusyUptoRow.holds Tryz.pinned (OpenSpec.upto poolBusySpec)

/-- 'lockkeeperlaw16.PoolPins', WHERE WHAT IT READS IS OF BULK AT MOST 1048576: true; the input reads as it did. -/
def poolPinsUptoRow : OpenClaim := { program := "ytfpmffadpjoogaagreat", sum := "94a29b4714669b2cf4a70c1d3ca34e88c7b40b13418f23e7eb5315e82ea69b08", func := "lockkeeper/lockkeeperlaw16.PoolPins", spec := "poolPins", inPlace := ["internal/abi.NoEscape", "internal/bytealg.MakeNoZero"], unfollowed := true, recurses := true, apart := false, narrowed := true }
def PoolPinsUptoSaid : Prop := poolPinsUptoRow.holds Tryz.pinned (OpenSpec.upto poolPinsSpec)

/-- 'lockkeeperlaw16.PoolSame', WHERE WHAT IT READS IS OF BULK AT MOST 1048576: true; the input reads as it did. -/
def poolSameUptoRow : OpenClaim := { program := "ytfpmffadpjoogaagreat", sum := "94a29b4714669b2cf4a70c1d3ca34e88c7b40b13418f23e7eb5315e82ea69b08", func := "lockkeeper/lockkeeperlaw16.PoolSame", spec := "poolSame", inPlace := ["internal/abi.NoEscape", "internal/bytealg.MakeNoZero"], unfollowed := true, recurses := true, apart := false, narrowed := true }
def PoolSameUptoSaid : Prop := poolSameUptoRow.holds Tryz.pinned (OpenSpec.upto poolSameSpec)

/-- 'lockkeeperlaw16.PoolMap', WHERE WHAT IT READS IS OF BULK AT MOST 1048576: true; the input reads as it did. -/
def poolMapUptoRow : OpenClaim := { program := "ytfpmffadpjoogaagreat", sum := "94a29b4714669b2cf4a70c1d3ca34e88c7b40b13418f23e7eb5315e82ea69b08", func := "lockkeeper/lockkeeperlaw16.PoolMap", spec := "poolMap", inPlace := ["internal/abi.NoEscape", "internal/bytealg.MakeNoZero"], unfollowed := true, recurses := true, apart := false, narrowed := true }
def PoolMapUptoSaid : Prop := poolMapUptoRow.holds Tryz.pinned (OpenSpec.upto poolMapSpec)

/-- 'lockkeeperlaw16.PoolDisk', WHERE WHAT IT READS IS OF BULK AT MOST 1048576: true; the input reads as it did. -/
def poolDiskUptoRow : OpenClaim := { program := "ytfpmffadpjoogaagreat", sum := "94a29b4714669b2cf4a70c1d3ca34e88c7b40b13418f23e7eb5315e82ea69b08", func := "lockkeeper/lockkeeperlaw16.PoolDisk", spec := "poolDisk", inPlace := ["internal/abi.NoEscape", "internal/bytealg.MakeNoZero"], unfollowed := true, recurses := true, apart := false, narrowed := true }
def PoolDiskUptoSaid : Prop := poolDiskUptoRow.holds Tryz.pinned (OpenSpec.upto poolDiskSpec)

/-- 'lockkeeperlaw16.PoolFlush', WHERE WHAT IT READS IS OF BULK AT MOST 1048576: true; the input reads as it did. -/
def poolFlushUptoRow : OpenClaim := { program := "ytfpmffadpjoogaagreat", sum := "94a29b4714669b2cf4a70c1d3ca34e88c7b40b13418f23e7eb5315e82ea69b08", func := "lockkeeper/lockkeeperlaw16.PoolFlush", spec := "poolFlush", inPlace := ["internal/abi.NoEscape", "internal/bytealg.MakeNoZero"], unfollowed := true, recurses := true, apart := false, narrowed := true }
def PoolFlushUptoSaid : Prop := poolFlushUptoRow.holds Tryz.pinned (OpenSpec.upto poolFlushSpec)

/-- 'lockkeeperlaw17.CrashArms', WHERE WHAT IT READS IS OF BULK AT MOST 1048576: true; the input reads as it did. -/
def crashArmsUptoRow : OpenClaim := { program := "ytfpmffadpjoogaagreat", sum := "94a29b4714669b2cf4a70c1d3ca34e88c7b40b13418f23e7eb5315e82ea69b08", func := "lockkeeper/lockkeeperlaw17.CrashArms", spec := "crashArms", inPlace := ["internal/abi.NoEscape", "internal/bytealg.MakeNoZero"], unfollowed := true, recurses := true, apart := false, narrowed := true }
def CrashArmsUptoSaid : Prop := crashArmsUptoRow.holds Tryz.pinned (OpenSpec.upto crashArmsSpec)

/-- 'lockkeeperlaw17.CrashLoses', WHERE WHAT IT READS IS OF BULK AT MOST 1048576: true; the input reads as it did. -/
def crashLosesUptoRow : OpenClaim := { program := "ytfpmffadpjoogaagreat", sum := "94a29b4714669b2cf4a70c1d3ca34e88c7b40b13418f23e7eb5315e82ea69b08", func := "lockkeeper/lockkeeperlaw17.CrashLoses", spec := "crashLoses", inPlace := ["internal/abi.NoEscape", "internal/bytealg.MakeNoZero"], unfollowed := true, recurses := true, apart := false, narrowed := true }
def CrashLosesUptoSaid : Prop := crashLosesUptoRow.holds Tryz.pinned (OpenSpec.upto crashLosesSpec)

/-- 'lockkeeperlaw17.CrashCalm', WHERE WHAT IT READS IS OF BULK AT MOST 1048576: true; the input reads as it did. -/
def crashCalmUptoRow : OpenClaim := { program := "ytfpmffadpjoogaagreat", sum := "94a29b4714669b2cf4a70c1d3ca34e88c7b40b13418f23e7eb5315e82ea69b08", func := "lockkeeper/lockkeeperlaw17.CrashCalm", spec := "crashCalm", inPlace := ["internal/abi.NoEscape", "internal/bytealg.MakeNoZero"], unfollowed := true, recurses := true, apart := false, narrowed := true }
def CrashCalmUptoSaid : Prop := crashCalmUptoRow.holds Tryz.pinned (OpenSpec.upto crashCalmSpec)

/-- 'lockkeeperlaw17.CrashSame', WHERE WHAT IT READS IS OF BULK AT MOST 1048576: true; the input reads as it did. -/
def crashSameUptoRow : OpenClaim := { program := "ytfpmffadpjoogaagreat", sum := "94a29b4714669b2cf4a70c1d3ca34e88c7b40b13418f23e7eb5315e82ea69b08", func := "lockkeeper/lockkeeperlaw17.CrashSame", spec := "crashSame", inPlace := ["internal/abi.NoEscape", "internal/bytealg.MakeNoZero"], unfollowed := true, recurses := true, apart := false, narrowed := true }
def CrashSameUptoSaid : Prop := crashSameUptoRow.holds Tryz.pinned (OpenSpec.upto crashSameSpec)

end Rows
end Go.Proofs.YtfpmffadpjoogaaGreat
