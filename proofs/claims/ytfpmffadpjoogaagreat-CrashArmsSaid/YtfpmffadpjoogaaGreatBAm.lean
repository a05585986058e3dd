/-
  What is proved here: what functions of the program compute, and what follows; no condition beyond each theorem's own.
-/
import Derived.Test.YtfpmffadpjoogaaGreatBAl
set_option linter.unusedSimpArgs false
set_option linter.unusedVariables false
set_option linter.unnecessarySimpa false
set_option linter.unusedSectionVars false
namespace Go.Lk
open Go Go.Proofs Go.RowKit

/-! ### a trial, its map, its past -/
def wD (t : TS) (P : Nat → Pg) (W : Nat → Int) (n : Nat) (L : Nat → List Pg) : List D := t.cells ++ (mL P W n ++ qL L)
noncomputable def start (n : Nat) (pages : List Pg) : PS := ⟨newFS n, ⟨(newG pages).1, []⟩, 0⟩
set_option maxRecDepth 100000 in
set_option maxHeartbeats 8000000 in
theorem beginW_ok (many : Int) (m0 : 0 ≤ many) (m1 : many ≤ 255) (pages : List Pg) (n : Nat) (hn : 1 + many % 8 = (n : Int)) : ACall Tryz.prog 34 [.int .u8 many, .lst (pages.map encP)]
    (.tup [.agg (wD (tsOf (start n pages)) (newG pages).2 (fun _ => 0) n (begL (newG pages).2)), .bool true]) := by
  have hI := NI.ofG pages
  have hop : openM ⟨(newG pages).1, []⟩ n = (start n pages, 0) := by
    have := open_rest hI.rest hI.z (n := n) (by omega) (by omega)
    rw [Int.toNat_natCast] at this; exact this
  have cN := newT_ok ⟨(newG pages).1, []⟩ n
  rw [newT_of hop] at cN
  refine acall_of Tryz.func34 2 rfl (by kernel_rfl) ?_
  conv => whnf
  repeat ((first | refine bF ?_ | refine bT ?_ | refine dK (by kernel_rfl) ?_ | refine cK rfl ?_ | refine cK (by first | decide | omega) ?_ | refine wK (by omega) (by omega) ?_); conv => whnf)
  refine callX_pure (new17_ok many m0 m1 pages n hn) ?_
  conv => whnf
  repeat ((first | refine bF ?_ | refine bT ?_ | refine dK (by kernel_rfl) ?_ | refine cK rfl ?_ | refine cK (by first | decide | omega) ?_ | refine wK (by omega) (by omega) ?_); conv => whnf)
  refine callX_pure cN ?_
  conv => whnf
  repeat ((first | refine bF ?_ | refine bT ?_ | refine dK (by kernel_rfl) ?_ | refine cK rfl ?_ | refine cK (by first | decide | omega) ?_ | refine wK (by omega) (by omega) ?_); conv => whnf)
  refine callX_pure (begin17_ok (newG pages).2) ?_
  conv => whnf
  repeat ((first | refine bF ?_ | refine bT ?_ | refine dK (by kernel_rfl) ?_ | refine cK rfl ?_ | refine cK (by first | decide | omega) ?_ | refine wK (by omega) (by omega) ?_); conv => whnf)
  exact ret_of rfl rfl
end Go.Lk

