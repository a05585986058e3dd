/-
  What is proved here: what functions of the program compute, and what follows; no condition beyond each theorem's own.
-/
import Derived.Test.YtfpmffadpjoogaaGreatBAj
set_option linter.unusedSimpArgs false
set_option linter.unusedVariables false
set_option linter.unnecessarySimpa false
set_option linter.unusedSectionVars false
namespace Go.Lk
open Go Go.Proofs Go.RowKit

set_option maxHeartbeats 8000000 in
theorem became_ok (L : Nat → List Pg) (q : Nat) (x : Pg) (q1 : 1 ≤ q) (q16 : q ≤ 16) (hl : (L q).length ≤ 1000) : ACall Tryz.prog 67 [.agg (qL L), .int .i64 q, .agg (encP x)] (.agg (qL (ud L q (L q ++ [x])))) := by
  have hks : q = 1 ∨ q = 2 ∨ q = 3 ∨ q = 4 ∨ q = 5 ∨ q = 6 ∨ q = 7 ∨ q = 8 ∨ q = 9 ∨ q = 10 ∨ q = 11 ∨ q = 12 ∨ q = 13 ∨ q = 14 ∨ q = 15 ∨ q = 16 := by omega
  rcases hks with rfl | rfl | rfl | rfl | rfl | rfl | rfl | rfl | rfl | rfl | rfl | rfl | rfl | rfl | rfl | rfl
  · refine acall_of Tryz.func67 3 rfl (by kernel_rfl) ?_
    conv => whnf
    repeat ((first | refine bF ?_ | refine bT ?_ | refine dK ?_ | refine cR ?_ | refine cK ?_ | refine wK ?_); conv => whnf)
    refine idxK_nat (i := 1) (by decide) ?_
    conv => whnf
    repeat ((first | refine bF ?_ | refine bT ?_ | refine dK ?_ | refine cR ?_ | refine cK ?_ | refine wK ?_); conv => whnf)
    refine condK_of (okRows_map (fun _ => rfl) _) ?_
    conv => whnf
    repeat ((first | refine bF ?_ | refine bT ?_ | refine dK ?_ | refine cR ?_ | refine cK ?_ | refine wK ?_); conv => whnf)
    refine roomK_le 1000 1000 (by rw [List.length_map]; exact hl) (by decide) (by decide) (by decide) ?_
    conv => whnf
    repeat ((first | refine bF ?_ | refine bT ?_ | refine dK ?_ | refine cR ?_ | refine cK ?_ | refine wK ?_); conv => whnf)
    refine roomK_le 1001 1000 (by show (List.map encP (L 1)).length + 1 ≤ 1001; rw [List.length_map]; omega) (by decide) (by decide) (by decide) ?_
    conv => whnf
    repeat ((first | refine bF ?_ | refine bT ?_ | refine dK ?_ | refine cR ?_ | refine cK ?_ | refine wK ?_); conv => whnf)
    refine idxK_nat (i := 1) (by decide) ?_
    conv => whnf
    repeat ((first | refine bF ?_ | refine bT ?_ | refine dK ?_ | refine cR ?_ | refine cK ?_ | refine wK ?_); conv => whnf)
    rw [← qL_set (q := 1) (by decide), List.map_append]
    exact ret_of rfl rfl
  · refine acall_of Tryz.func67 3 rfl (by kernel_rfl) ?_
    conv => whnf
    repeat ((first | refine bF ?_ | refine bT ?_ | refine dK ?_ | refine cR ?_ | refine cK ?_ | refine wK ?_); conv => whnf)
    refine idxK_nat (i := 2) (by decide) ?_
    conv => whnf
    repeat ((first | refine bF ?_ | refine bT ?_ | refine dK ?_ | refine cR ?_ | refine cK ?_ | refine wK ?_); conv => whnf)
    refine condK_of (okRows_map (fun _ => rfl) _) ?_
    conv => whnf
    repeat ((first | refine bF ?_ | refine bT ?_ | refine dK ?_ | refine cR ?_ | refine cK ?_ | refine wK ?_); conv => whnf)
    refine roomK_le 1000 1000 (by rw [List.length_map]; exact hl) (by decide) (by decide) (by decide) ?_
    conv => whnf
    repeat ((first | refine bF ?_ | refine bT ?_ | refine dK ?_ | refine cR ?_ | refine cK ?_ | refine wK ?_); conv => whnf)
    refine roomK_le 1001 1000 (by show (List.map encP (L 2)).length + 1 ≤ 1001; rw [List.length_map]; omega) (by decide) (by decide) (by decide) ?_
    conv => whnf
    repeat ((first | refine bF ?_ | refine bT ?_ | refine dK ?_ | refine cR ?_ | refine cK ?_ | refine wK ?_); conv => whnf)
    refine idxK_nat (i := 2) (by decide) ?_
    conv => whnf
    repeat ((first | refine bF ?_ | refine bT ?_ | refine dK ?_ | refine cR ?_ | refine cK ?_ | refine wK ?_); conv => whnf)
    rw [← qL_set (q := 2) (by decide), List.map_append]
    exact ret_of rfl rfl
  · refine acall_of Tryz.func67 3 rfl (by kernel_rfl) ?_
    conv => whnf
    repeat ((first | refine bF ?_ | refine bT ?_ | refine dK ?_ | refine cR ?_ | refine cK ?_ | refine wK ?_); conv => whnf)
    refine idxK_nat (i := 3) (by decide) ?_
    conv => whnf
    repeat ((first | refine bF ?_ | refine bT ?_ | refine dK ?_ | refine cR ?_ | refine cK ?_ | refine wK ?_); conv => whnf)
    refine condK_of (okRows_map (fun _ => rfl) _) ?_
    conv => whnf
    repeat ((first | refine bF ?_ | refine bT ?_ | refine dK ?_ | refine cR ?_ | refine cK ?_ | refine wK ?_); conv => whnf)
    refine roomK_le 1000 1000 (by rw [List.length_map]; exact hl) (by decide) (by decide) (by decide) ?_
    conv => whnf
    repeat ((first | refine bF ?_ | refine bT ?_ | refine dK ?_ | refine cR ?_ | refine cK ?_ | refine wK ?_); conv => whnf)
    refine roomK_le 1001 1000 (by show (List.map encP (L 3)).length + 1 ≤ 1001; rw [List.length_map]; omega) (by decide) (by decide) (by decide) ?_
    conv => whnf
    repeat ((first | refine bF ?_ | refine bT ?_ | refine dK ?_ | refine cR ?_ | refine cK ?_ | refine wK ?_); conv => whnf)
    refine idxK_nat (i := 3) (by decide) ?_
    conv => whnf
    repeat ((first | refine bF ?_ | refine bT ?_ | refine dK ?_ | refine cR ?_ | refine cK ?_ | refine wK ?_); conv => whnf)
    rw [← qL_set (q := 3) (by decide), List.map_append]
    exact ret_of rfl rfl
  · refine acall_of Tryz.func67 3 rfl (by kernel_rfl) ?_
    conv => whnf
    repeat ((first | refine bF ?_ | refine bT ?_ | refine dK ?_ | refine cR ?_ | refine cK ?_ | refine wK ?_); conv => whnf)
    refine idxK_nat (i := 4) (by decide) ?_
    conv => whnf
    repeat ((first | refine bF ?_ | refine bT ?_ | refine dK ?_ | refine cR ?_ | refine cK ?_ | refine wK ?_); conv => whnf)
    refine condK_of (okRows_map (fun _ => rfl) _) ?_
    conv => whnf
    repeat ((first | refine bF ?_ | refine bT ?_ | refine dK ?_ | refine cR ?_ | refine cK ?_ | refine wK ?_); conv => whnf)
    refine roomK_le 1000 1000 (by rw [List.length_map]; exact hl) (by decide) (by decide) (by decide) ?_
    conv => whnf
    repeat ((first | refine bF ?_ | refine bT ?_ | refine dK ?_ | refine cR ?_ | refine cK ?_ | refine wK ?_); conv => whnf)
    refine roomK_le 1001 1000 (by show (List.map encP (L 4)).length + 1 ≤ 1001; rw [List.length_map]; omega) (by decide) (by decide) (by decide) ?_
    conv => whnf
    repeat ((first | refine bF ?_ | refine bT ?_ | refine dK ?_ | refine cR ?_ | refine cK ?_ | refine wK ?_); conv => whnf)
    refine idxK_nat (i := 4) (by decide) ?_
    conv => whnf
    repeat ((first | refine bF ?_ | refine bT ?_ | refine dK ?_ | refine cR ?_ | refine cK ?_ | refine wK ?_); conv => whnf)
    rw [← qL_set (q := 4) (by decide), List.map_append]
    exact ret_of rfl rfl
  · refine acall_of Tryz.func67 3 rfl (by kernel_rfl) ?_
    conv => whnf
    repeat ((first | refine bF ?_ | refine bT ?_ | refine dK ?_ | refine cR ?_ | refine cK ?_ | refine wK ?_); conv => whnf)
    refine idxK_nat (i := 5) (by decide) ?_
    conv => whnf
    repeat ((first | refine bF ?_ | refine bT ?_ | refine dK ?_ | refine cR ?_ | refine cK ?_ | refine wK ?_); conv => whnf)
    refine condK_of (okRows_map (fun _ => rfl) _) ?_
    conv => whnf
    repeat ((first | refine bF ?_ | refine bT ?_ | refine dK ?_ | refine cR ?_ | refine cK ?_ | refine wK ?_); conv => whnf)
    refine roomK_le 1000 1000 (by rw [List.length_map]; exact hl) (by decide) (by decide) (by decide) ?_
    conv => whnf
    repeat ((first | refine bF ?_ | refine bT ?_ | refine dK ?_ | refine cR ?_ | refine cK ?_ | refine wK ?_); conv => whnf)
    refine roomK_le 1001 1000 (by show (List.map encP (L 5)).length + 1 ≤ 1001; rw [List.length_map]; omega) (by decide) (by decide) (by decide) ?_
    conv => whnf
    repeat ((first | refine bF ?_ | refine bT ?_ | refine dK ?_ | refine cR ?_ | refine cK ?_ | refine wK ?_); conv => whnf)
    refine idxK_nat (i := 5) (by decide) ?_
    conv => whnf
    repeat ((first | refine bF ?_ | refine bT ?_ | refine dK ?_ | refine cR ?_ | refine cK ?_ | refine wK ?_); conv => whnf)
    rw [← qL_set (q := 5) (by decide), List.map_append]
    exact ret_of rfl rfl
  · refine acall_of Tryz.func67 3 rfl (by kernel_rfl) ?_
    conv => whnf
    repeat ((first | refine bF ?_ | refine bT ?_ | refine dK ?_ | refine cR ?_ | refine cK ?_ | refine wK ?_); conv => whnf)
    refine idxK_nat (i := 6) (by decide) ?_
    conv => whnf
    repeat ((first | refine bF ?_ | refine bT ?_ | refine dK ?_ | refine cR ?_ | refine cK ?_ | refine wK ?_); conv => whnf)
    refine condK_of (okRows_map (fun _ => rfl) _) ?_
    conv => whnf
    repeat ((first | refine bF ?_ | refine bT ?_ | refine dK ?_ | refine cR ?_ | refine cK ?_ | refine wK ?_); conv => whnf)
    refine roomK_le 1000 1000 (by rw [List.length_map]; exact hl) (by decide) (by decide) (by decide) ?_
    conv => whnf
    repeat ((first | refine bF ?_ | refine bT ?_ | refine dK ?_ | refine cR ?_ | refine cK ?_ | refine wK ?_); conv => whnf)
    refine roomK_le 1001 1000 (by show (List.map encP (L 6)).length + 1 ≤ 1001; rw [List.length_map]; omega) (by decide) (by decide) (by decide) ?_
    conv => whnf
    repeat ((first | refine bF ?_ | refine bT ?_ | refine dK ?_ | refine cR ?_ | refine cK ?_ | refine wK ?_); conv => whnf)
    refine idxK_nat (i := 6) (by decide) ?_
    conv => whnf
    repeat ((first | refine bF ?_ | refine bT ?_ | refine dK ?_ | refine cR ?_ | refine cK ?_ | refine wK ?_); conv => whnf)
    rw [← qL_set (q := 6) (by decide), List.map_append]
    exact ret_of rfl rfl
  · refine acall_of Tryz.func67 3 rfl (by kernel_rfl) ?_
    conv => whnf
    repeat ((first | refine bF ?_ | refine bT ?_ | refine dK ?_ | refine cR ?_ | refine cK ?_ | refine wK ?_); conv => whnf)
    refine idxK_nat (i := 7) (by decide) ?_
    conv => whnf
    repeat ((first | refine bF ?_ | refine bT ?_ | refine dK ?_ | refine cR ?_ | refine cK ?_ | refine wK ?_); conv => whnf)
    refine condK_of (okRows_map (fun _ => rfl) _) ?_
    conv => whnf
    repeat ((first | refine bF ?_ | refine bT ?_ | refine dK ?_ | refine cR ?_ | refine cK ?_ | refine wK ?_); conv => whnf)
    refine roomK_le 1000 1000 (by rw [List.length_map]; exact hl) (by decide) (by decide) (by decide) ?_
    conv => whnf
    repeat ((first | refine bF ?_ | refine bT ?_ | refine dK ?_ | refine cR ?_ | refine cK ?_ | refine wK ?_); conv => whnf)
    refine roomK_le 1001 1000 (by show (List.map encP (L 7)).length + 1 ≤ 1001; rw [List.length_map]; omega) (by decide) (by decide) (by decide) ?_
    conv => whnf
    repeat ((first | refine bF ?_ | refine bT ?_ | refine dK ?_ | refine cR ?_ | refine cK ?_ | refine wK ?_); conv => whnf)
    refine idxK_nat (i := 7) (by decide) ?_
    conv => whnf
    repeat ((first | refine bF ?_ | refine bT ?_ | refine dK ?_ | refine cR ?_ | refine cK ?_ | refine wK ?_); conv => whnf)
    rw [← qL_set (q := 7) (by decide), List.map_append]
    exact ret_of rfl rfl
  · refine acall_of Tryz.func67 3 rfl (by kernel_rfl) ?_
    conv => whnf
    repeat ((first | refine bF ?_ | refine bT ?_ | refine dK ?_ | refine cR ?_ | refine cK ?_ | refine wK ?_); conv => whnf)
    refine idxK_nat (i := 8) (by decide) ?_
    conv => whnf
    repeat ((first | refine bF ?_ | refine bT ?_ | refine dK ?_ | refine cR ?_ | refine cK ?_ | refine wK ?_); conv => whnf)
    refine condK_of (okRows_map (fun _ => rfl) _) ?_
    conv => whnf
    repeat ((first | refine bF ?_ | refine bT ?_ | refine dK ?_ | refine cR ?_ | refine cK ?_ | refine wK ?_); conv => whnf)
    refine roomK_le 1000 1000 (by rw [List.length_map]; exact hl) (by decide) (by decide) (by decide) ?_
    conv => whnf
    repeat ((first | refine bF ?_ | refine bT ?_ | refine dK ?_ | refine cR ?_ | refine cK ?_ | refine wK ?_); conv => whnf)
    refine roomK_le 1001 1000 (by show (List.map encP (L 8)).length + 1 ≤ 1001; rw [List.length_map]; omega) (by decide) (by decide) (by decide) ?_
    conv => whnf
    repeat ((first | refine bF ?_ | refine bT ?_ | refine dK ?_ | refine cR ?_ | refine cK ?_ | refine wK ?_); conv => whnf)
    refine idxK_nat (i := 8) (by decide) ?_
    conv => whnf
    repeat ((first | refine bF ?_ | refine bT ?_ | refine dK ?_ | refine cR ?_ | refine cK ?_ | refine wK ?_); conv => whnf)
    rw [← qL_set (q := 8) (by decide), List.map_append]
    exact ret_of rfl rfl
  · refine acall_of Tryz.func67 3 rfl (by kernel_rfl) ?_
    conv => whnf
    repeat ((first | refine bF ?_ | refine bT ?_ | refine dK ?_ | refine cR ?_ | refine cK ?_ | refine wK ?_); conv => whnf)
    refine idxK_nat (i := 9) (by decide) ?_
    conv => whnf
    repeat ((first | refine bF ?_ | refine bT ?_ | refine dK ?_ | refine cR ?_ | refine cK ?_ | refine wK ?_); conv => whnf)
    refine condK_of (okRows_map (fun _ => rfl) _) ?_
    conv => whnf
    repeat ((first | refine bF ?_ | refine bT ?_ | refine dK ?_ | refine cR ?_ | refine cK ?_ | refine wK ?_); conv => whnf)
    refine roomK_le 1000 1000 (by rw [List.length_map]; exact hl) (by decide) (by decide) (by decide) ?_
    conv => whnf
    repeat ((first | refine bF ?_ | refine bT ?_ | refine dK ?_ | refine cR ?_ | refine cK ?_ | refine wK ?_); conv => whnf)
    refine roomK_le 1001 1000 (by show (List.map encP (L 9)).length + 1 ≤ 1001; rw [List.length_map]; omega) (by decide) (by decide) (by decide) ?_
    conv => whnf
    repeat ((first | refine bF ?_ | refine bT ?_ | refine dK ?_ | refine cR ?_ | refine cK ?_ | refine wK ?_); conv => whnf)
    refine idxK_nat (i := 9) (by decide) ?_
    conv => whnf
    repeat ((first | refine bF ?_ | refine bT ?_ | refine dK ?_ | refine cR ?_ | refine cK ?_ | refine wK ?_); conv => whnf)
    rw [← qL_set (q := 9) (by decide), List.map_append]
    exact ret_of rfl rfl
  · refine acall_of Tryz.func67 3 rfl (by kernel_rfl) ?_
    conv => whnf
    repeat ((first | refine bF ?_ | refine bT ?_ | refine dK ?_ | refine cR ?_ | refine cK ?_ | refine wK ?_); conv => whnf)
    refine idxK_nat (i := 10) (by decide) ?_
    conv => whnf
    repeat ((first | refine bF ?_ | refine bT ?_ | refine dK ?_ | refine cR ?_ | refine cK ?_ | refine wK ?_); conv => whnf)
    refine condK_of (okRows_map (fun _ => rfl) _) ?_
    conv => whnf
    repeat ((first | refine bF ?_ | refine bT ?_ | refine dK ?_ | refine cR ?_ | refine cK ?_ | refine wK ?_); conv => whnf)
    refine roomK_le 1000 1000 (by rw [List.length_map]; exact hl) (by decide) (by decide) (by decide) ?_
    conv => whnf
    repeat ((first | refine bF ?_ | refine bT ?_ | refine dK ?_ | refine cR ?_ | refine cK ?_ | refine wK ?_); conv => whnf)
    refine roomK_le 1001 1000 (by show (List.map encP (L 10)).length + 1 ≤ 1001; rw [List.length_map]; omega) (by decide) (by decide) (by decide) ?_
    conv => whnf
    repeat ((first | refine bF ?_ | refine bT ?_ | refine dK ?_ | refine cR ?_ | refine cK ?_ | refine wK ?_); conv => whnf)
    refine idxK_nat (i := 10) (by decide) ?_
    conv => whnf
    repeat ((first | refine bF ?_ | refine bT ?_ | refine dK ?_ | refine cR ?_ | refine cK ?_ | refine wK ?_); conv => whnf)
    rw [← qL_set (q := 10) (by decide), List.map_append]
    exact ret_of rfl rfl
  · refine acall_of Tryz.func67 3 rfl (by kernel_rfl) ?_
    conv => whnf
    repeat ((first | refine bF ?_ | refine bT ?_ | refine dK ?_ | refine cR ?_ | refine cK ?_ | refine wK ?_); conv => whnf)
    refine idxK_nat (i := 11) (by decide) ?_
    conv => whnf
    repeat ((first | refine bF ?_ | refine bT ?_ | refine dK ?_ | refine cR ?_ | refine cK ?_ | refine wK ?_); conv => whnf)
    refine condK_of (okRows_map (fun _ => rfl) _) ?_
    conv => whnf
    repeat ((first | refine bF ?_ | refine bT ?_ | refine dK ?_ | refine cR ?_ | refine cK ?_ | refine wK ?_); conv => whnf)
    refine roomK_le 1000 1000 (by rw [List.length_map]; exact hl) (by decide) (by decide) (by decide) ?_
    conv => whnf
    repeat ((first | refine bF ?_ | refine bT ?_ | refine dK ?_ | refine cR ?_ | refine cK ?_ | refine wK ?_); conv => whnf)
    refine roomK_le 1001 1000 (by show (List.map encP (L 11)).length + 1 ≤ 1001; rw [List.length_map]; omega) (by decide) (by decide) (by decide) ?_
    conv => whnf
    repeat ((first | refine bF ?_ | refine bT ?_ | refine dK ?_ | refine cR ?_ | refine cK ?_ | refine wK ?_); conv => whnf)
    refine idxK_nat (i := 11) (by decide) ?_
    conv => whnf
    repeat ((first | refine bF ?_ | refine bT ?_ | refine dK ?_ | refine cR ?_ | refine cK ?_ | refine wK ?_); conv => whnf)
    rw [← qL_set (q := 11) (by decide), List.map_append]
    exact ret_of rfl rfl
  · refine acall_of Tryz.func67 3 rfl (by kernel_rfl) ?_
    conv => whnf
    repeat ((first | refine bF ?_ | refine bT ?_ | refine dK ?_ | refine cR ?_ | refine cK ?_ | refine wK ?_); conv => whnf)
    refine idxK_nat (i := 12) (by decide) ?_
    conv => whnf
    repeat ((first | refine bF ?_ | refine bT ?_ | refine dK ?_ | refine cR ?_ | refine cK ?_ | refine wK ?_); conv => whnf)
    refine condK_of (okRows_map (fun _ => rfl) _) ?_
    conv => whnf
    repeat ((first | refine bF ?_ | refine bT ?_ | refine dK ?_ | refine cR ?_ | refine cK ?_ | refine wK ?_); conv => whnf)
    refine roomK_le 1000 1000 (by rw [List.length_map]; exact hl) (by decide) (by decide) (by decide) ?_
    conv => whnf
    repeat ((first | refine bF ?_ | refine bT ?_ | refine dK ?_ | refine cR ?_ | refine cK ?_ | refine wK ?_); conv => whnf)
    refine roomK_le 1001 1000 (by show (List.map encP (L 12)).length + 1 ≤ 1001; rw [List.length_map]; omega) (by decide) (by decide) (by decide) ?_
    conv => whnf
    repeat ((first | refine bF ?_ | refine bT ?_ | refine dK ?_ | refine cR ?_ | refine cK ?_ | refine wK ?_); conv => whnf)
    refine idxK_nat (i := 12) (by decide) ?_
    conv => whnf
    repeat ((first | refine bF ?_ | refine bT ?_ | refine dK ?_ | refine cR ?_ | refine cK ?_ | refine wK ?_); conv => whnf)
    rw [← qL_set (q := 12) (by decide), List.map_append]
    exact ret_of rfl rfl
  · refine acall_of Tryz.func67 3 rfl (by kernel_rfl) ?_
    conv => whnf
    repeat ((first | refine bF ?_ | refine bT ?_ | refine dK ?_ | refine cR ?_ | refine cK ?_ | refine wK ?_); conv => whnf)
    refine idxK_nat (i := 13) (by decide) ?_
    conv => whnf
    repeat ((first | refine bF ?_ | refine bT ?_ | refine dK ?_ | refine cR ?_ | refine cK ?_ | refine wK ?_); conv => whnf)
    refine condK_of (okRows_map (fun _ => rfl) _) ?_
    conv => whnf
    repeat ((first | refine bF ?_ | refine bT ?_ | refine dK ?_ | refine cR ?_ | refine cK ?_ | refine wK ?_); conv => whnf)
    refine roomK_le 1000 1000 (by rw [List.length_map]; exact hl) (by decide) (by decide) (by decide) ?_
    conv => whnf
    repeat ((first | refine bF ?_ | refine bT ?_ | refine dK ?_ | refine cR ?_ | refine cK ?_ | refine wK ?_); conv => whnf)
    refine roomK_le 1001 1000 (by show (List.map encP (L 13)).length + 1 ≤ 1001; rw [List.length_map]; omega) (by decide) (by decide) (by decide) ?_
    conv => whnf
    repeat ((first | refine bF ?_ | refine bT ?_ | refine dK ?_ | refine cR ?_ | refine cK ?_ | refine wK ?_); conv => whnf)
    refine idxK_nat (i := 13) (by decide) ?_
    conv => whnf
    repeat ((first | refine bF ?_ | refine bT ?_ | refine dK ?_ | refine cR ?_ | refine cK ?_ | refine wK ?_); conv => whnf)
    rw [← qL_set (q := 13) (by decide), List.map_append]
    exact ret_of rfl rfl
  · refine acall_of Tryz.func67 3 rfl (by kernel_rfl) ?_
    conv => whnf
    repeat ((first | refine bF ?_ | refine bT ?_ | refine dK ?_ | refine cR ?_ | refine cK ?_ | refine wK ?_); conv => whnf)
    refine idxK_nat (i := 14) (by decide) ?_
    conv => whnf
    repeat ((first | refine bF ?_ | refine bT ?_ | refine dK ?_ | refine cR ?_ | refine cK ?_ | refine wK ?_); conv => whnf)
    refine condK_of (okRows_map (fun _ => rfl) _) ?_
    conv => whnf
    repeat ((first | refine bF ?_ | refine bT ?_ | refine dK ?_ | refine cR ?_ | refine cK ?_ | refine wK ?_); conv => whnf)
    refine roomK_le 1000 1000 (by rw [List.length_map]; exact hl) (by decide) (by decide) (by decide) ?_
    conv => whnf
    repeat ((first | refine bF ?_ | refine bT ?_ | refine dK ?_ | refine cR ?_ | refine cK ?_ | refine wK ?_); conv => whnf)
    refine roomK_le 1001 1000 (by show (List.map encP (L 14)).length + 1 ≤ 1001; rw [List.length_map]; omega) (by decide) (by decide) (by decide) ?_
    conv => whnf
    repeat ((first | refine bF ?_ | refine bT ?_ | refine dK ?_ | refine cR ?_ | refine cK ?_ | refine wK ?_); conv => whnf)
    refine idxK_nat (i := 14) (by decide) ?_
    conv => whnf
    repeat ((first | refine bF ?_ | refine bT ?_ | refine dK ?_ | refine cR ?_ | refine cK ?_ | refine wK ?_); conv => whnf)
    rw [← qL_set (q := 14) (by decide), List.map_append]
    exact ret_of rfl rfl
  · refine acall_of Tryz.func67 3 rfl (by kernel_rfl) ?_
    conv => whnf
    repeat ((first | refine bF ?_ | refine bT ?_ | refine dK ?_ | refine cR ?_ | refine cK ?_ | refine wK ?_); conv => whnf)
    refine idxK_nat (i := 15) (by decide) ?_
    conv => whnf
    repeat ((first | refine bF ?_ | refine bT ?_ | refine dK ?_ | refine cR ?_ | refine cK ?_ | refine wK ?_); conv => whnf)
    refine condK_of (okRows_map (fun _ => rfl) _) ?_
    conv => whnf
    repeat ((first | refine bF ?_ | refine bT ?_ | refine dK ?_ | refine cR ?_ | refine cK ?_ | refine wK ?_); conv => whnf)
    refine roomK_le 1000 1000 (by rw [List.length_map]; exact hl) (by decide) (by decide) (by decide) ?_
    conv => whnf
    repeat ((first | refine bF ?_ | refine bT ?_ | refine dK ?_ | refine cR ?_ | refine cK ?_ | refine wK ?_); conv => whnf)
    refine roomK_le 1001 1000 (by show (List.map encP (L 15)).length + 1 ≤ 1001; rw [List.length_map]; omega) (by decide) (by decide) (by decide) ?_
    conv => whnf
    repeat ((first | refine bF ?_ | refine bT ?_ | refine dK ?_ | refine cR ?_ | refine cK ?_ | refine wK ?_); conv => whnf)
    refine idxK_nat (i := 15) (by decide) ?_
    conv => whnf
    repeat ((first | refine bF ?_ | refine bT ?_ | refine dK ?_ | refine cR ?_ | refine cK ?_ | refine wK ?_); conv => whnf)
    rw [← qL_set (q := 15) (by decide), List.map_append]
    exact ret_of rfl rfl
  · refine acall_of Tryz.func67 3 rfl (by kernel_rfl) ?_
    conv => whnf
    repeat ((first | refine bF ?_ | refine bT ?_ | refine dK ?_ | refine cR ?_ | refine cK ?_ | refine wK ?_); conv => whnf)
    refine idxK_nat (i := 16) (by decide) ?_
    conv => whnf
    repeat ((first | refine bF ?_ | refine bT ?_ | refine dK ?_ | refine cR ?_ | refine cK ?_ | refine wK ?_); conv => whnf)
    refine condK_of (okRows_map (fun _ => rfl) _) ?_
    conv => whnf
    repeat ((first | refine bF ?_ | refine bT ?_ | refine dK ?_ | refine cR ?_ | refine cK ?_ | refine wK ?_); conv => whnf)
    refine roomK_le 1000 1000 (by rw [List.length_map]; exact hl) (by decide) (by decide) (by decide) ?_
    conv => whnf
    repeat ((first | refine bF ?_ | refine bT ?_ | refine dK ?_ | refine cR ?_ | refine cK ?_ | refine wK ?_); conv => whnf)
    refine roomK_le 1001 1000 (by show (List.map encP (L 16)).length + 1 ≤ 1001; rw [List.length_map]; omega) (by decide) (by decide) (by decide) ?_
    conv => whnf
    repeat ((first | refine bF ?_ | refine bT ?_ | refine dK ?_ | refine cR ?_ | refine cK ?_ | refine wK ?_); conv => whnf)
    refine idxK_nat (i := 16) (by decide) ?_
    conv => whnf
    repeat ((first | refine bF ?_ | refine bT ?_ | refine dK ?_ | refine cR ?_ | refine cK ?_ | refine wK ?_); conv => whnf)
    rw [← qL_set (q := 16) (by decide), List.map_append]
    exact ret_of rfl rfl
set_option maxHeartbeats 8000000 in
theorem sure_ok (L : Nat → List Pg) (q : Nat) (x : Pg) (q1 : 1 ≤ q) (q16 : q ≤ 16) : ACall Tryz.prog 68 [.agg (qL L), .int .i64 q, .agg (encP x)] (.agg (qL (ud L q [x]))) := by
  have hks : q = 1 ∨ q = 2 ∨ q = 3 ∨ q = 4 ∨ q = 5 ∨ q = 6 ∨ q = 7 ∨ q = 8 ∨ q = 9 ∨ q = 10 ∨ q = 11 ∨ q = 12 ∨ q = 13 ∨ q = 14 ∨ q = 15 ∨ q = 16 := by omega
  rcases hks with rfl | rfl | rfl | rfl | rfl | rfl | rfl | rfl | rfl | rfl | rfl | rfl | rfl | rfl | rfl | rfl
  · refine acall_of Tryz.func68 3 rfl (by kernel_rfl) ?_
    conv => whnf
    repeat ((first | refine bF ?_ | refine bT ?_ | refine dK ?_ | refine cR ?_ | refine cK ?_ | refine wK ?_); conv => whnf)
    refine idxK_nat (i := 1) (by decide) ?_
    conv => whnf
    repeat ((first | refine bF ?_ | refine bT ?_ | refine dK ?_ | refine cR ?_ | refine cK ?_ | refine wK ?_); conv => whnf)
    rw [← qL_set (q := 1) (by decide)]
    exact ret_of rfl rfl
  · refine acall_of Tryz.func68 3 rfl (by kernel_rfl) ?_
    conv => whnf
    repeat ((first | refine bF ?_ | refine bT ?_ | refine dK ?_ | refine cR ?_ | refine cK ?_ | refine wK ?_); conv => whnf)
    refine idxK_nat (i := 2) (by decide) ?_
    conv => whnf
    repeat ((first | refine bF ?_ | refine bT ?_ | refine dK ?_ | refine cR ?_ | refine cK ?_ | refine wK ?_); conv => whnf)
    rw [← qL_set (q := 2) (by decide)]
    exact ret_of rfl rfl
  · refine acall_of Tryz.func68 3 rfl (by kernel_rfl) ?_
    conv => whnf
    repeat ((first | refine bF ?_ | refine bT ?_ | refine dK ?_ | refine cR ?_ | refine cK ?_ | refine wK ?_); conv => whnf)
    refine idxK_nat (i := 3) (by decide) ?_
    conv => whnf
    repeat ((first | refine bF ?_ | refine bT ?_ | refine dK ?_ | refine cR ?_ | refine cK ?_ | refine wK ?_); conv => whnf)
    rw [← qL_set (q := 3) (by decide)]
    exact ret_of rfl rfl
  · refine acall_of Tryz.func68 3 rfl (by kernel_rfl) ?_
    conv => whnf
    repeat ((first | refine bF ?_ | refine bT ?_ | refine dK ?_ | refine cR ?_ | refine cK ?_ | refine wK ?_); conv => whnf)
    refine idxK_nat (i := 4) (by decide) ?_
    conv => whnf
    repeat ((first | refine bF ?_ | refine bT ?_ | refine dK ?_ | refine cR ?_ | refine cK ?_ | refine wK ?_); conv => whnf)
    rw [← qL_set (q := 4) (by decide)]
    exact ret_of rfl rfl
  · refine acall_of Tryz.func68 3 rfl (by kernel_rfl) ?_
    conv => whnf
    repeat ((first | refine bF ?_ | refine bT ?_ | refine dK ?_ | refine cR ?_ | refine cK ?_ | refine wK ?_); conv => whnf)
    refine idxK_nat (i := 5) (by decide) ?_
    conv => whnf
    repeat ((first | refine bF ?_ | refine bT ?_ | refine dK ?_ | refine cR ?_ | refine cK ?_ | refine wK ?_); conv => whnf)
    rw [← qL_set (q := 5) (by decide)]
    exact ret_of rfl rfl
  · refine acall_of Tryz.func68 3 rfl (by kernel_rfl) ?_
    conv => whnf
    repeat ((first | refine bF ?_ | refine bT ?_ | refine dK ?_ | refine cR ?_ | refine cK ?_ | refine wK ?_); conv => whnf)
    refine idxK_nat (i := 6) (by decide) ?_
    conv => whnf
    repeat ((first | refine bF ?_ | refine bT ?_ | refine dK ?_ | refine cR ?_ | refine cK ?_ | refine wK ?_); conv => whnf)
    rw [← qL_set (q := 6) (by decide)]
    exact ret_of rfl rfl
  · refine acall_of Tryz.func68 3 rfl (by kernel_rfl) ?_
    conv => whnf
    repeat ((first | refine bF ?_ | refine bT ?_ | refine dK ?_ | refine cR ?_ | refine cK ?_ | refine wK ?_); conv => whnf)
    refine idxK_nat (i := 7) (by decide) ?_
    conv => whnf
    repeat ((first | refine bF ?_ | refine bT ?_ | refine dK ?_ | refine cR ?_ | refine cK ?_ | refine wK ?_); conv => whnf)
    rw [← qL_set (q := 7) (by decide)]
    exact ret_of rfl rfl
  · refine acall_of Tryz.func68 3 rfl (by kernel_rfl) ?_
    conv => whnf
    repeat ((first | refine bF ?_ | refine bT ?_ | refine dK ?_ | refine cR ?_ | refine cK ?_ | refine wK ?_); conv => whnf)
    refine idxK_nat (i := 8) (by decide) ?_
    conv => whnf
    repeat ((first | refine bF ?_ | refine bT ?_ | refine dK ?_ | refine cR ?_ | refine cK ?_ | refine wK ?_); conv => whnf)
    rw [← qL_set (q := 8) (by decide)]
    exact ret_of rfl rfl
  · refine acall_of Tryz.func68 3 rfl (by kernel_rfl) ?_
    conv => whnf
    repeat ((first | refine bF ?_ | refine bT ?_ | refine dK ?_ | refine cR ?_ | refine cK ?_ | refine wK ?_); conv => whnf)
    refine idxK_nat (i := 9) (by decide) ?_
    conv => whnf
    repeat ((first | refine bF ?_ | refine bT ?_ | refine dK ?_ | refine cR ?_ | refine cK ?_ | refine wK ?_); conv => whnf)
    rw [← qL_set (q := 9) (by decide)]
    exact ret_of rfl rfl
  · refine acall_of Tryz.func68 3 rfl (by kernel_rfl) ?_
    conv => whnf
    repeat ((first | refine bF ?_ | refine bT ?_ | refine dK ?_ | refine cR ?_ | refine cK ?_ | refine wK ?_); conv => whnf)
    refine idxK_nat (i := 10) (by decide) ?_
    conv => whnf
    repeat ((first | refine bF ?_ | refine bT ?_ | refine dK ?_ | refine cR ?_ | refine cK ?_ | refine wK ?_); conv => whnf)
    rw [← qL_set (q := 10) (by decide)]
    exact ret_of rfl rfl
  · refine acall_of Tryz.func68 3 rfl (by kernel_rfl) ?_
    conv => whnf
    repeat ((first | refine bF ?_ | refine bT ?_ | refine dK ?_ | refine cR ?_ | refine cK ?_ | refine wK ?_); conv => whnf)
    refine idxK_nat (i := 11) (by decide) ?_
    conv => whnf
    repeat ((first | refine bF ?_ | refine bT ?_ | refine dK ?_ | refine cR ?_ | refine cK ?_ | refine wK ?_); conv => whnf)
    rw [← qL_set (q := 11) (by decide)]
    exact ret_of rfl rfl
  · refine acall_of Tryz.func68 3 rfl (by kernel_rfl) ?_
    conv => whnf
    repeat ((first | refine bF ?_ | refine bT ?_ | refine dK ?_ | refine cR ?_ | refine cK ?_ | refine wK ?_); conv => whnf)
    refine idxK_nat (i := 12) (by decide) ?_
    conv => whnf
    repeat ((first | refine bF ?_ | refine bT ?_ | refine dK ?_ | refine cR ?_ | refine cK ?_ | refine wK ?_); conv => whnf)
    rw [← qL_set (q := 12) (by decide)]
    exact ret_of rfl rfl
  · refine acall_of Tryz.func68 3 rfl (by kernel_rfl) ?_
    conv => whnf
    repeat ((first | refine bF ?_ | refine bT ?_ | refine dK ?_ | refine cR ?_ | refine cK ?_ | refine wK ?_); conv => whnf)
    refine idxK_nat (i := 13) (by decide) ?_
    conv => whnf
    repeat ((first | refine bF ?_ | refine bT ?_ | refine dK ?_ | refine cR ?_ | refine cK ?_ | refine wK ?_); conv => whnf)
    rw [← qL_set (q := 13) (by decide)]
    exact ret_of rfl rfl
  · refine acall_of Tryz.func68 3 rfl (by kernel_rfl) ?_
    conv => whnf
    repeat ((first | refine bF ?_ | refine bT ?_ | refine dK ?_ | refine cR ?_ | refine cK ?_ | refine wK ?_); conv => whnf)
    refine idxK_nat (i := 14) (by decide) ?_
    conv => whnf
    repeat ((first | refine bF ?_ | refine bT ?_ | refine dK ?_ | refine cR ?_ | refine cK ?_ | refine wK ?_); conv => whnf)
    rw [← qL_set (q := 14) (by decide)]
    exact ret_of rfl rfl
  · refine acall_of Tryz.func68 3 rfl (by kernel_rfl) ?_
    conv => whnf
    repeat ((first | refine bF ?_ | refine bT ?_ | refine dK ?_ | refine cR ?_ | refine cK ?_ | refine wK ?_); conv => whnf)
    refine idxK_nat (i := 15) (by decide) ?_
    conv => whnf
    repeat ((first | refine bF ?_ | refine bT ?_ | refine dK ?_ | refine cR ?_ | refine cK ?_ | refine wK ?_); conv => whnf)
    rw [← qL_set (q := 15) (by decide)]
    exact ret_of rfl rfl
  · refine acall_of Tryz.func68 3 rfl (by kernel_rfl) ?_
    conv => whnf
    repeat ((first | refine bF ?_ | refine bT ?_ | refine dK ?_ | refine cR ?_ | refine cK ?_ | refine wK ?_); conv => whnf)
    refine idxK_nat (i := 16) (by decide) ?_
    conv => whnf
    repeat ((first | refine bF ?_ | refine bT ?_ | refine dK ?_ | refine cR ?_ | refine cK ?_ | refine wK ?_); conv => whnf)
    rw [← qL_set (q := 16) (by decide)]
    exact ret_of rfl rfl
end Go.Lk

