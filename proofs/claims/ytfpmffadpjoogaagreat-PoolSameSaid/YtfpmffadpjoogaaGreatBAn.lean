/-
  What is proved here: what functions of the program compute, and what follows; no condition beyond each theorem's own.
-/
import Derived.Test.YtfpmffadpjoogaaGreatBAm
set_option linter.unusedSimpArgs false
set_option linter.unusedVariables false
set_option linter.unnecessarySimpa false
set_option linter.unusedSectionVars false
namespace Go.Lk
open Go Go.Proofs Go.RowKit

def DocOut (P : Nat → Pg) (W : Nat → Int) (n : Nat) (a : PAct) : D :=
  .tup [.agg (mL (docM P W n a).1 (docM P W n a).2.1 n), .agg (encP (docM P W n a).2.2.1), .int .i64 (docM P W n a).2.2.2]
set_option maxRecDepth 100000 in
theorem rdo_ok (P : Nat → Pg) (W : Nat → Int) (n : Nat) (a : PAct) (hv : ∀ q : Nat, 1 ≤ q → q ≤ 16 → 0 ≤ (P q).2.1 ∧ (P q).2.1 ≤ 2147483647) (hw : ∀ q : Nat, 1 ≤ q → q ≤ 16 → 0 ≤ W q ∧ W q ≤ 2147483647) :
    ACall Tryz.prog 19 [.agg (mL P W n), .int .i64 a.1, .int .i64 a.2.1, .str a.2.2] (DocOut P W n a) := by
  have hlen : (mL P W n).length = 69 := rfl
  have hM := ML.of P W n
  obtain ⟨k, id, b⟩ := a
  simp only []
  refine acall_of Tryz.func19 4 rfl (by kernel_rfl) ?_
  conv => whnf
  repeat ((first | refine bF ?_ | refine bT ?_ | refine dK (by kernel_rfl) ?_ | refine cK rfl ?_ | refine cK (by first | decide | omega) ?_ | refine wK (by omega) (by omega) ?_); conv => whnf)
  refine bcase_p (fun h1 => ?_) (fun h1 => ?_) <;> conv => whnf
  · repeat ((first | refine bF ?_ | refine bT ?_ | refine dK (by kernel_rfl) ?_ | refine cK rfl ?_ | refine cK (by first | decide | omega) ?_ | refine wK (by omega) (by omega) ?_); conv => whnf)
    rw [DocOut, docM, if_pos (.inl h1)]
    exact ret_of rfl rfl
  repeat ((first | refine bF ?_ | refine bT ?_ | refine dK (by kernel_rfl) ?_ | refine cK rfl ?_ | refine cK (by first | decide | omega) ?_ | refine wK (by omega) (by omega) ?_); conv => whnf)
  refine bcase_p (fun h2 => ?_) (fun h2 => ?_) <;> conv => whnf
  · repeat ((first | refine bF ?_ | refine bT ?_ | refine dK (by kernel_rfl) ?_ | refine cK rfl ?_ | refine cK (by first | decide | omega) ?_ | refine wK (by omega) (by omega) ?_); conv => whnf)
    rw [DocOut, docM, if_pos (.inr (.inl h2))]
    exact ret_of rfl rfl
  repeat ((first | refine bF ?_ | refine bT ?_ | refine dK (by kernel_rfl) ?_ | refine cK rfl ?_ | refine cK (by first | decide | omega) ?_ | refine wK (by omega) (by omega) ?_); conv => whnf)
  by_cases h3 : k = 8
  · subst h3
    repeat ((first | refine bF ?_ | refine bT ?_ | refine dK (by kernel_rfl) ?_ | refine cK rfl ?_ | refine cK (by first | decide | omega) ?_ | refine wK (by omega) (by omega) ?_); conv => whnf)
    rw [DocOut, docM, if_neg (by simp), if_pos rfl]
    exact ret_of rfl rfl
  refine bcase_t (by simp [h3]) ?_
  conv => whnf
  repeat ((first | refine bF ?_ | refine bT ?_ | refine dK (by kernel_rfl) ?_ | refine cK rfl ?_ | refine cK (by first | decide | omega) ?_ | refine wK (by omega) (by omega) ?_); conv => whnf)
  refine bcase_p (fun h4 => ?_) (fun h4 => ?_) <;> conv => whnf
  · repeat ((first | refine bF ?_ | refine bT ?_ | refine dK (by kernel_rfl) ?_ | refine cK rfl ?_ | refine cK (by first | decide | omega) ?_ | refine wK (by omega) (by omega) ?_); conv => whnf)
    rw [DocOut, docM, if_pos (.inr (.inr ⟨h3, .inl h4⟩))]
    exact ret_of rfl rfl
  repeat ((first | refine bF ?_ | refine bT ?_ | refine dK (by kernel_rfl) ?_ | refine cK rfl ?_ | refine cK (by first | decide | omega) ?_ | refine wK (by omega) (by omega) ?_); conv => whnf)
  refine bcase_p (fun h5 => ?_) (fun h5 => ?_) <;> conv => whnf
  · repeat ((first | refine bF ?_ | refine bT ?_ | refine dK (by kernel_rfl) ?_ | refine cK rfl ?_ | refine cK (by first | decide | omega) ?_ | refine wK (by omega) (by omega) ?_); conv => whnf)
    rw [DocOut, docM, if_pos (.inr (.inr ⟨h3, .inr h5⟩))]
    exact ret_of rfl rfl
  repeat ((first | refine bF ?_ | refine bT ?_ | refine dK (by kernel_rfl) ?_ | refine cK rfl ?_ | refine cK (by first | decide | omega) ?_ | refine wK (by omega) (by omega) ?_); conv => whnf)
  refine bcase_f (by simp [h3]) ?_
  conv => whnf
  obtain ⟨q, rfl⟩ : ∃ q : Nat, id = q := ⟨id.toNat, by omega⟩
  have hq : q < 17 := by omega
  obtain ⟨v0, v1⟩ := hv q (by omega) (by omega)
  obtain ⟨w0, w1⟩ := hw q (by omega) (by omega)
  have hE : DocOut P W n (k, (q : Int), b) = DocOut P W n (k, (q : Int), b) := rfl
  have hdoc : docM P W n (k, (q : Int), b) = if 2 < k ∧ k < 6 ∧ W q = 0 then (P, W, zP, 12)
    else if k = 3 then (P, W, P q, 0)
    else if k = 4 then (if 16 < b.size then (P, W, zP, 5) else (ud P q (wrPg (P q) b), W, wrPg (P q) b, 0))
    else if k = 5 then (P, ud W q (W q - 1), zP, 0)
    else if k = 6 then (if 0 < W q then (P, W, zP, 6) else if (P q).1 = 0 then (P, W, zP, 3) else (ud P q zP, W, zP, 0))
    else if k = 7 then (if (P q).1 = 0 then (P, W, zP, 3) else (P, W, zP, 0))
    else thereM P W n k q := by
    rw [docM, if_neg (by simp only []; omega), if_neg h3]
    rfl
  repeat ((first | refine bF ?_ | refine bT ?_ | refine dK (by kernel_rfl) ?_ | refine cK rfl ?_ | refine cK (by first | decide | omega) ?_ | refine wK (by omega) (by omega) ?_); conv => whnf)
  refine idxK_nat (by omega) ?_
  conv => whnf
  try (refine condK_of rfl ?_)
  refine (part_agg (l := mL P W n) (l2 := encP (P q)) (by first | rfl | simp only [killC_d]) (by first | omega | (simp only [szs]; omega)) (hM.p (by simp only [szs]; omega) hq) ?_)
  conv => whnf
  repeat ((first | refine bF ?_ | refine bT ?_ | refine dK (by kernel_rfl) ?_ | refine cK rfl ?_ | refine cK (by first | decide | omega) ?_ | refine wK (by omega) (by omega) ?_); conv => whnf)
  have hk : k = 1 ∨ k = 2 ∨ k = 3 ∨ k = 4 ∨ k = 5 ∨ k = 6 ∨ k = 7 := by omega
  have thr (j : Int) (hj : j = 1 ∨ j = 2) := there_ok P W n q j hq (by omega) w0 hj
  rcases hk with rfl | rfl | rfl | rfl | rfl | rfl | rfl
  · repeat ((first | refine bF ?_ | refine bT ?_ | refine dK (by kernel_rfl) ?_ | refine cK rfl ?_ | refine cK (by first | decide | omega) ?_ | refine wK (by omega) (by omega) ?_); conv => whnf)
    refine callX_pure (thr 1 (.inl rfl)) ?_
    conv => whnf
    repeat ((first | refine bF ?_ | refine bT ?_ | refine dK (by kernel_rfl) ?_ | refine cK rfl ?_ | refine cK (by first | decide | omega) ?_ | refine wK (by omega) (by omega) ?_); conv => whnf)
    rw [DocOut, hdoc, if_neg (by omega), if_neg (by decide), if_neg (by decide), if_neg (by decide), if_neg (by decide), if_neg (by decide)]
    exact ret_of rfl rfl
  · repeat ((first | refine bF ?_ | refine bT ?_ | refine dK (by kernel_rfl) ?_ | refine cK rfl ?_ | refine cK (by first | decide | omega) ?_ | refine wK (by omega) (by omega) ?_); conv => whnf)
    refine callX_pure (thr 2 (.inr rfl)) ?_
    conv => whnf
    repeat ((first | refine bF ?_ | refine bT ?_ | refine dK (by kernel_rfl) ?_ | refine cK rfl ?_ | refine cK (by first | decide | omega) ?_ | refine wK (by omega) (by omega) ?_); conv => whnf)
    rw [DocOut, hdoc, if_neg (by omega), if_neg (by decide), if_neg (by decide), if_neg (by decide), if_neg (by decide), if_neg (by decide)]
    exact ret_of rfl rfl
  · repeat ((first | refine bF ?_ | refine bT ?_ | refine dK (by kernel_rfl) ?_ | refine cK rfl ?_ | refine cK (by first | decide | omega) ?_ | refine wK (by omega) (by omega) ?_); conv => whnf)
    refine idxK_nat (by omega) ?_
    conv => whnf
    try (refine condK_of rfl ?_)
    refine (part_one (l := mL P W n) (.int .i64 (W q)) (by first | rfl | simp only [killC_d]) (hM.w (by simp only [szs]; omega) hq) ?_)
    conv => whnf
    repeat ((first | refine bF ?_ | refine bT ?_ | refine dK (by kernel_rfl) ?_ | refine cK rfl ?_ | refine cK (by first | decide | omega) ?_ | refine wK (by omega) (by omega) ?_); conv => whnf)
    refine bcase_p (fun h6 => ?_) (fun h6 => ?_) <;> conv => whnf
    · repeat ((first | refine bF ?_ | refine bT ?_ | refine dK (by kernel_rfl) ?_ | refine cK rfl ?_ | refine cK (by first | decide | omega) ?_ | refine wK (by omega) (by omega) ?_); conv => whnf)
      rw [DocOut, hdoc, if_pos ⟨by decide, by decide, h6⟩]
      exact ret_of rfl rfl
    repeat ((first | refine bF ?_ | refine bT ?_ | refine dK (by kernel_rfl) ?_ | refine cK rfl ?_ | refine cK (by first | decide | omega) ?_ | refine wK (by omega) (by omega) ?_); conv => whnf)
    rw [DocOut, hdoc, if_neg (fun g => h6 g.2.2), if_pos rfl]
    exact ret_of rfl rfl
  · repeat ((first | refine bF ?_ | refine bT ?_ | refine dK (by kernel_rfl) ?_ | refine cK rfl ?_ | refine cK (by first | decide | omega) ?_ | refine wK (by omega) (by omega) ?_); conv => whnf)
    refine idxK_nat (by omega) ?_
    conv => whnf
    try (refine condK_of rfl ?_)
    refine (part_one (l := mL P W n) (.int .i64 (W q)) (by first | rfl | simp only [killC_d]) (hM.w (by simp only [szs]; omega) hq) ?_)
    conv => whnf
    repeat ((first | refine bF ?_ | refine bT ?_ | refine dK (by kernel_rfl) ?_ | refine cK rfl ?_ | refine cK (by first | decide | omega) ?_ | refine wK (by omega) (by omega) ?_); conv => whnf)
    refine bcase_p (fun h6 => ?_) (fun h6 => ?_) <;> conv => whnf
    · repeat ((first | refine bF ?_ | refine bT ?_ | refine dK (by kernel_rfl) ?_ | refine cK rfl ?_ | refine cK (by first | decide | omega) ?_ | refine wK (by omega) (by omega) ?_); conv => whnf)
      rw [DocOut, hdoc, if_pos ⟨by decide, by decide, h6⟩]
      exact ret_of rfl rfl
    repeat ((first | refine bF ?_ | refine bT ?_ | refine dK (by kernel_rfl) ?_ | refine cK rfl ?_ | refine cK (by first | decide | omega) ?_ | refine wK (by omega) (by omega) ?_); conv => whnf)
    refine bcase_p (fun h7 => ?_) (fun h7 => ?_) <;> conv => whnf
    · repeat ((first | refine bF ?_ | refine bT ?_ | refine dK (by kernel_rfl) ?_ | refine cK rfl ?_ | refine cK (by first | decide | omega) ?_ | refine wK (by omega) (by omega) ?_); conv => whnf)
      have h7 : 16 < b.size := by omega
      rw [DocOut, hdoc, if_neg (fun g => h6 g.2.2), if_neg (by decide), if_pos rfl, if_pos h7]
      exact ret_of rfl rfl
    repeat ((first | refine bF ?_ | refine bT ?_ | refine dK (by kernel_rfl) ?_ | refine cK rfl ?_ | refine cK (by first | decide | omega) ?_ | refine wK (by omega) (by omega) ?_); conv => whnf)
    refine idxK_nat (by omega) ?_
    conv => whnf
    repeat ((first | refine bF ?_ | refine bT ?_ | refine dK (by kernel_rfl) ?_ | refine cK rfl ?_ | refine cK (by first | decide | omega) ?_ | refine wK (by omega) (by omega) ?_); conv => whnf)
    try (refine condK_of rfl ?_)
    refine (store_at (l := mL P W n) (l2 := encP (wrPg (P q) b)) (l3 := mL (ud P q (wrPg (P q) b)) W n) (by first | rfl | simp only [killC_d]) rfl (by first | omega | (simp only [szs]; omega)) (by first | omega | (simp only [szs]; omega)) rfl (ML.setP (by simp only [szs]; omega) hq _) ?_)
    conv => whnf
    repeat ((first | refine bF ?_ | refine bT ?_ | refine dK (by kernel_rfl) ?_ | refine cK rfl ?_ | refine cK (by first | decide | omega) ?_ | refine wK (by omega) (by omega) ?_); conv => whnf)
    have h7 : ¬ 16 < b.size := by omega
    rw [DocOut, hdoc, if_neg (fun g => h6 g.2.2), if_neg (by decide), if_pos rfl, if_neg h7]
    exact ret_of rfl rfl
  · repeat ((first | refine bF ?_ | refine bT ?_ | refine dK (by kernel_rfl) ?_ | refine cK rfl ?_ | refine cK (by first | decide | omega) ?_ | refine wK (by omega) (by omega) ?_); conv => whnf)
    refine idxK_nat (by omega) ?_
    conv => whnf
    try (refine condK_of rfl ?_)
    refine (part_one (l := mL P W n) (.int .i64 (W q)) (by first | rfl | simp only [killC_d]) (hM.w (by simp only [szs]; omega) hq) ?_)
    conv => whnf
    repeat ((first | refine bF ?_ | refine bT ?_ | refine dK (by kernel_rfl) ?_ | refine cK rfl ?_ | refine cK (by first | decide | omega) ?_ | refine wK (by omega) (by omega) ?_); conv => whnf)
    refine bcase_p (fun h6 => ?_) (fun h6 => ?_) <;> conv => whnf
    · repeat ((first | refine bF ?_ | refine bT ?_ | refine dK (by kernel_rfl) ?_ | refine cK rfl ?_ | refine cK (by first | decide | omega) ?_ | refine wK (by omega) (by omega) ?_); conv => whnf)
      rw [DocOut, hdoc, if_pos ⟨by decide, by decide, h6⟩]
      exact ret_of rfl rfl
    repeat ((first | refine bF ?_ | refine bT ?_ | refine dK (by kernel_rfl) ?_ | refine cK rfl ?_ | refine cK (by first | decide | omega) ?_ | refine wK (by omega) (by omega) ?_); conv => whnf)
    refine idxK_nat (by omega) ?_
    conv => whnf
    try (refine condK_of rfl ?_)
    refine (part_one (l := mL P W n) (.int .i64 (W q)) (by first | rfl | simp only [killC_d]) (hM.w (by simp only [szs]; omega) hq) ?_)
    conv => whnf
    repeat ((first | refine bF ?_ | refine bT ?_ | refine dK (by kernel_rfl) ?_ | refine cK rfl ?_ | refine cK (by first | decide | omega) ?_ | refine wK (by omega) (by omega) ?_); conv => whnf)
    refine idxK_nat (by omega) ?_
    conv => whnf
    repeat ((first | refine bF ?_ | refine bT ?_ | refine dK (by kernel_rfl) ?_ | refine cK rfl ?_ | refine cK (by first | decide | omega) ?_ | refine wK (by omega) (by omega) ?_); conv => whnf)
    try (refine condK_of rfl ?_)
    refine (store_one (l := mL P W n) (l3 := mL P (ud W q (W q - 1)) n) (by first | rfl | simp only [killC_d]) (by first | omega | (simp only [szs]; omega)) (ML.setW (by simp only [szs]; omega) hq _) ?_)
    conv => whnf
    repeat ((first | refine bF ?_ | refine bT ?_ | refine dK (by kernel_rfl) ?_ | refine cK rfl ?_ | refine cK (by first | decide | omega) ?_ | refine wK (by omega) (by omega) ?_); conv => whnf)
    rw [DocOut, hdoc, if_neg (fun g => h6 g.2.2), if_neg (by decide), if_neg (by decide), if_pos rfl]
    exact ret_of rfl rfl
  · repeat ((first | refine bF ?_ | refine bT ?_ | refine dK (by kernel_rfl) ?_ | refine cK rfl ?_ | refine cK (by first | decide | omega) ?_ | refine wK (by omega) (by omega) ?_); conv => whnf)
    refine idxK_nat (by omega) ?_
    conv => whnf
    try (refine condK_of rfl ?_)
    refine (part_one (l := mL P W n) (.int .i64 (W q)) (by first | rfl | simp only [killC_d]) (hM.w (by simp only [szs]; omega) hq) ?_)
    conv => whnf
    repeat ((first | refine bF ?_ | refine bT ?_ | refine dK (by kernel_rfl) ?_ | refine cK rfl ?_ | refine cK (by first | decide | omega) ?_ | refine wK (by omega) (by omega) ?_); conv => whnf)
    refine bcase_p (fun h6 => ?_) (fun h6 => ?_) <;> conv => whnf
    · repeat ((first | refine bF ?_ | refine bT ?_ | refine dK (by kernel_rfl) ?_ | refine cK rfl ?_ | refine cK (by first | decide | omega) ?_ | refine wK (by omega) (by omega) ?_); conv => whnf)
      rw [DocOut, hdoc, if_neg (by omega), if_neg (by decide), if_neg (by decide), if_neg (by decide), if_pos rfl, if_pos h6]
      exact ret_of rfl rfl
    repeat ((first | refine bF ?_ | refine bT ?_ | refine dK (by kernel_rfl) ?_ | refine cK rfl ?_ | refine cK (by first | decide | omega) ?_ | refine wK (by omega) (by omega) ?_); conv => whnf)
    refine bcase_p (fun h7 => ?_) (fun h7 => ?_) <;> conv => whnf
    · repeat ((first | refine bF ?_ | refine bT ?_ | refine dK (by kernel_rfl) ?_ | refine cK rfl ?_ | refine cK (by first | decide | omega) ?_ | refine wK (by omega) (by omega) ?_); conv => whnf)
      rw [DocOut, hdoc, if_neg (by omega), if_neg (by decide), if_neg (by decide), if_neg (by decide), if_pos rfl, if_neg h6, if_pos h7]
      exact ret_of rfl rfl
    repeat ((first | refine bF ?_ | refine bT ?_ | refine dK (by kernel_rfl) ?_ | refine cK rfl ?_ | refine cK (by first | decide | omega) ?_ | refine wK (by omega) (by omega) ?_); conv => whnf)
    refine idxK_nat (by omega) ?_
    conv => whnf
    repeat ((first | refine bF ?_ | refine bT ?_ | refine dK (by kernel_rfl) ?_ | refine cK rfl ?_ | refine cK (by first | decide | omega) ?_ | refine wK (by omega) (by omega) ?_); conv => whnf)
    try (refine condK_of rfl ?_)
    refine (store_at (l := mL P W n) (l2 := encP zP) (l3 := mL (ud P q zP) W n) (by first | rfl | simp only [killC_d]) rfl (by first | omega | (simp only [szs]; omega)) (by first | omega | (simp only [szs]; omega)) rfl (ML.setP (by simp only [szs]; omega) hq _) ?_)
    conv => whnf
    repeat ((first | refine bF ?_ | refine bT ?_ | refine dK (by kernel_rfl) ?_ | refine cK rfl ?_ | refine cK (by first | decide | omega) ?_ | refine wK (by omega) (by omega) ?_); conv => whnf)
    rw [DocOut, hdoc, if_neg (by omega), if_neg (by decide), if_neg (by decide), if_neg (by decide), if_pos rfl, if_neg h6, if_neg h7]
    exact ret_of rfl rfl
  · repeat ((first | refine bF ?_ | refine bT ?_ | refine dK (by kernel_rfl) ?_ | refine cK rfl ?_ | refine cK (by first | decide | omega) ?_ | refine wK (by omega) (by omega) ?_); conv => whnf)
    refine bcase_p (fun h7 => ?_) (fun h7 => ?_) <;> conv => whnf
    · repeat ((first | refine bF ?_ | refine bT ?_ | refine dK (by kernel_rfl) ?_ | refine cK rfl ?_ | refine cK (by first | decide | omega) ?_ | refine wK (by omega) (by omega) ?_); conv => whnf)
      rw [DocOut, hdoc, if_neg (by omega), if_neg (by decide), if_neg (by decide), if_neg (by decide), if_neg (by decide), if_pos rfl, if_pos h7]
      exact ret_of rfl rfl
    repeat ((first | refine bF ?_ | refine bT ?_ | refine dK (by kernel_rfl) ?_ | refine cK rfl ?_ | refine cK (by first | decide | omega) ?_ | refine wK (by omega) (by omega) ?_); conv => whnf)
    rw [DocOut, hdoc, if_neg (by omega), if_neg (by decide), if_neg (by decide), if_neg (by decide), if_neg (by decide), if_pos rfl, if_neg h7]
    exact ret_of rfl rfl
end Go.Lk

namespace Go.Lk
open Go Go.Proofs Go.RowKit

theorem step_bad {e : DS} {o : Jo} (h : o.1 ≠ true) (h2 : ¬ (DR e ∧ okW e.sec.length o.2 = true ∧ e.ca.length < 200)) : stepJ e o = e := by
  rw [stepJ, if_neg h, putM]
  split
  · rename_i g
    have h3 : ¬ e.ca.length < 200 := fun q => h2 ⟨g.1, g.2, q⟩
    rw [if_pos (by omega)]
  · rfl
set_option maxRecDepth 100000 in
theorem rrun_ok (d : DS) (l : List Jo) (most : Int) (hl : l.length ≤ 1000000) : ACall Tryz.prog 24 [encDS d, .lst (l.map encJ), .int .i64 most] (encDS (runM d l most)) := by
  refine acall_of Tryz.func24 3 rfl (by kernel_rfl) ?_
  conv => whnf
  have hm : (l.map encJ).length = l.length := List.length_map ..
  repeat ((first | refine bF ?_ | refine bT ?_ | refine dK (by kernel_rfl) ?_ | refine cK rfl ?_ | refine cK (by first | decide | omega) ?_ | refine wK (by omega) (by omega) ?_); conv => whnf)
  refine aloop (ι := Nat × DS) (fun k => [(1, .d (.lst (l.map encJ))), (2, .d (.int .i64 most)), (3, .ptr 3 0 0), (6, .ptr 6 0 0), (7, .d (.int .i64 k.1))])
    (fun k => [(3, .box [.d (.lst (k.2.sec.map encB)), .d (.lst (k.2.ca.map encW))] false), (6, .box [.nil, .nil] false)])
    (fun k => k.1 ≤ l.length ∧ ((k.1 : Int) ≤ most ∨ k.1 = 0) ∧ k.2 = (l.take k.1).foldl stepJ d) (fun k => l.length - k.1) (0, d) ⟨by omega, .inr rfl, rfl⟩ (le0 (le_of_cov ⟨rfl, rfl, rfl, rfl, rfl, trivial⟩ ⟨rfl, rfl, trivial⟩ ⟨rfl, rfl, rfl, rfl⟩)) ?_
  rintro ⟨k, e⟩ ⟨hk, hc, he⟩
  simp only at hk hc he ⊢
  have tk : ∀ j, most.toNat = j → (l.take j).foldl stepJ d = runM d l most := fun j h => by rw [runM, h]
  conv => whnf
  refine bcase_p (fun h5 => ?_) (fun h5 => ?_) <;> conv => whnf
  rotate_left
  · repeat ((first | refine bF ?_ | refine bT ?_ | refine dK (by kernel_rfl) ?_ | refine cK rfl ?_ | refine cK (by first | decide | omega) ?_ | refine wK (by omega) (by omega) ?_); conv => whnf)
    have : e = runM d l most := by
      rw [he, runM]
      rcases hc with h | h
      · rw [List.take_of_length_le (by omega), List.take_of_length_le (by omega)]
      · have : l = [] := List.length_eq_zero_iff.1 (by omega)
        subst this
        simp
    rw [← this]
    exact ret_of rfl rfl
  have hk2 : k < l.length := by omega
  have en : ∀ x, stepJ e l[k] = x → (l.take (k + 1)).foldl stepJ d = x := fun x hx => by rw [take_snoc hk2, List.foldl_append, ← he]; exact hx
  refine bcase_p (fun h6 => ?_) (fun h6 => ?_) <;> conv => whnf
  rotate_left
  · repeat ((first | refine bF ?_ | refine bT ?_ | refine dK (by kernel_rfl) ?_ | refine cK rfl ?_ | refine cK (by first | decide | omega) ?_ | refine wK (by omega) (by omega) ?_); conv => whnf)
    have : e = runM d l most := by
      rcases hc with h | h
      · rw [he]; exact tk k (by omega)
      · subst h; rw [he]; exact tk 0 (by omega)
    rw [← this]
    exact ret_of rfl rfl
  repeat ((first | refine bF ?_ | refine bT ?_ | refine dK (by kernel_rfl) ?_ | refine cK rfl ?_ | refine cK (by first | decide | omega) ?_ | refine wK (by omega) (by omega) ?_); conv => whnf)
  refine idxK_nat (by omega) ?_
  conv => whnf
  refine getRow_of (x := encJ l[k]) (by simp [hk2]) ?_
  conv => whnf
  repeat ((first | refine bF ?_ | refine bT ?_ | refine dK (by kernel_rfl) ?_ | refine cK rfl ?_ | refine cK (by first | decide | omega) ?_ | refine wK (by omega) (by omega) ?_); conv => whnf)
  repeat ((first | refine bF ?_ | refine bT ?_ | refine dK (by kernel_rfl) ?_ | refine cK rfl ?_ | refine cK (by first | decide | omega) ?_ | refine wK (by omega) (by omega) ?_); conv => whnf)
  refine idxK_nat (by omega) ?_
  conv => whnf
  refine getRow_of (x := encJ l[k]) (by simp [hk2]) ?_
  conv => whnf
  repeat ((first | refine bF ?_ | refine bT ?_ | refine dK (by kernel_rfl) ?_ | refine cK rfl ?_ | refine cK (by first | decide | omega) ?_ | refine wK (by omega) (by omega) ?_); conv => whnf)
  repeat ((first | refine bF ?_ | refine bT ?_ | refine dK (by kernel_rfl) ?_ | refine cK rfl ?_ | refine cK (by first | decide | omega) ?_ | refine wK (by omega) (by omega) ?_); conv => whnf)
  refine bcase_intro (fun h7 => ?_) (fun h7 => ?_) <;> conv => whnf
  · repeat ((first | refine bF ?_ | refine bT ?_ | refine dK (by kernel_rfl) ?_ | refine cK rfl ?_ | refine cK (by first | decide | omega) ?_ | refine wK (by omega) (by omega) ?_); conv => whnf)
    refine callX_pure (rdRight_ok e) ?_
    conv => whnf
    repeat ((first | refine bF ?_ | refine bT ?_ | refine dK (by kernel_rfl) ?_ | refine cK rfl ?_ | refine cK (by first | decide | omega) ?_ | refine wK (by omega) (by omega) ?_); conv => whnf)
    refine bcase_intro (fun h8 => ?_) (fun h8 => ?_) <;> conv => whnf
    · have hR : DR e := drB_t.1 h8
      repeat ((first | refine bF ?_ | refine bT ?_ | refine dK (by kernel_rfl) ?_ | refine cK rfl ?_ | refine cK (by first | decide | omega) ?_ | refine wK (by omega) (by omega) ?_); conv => whnf)
      refine callX_pure (rsync_ok e hR) ?_
      conv => whnf
      repeat ((first | refine bF ?_ | refine bT ?_ | refine dK (by kernel_rfl) ?_ | refine cK rfl ?_ | refine cK (by first | decide | omega) ?_ | refine wK (by omega) (by omega) ?_); conv => whnf)
      have hs : stepJ e l[k] = ⟨wrS e.sec e.ca, []⟩ := by rw [stepJ, if_pos h7, syncM, if_pos hR]
      exact ⟨(k + 1, ⟨wrS e.sec e.ca, []⟩), ⟨by simp only []; omega, .inl (by simp only []; omega), (en _ hs).symm⟩, by simp only []; omega, (le0 (le_of_cov ⟨rfl, rfl, rfl, rfl, rfl, trivial⟩ ⟨rfl, rfl, trivial⟩ ⟨rfl, rfl, rfl, rfl⟩))⟩
    · have hR : ¬ DR e := drB_f.1 h8
      repeat ((first | refine bF ?_ | refine bT ?_ | refine dK (by kernel_rfl) ?_ | refine cK rfl ?_ | refine cK (by first | decide | omega) ?_ | refine wK (by omega) (by omega) ?_); conv => whnf)
      have hs : stepJ e l[k] = e := by rw [stepJ, if_pos h7, syncM, if_neg hR]
      exact ⟨(k + 1, e), ⟨by simp only []; omega, .inl (by simp only []; omega), (en _ hs).symm⟩, by simp only []; omega, (le0 (le_of_cov ⟨rfl, rfl, rfl, rfl, rfl, trivial⟩ ⟨rfl, rfl, trivial⟩ ⟨rfl, rfl, rfl, rfl⟩))⟩
  have h7' : l[k].1 ≠ true := by rw [h7]; decide
  have bad : ¬ (DR e ∧ okW e.sec.length l[k].2 = true ∧ e.ca.length < 200) → (l.take (k + 1)).foldl stepJ d = e := fun g => en e (step_bad h7' g)
  have m1 : (e.sec.map encB).length = e.sec.length := List.length_map ..
  have m2 : (e.ca.map encW).length = e.ca.length := List.length_map ..
  repeat ((first | refine bF ?_ | refine bT ?_ | refine dK (by kernel_rfl) ?_ | refine cK rfl ?_ | refine cK (by first | decide | omega) ?_ | refine wK (by omega) (by omega) ?_); conv => whnf)
  refine callX_pure (rdRight_ok e) ?_
  conv => whnf
  repeat ((first | refine bF ?_ | refine bT ?_ | refine dK (by kernel_rfl) ?_ | refine cK rfl ?_ | refine cK (by first | decide | omega) ?_ | refine wK (by omega) (by omega) ?_); conv => whnf)
  refine bcase_intro (fun h8 => ?_) (fun h8 => ?_) <;> conv => whnf
  rotate_left
  · repeat ((first | refine bF ?_ | refine bT ?_ | refine dK (by kernel_rfl) ?_ | refine cK rfl ?_ | refine cK (by first | decide | omega) ?_ | refine wK (by omega) (by omega) ?_); conv => whnf)
    exact ⟨(k + 1, e), ⟨by simp only []; omega, .inl (by simp only []; omega), (bad (fun g => drB_f.1 h8 g.1)).symm⟩, by simp only []; omega, (le0 (le_of_cov ⟨rfl, rfl, rfl, rfl, rfl, trivial⟩ ⟨rfl, rfl, trivial⟩ ⟨rfl, rfl, rfl, rfl⟩))⟩
  have hR : DR e := drB_t.1 h8
  repeat ((first | refine bF ?_ | refine bT ?_ | refine dK (by kernel_rfl) ?_ | refine cK rfl ?_ | refine cK (by first | decide | omega) ?_ | refine wK (by omega) (by omega) ?_); conv => whnf)
  refine bcase_p (fun g1 => ?_) (fun g1 => ?_) <;> conv => whnf
  rotate_left
  · repeat ((first | refine bF ?_ | refine bT ?_ | refine dK (by kernel_rfl) ?_ | refine cK rfl ?_ | refine cK (by first | decide | omega) ?_ | refine wK (by omega) (by omega) ?_); conv => whnf)
    exact ⟨(k + 1, e), ⟨by simp only []; omega, .inl (by simp only []; omega), (bad (fun g => g1 (okW_out.1 g.2.1).1)).symm⟩, by simp only []; omega, (le0 (le_of_cov ⟨rfl, rfl, rfl, rfl, rfl, trivial⟩ ⟨rfl, rfl, trivial⟩ ⟨rfl, rfl, rfl, rfl⟩))⟩
  repeat ((first | refine bF ?_ | refine bT ?_ | refine dK (by kernel_rfl) ?_ | refine cK rfl ?_ | refine cK (by first | decide | omega) ?_ | refine wK (by omega) (by omega) ?_); conv => whnf)
  refine bcase_p (fun g2 => ?_) (fun g2 => ?_) <;> conv => whnf
  rotate_left
  · repeat ((first | refine bF ?_ | refine bT ?_ | refine dK (by kernel_rfl) ?_ | refine cK rfl ?_ | refine cK (by first | decide | omega) ?_ | refine wK (by omega) (by omega) ?_); conv => whnf)
    exact ⟨(k + 1, e), ⟨by simp only []; omega, .inl (by simp only []; omega), (bad (fun g => g2 (by rw [m1]; exact (okW_out.1 g.2.1).2.1))).symm⟩, by simp only []; omega, (le0 (le_of_cov ⟨rfl, rfl, rfl, rfl, rfl, trivial⟩ ⟨rfl, rfl, trivial⟩ ⟨rfl, rfl, rfl, rfl⟩))⟩
  repeat ((first | refine bF ?_ | refine bT ?_ | refine dK (by kernel_rfl) ?_ | refine cK rfl ?_ | refine cK (by first | decide | omega) ?_ | refine wK (by omega) (by omega) ?_); conv => whnf)
  refine bcase_p (fun g3 => ?_) (fun g3 => ?_) <;> conv => whnf
  rotate_left
  · repeat ((first | refine bF ?_ | refine bT ?_ | refine dK (by kernel_rfl) ?_ | refine cK rfl ?_ | refine cK (by first | decide | omega) ?_ | refine wK (by omega) (by omega) ?_); conv => whnf)
    exact ⟨(k + 1, e), ⟨by simp only []; omega, .inl (by simp only []; omega), (bad (fun g => g3 (by rw [(okW_out.1 g.2.1).2.2]; rfl))).symm⟩, by simp only []; omega, (le0 (le_of_cov ⟨rfl, rfl, rfl, rfl, rfl, trivial⟩ ⟨rfl, rfl, trivial⟩ ⟨rfl, rfl, rfl, rfl⟩))⟩
  repeat ((first | refine bF ?_ | refine bT ?_ | refine dK (by kernel_rfl) ?_ | refine cK rfl ?_ | refine cK (by first | decide | omega) ?_ | refine wK (by omega) (by omega) ?_); conv => whnf)
  refine bcase_p (fun g4 => ?_) (fun g4 => ?_) <;> conv => whnf
  rotate_left
  · repeat ((first | refine bF ?_ | refine bT ?_ | refine dK (by kernel_rfl) ?_ | refine cK rfl ?_ | refine cK (by first | decide | omega) ?_ | refine wK (by omega) (by omega) ?_); conv => whnf)
    exact ⟨(k + 1, e), ⟨by simp only []; omega, .inl (by simp only []; omega), (bad (fun g => g4 (by rw [m2]; omega))).symm⟩, by simp only []; omega, (le0 (le_of_cov ⟨rfl, rfl, rfl, rfl, rfl, trivial⟩ ⟨rfl, rfl, trivial⟩ ⟨rfl, rfl, rfl, rfl⟩))⟩
  have hok : okW e.sec.length l[k].2 = true := okW_out.2 ⟨g1, by rw [← m1]; exact g2, by omega⟩
  have hs : stepJ e l[k] = ⟨e.sec, e.ca ++ [l[k].2]⟩ := by
    rw [stepJ, if_neg h7', putM, if_pos ⟨hR, hok⟩, if_neg (by omega)]
  repeat ((first | refine bF ?_ | refine bT ?_ | refine dK (by kernel_rfl) ?_ | refine cK rfl ?_ | refine cK (by first | decide | omega) ?_ | refine wK (by omega) (by omega) ?_); conv => whnf)
  refine condK_of (okRows_map (fun _ => rfl) _) ?_
  conv => whnf
  repeat ((first | refine bF ?_ | refine bT ?_ | refine dK (by kernel_rfl) ?_ | refine cK rfl ?_ | refine cK (by first | decide | omega) ?_ | refine wK (by omega) (by omega) ?_); conv => whnf)
  refine roomK_le 1000 1000 (by simp; omega) (by decide) (by decide) (by decide) ?_
  conv => whnf
  repeat ((first | refine bF ?_ | refine bT ?_ | refine dK (by kernel_rfl) ?_ | refine cK rfl ?_ | refine cK (by first | decide | omega) ?_ | refine wK (by omega) (by omega) ?_); conv => whnf)
  refine roomK_le 1000 1000 (by show (e.ca.map encW).length + 1 ≤ 1000; omega) (by decide) (by decide) (by decide) ?_
  conv => whnf
  repeat ((first | refine bF ?_ | refine bT ?_ | refine dK (by kernel_rfl) ?_ | refine cK rfl ?_ | refine cK (by first | decide | omega) ?_ | refine wK (by omega) (by omega) ?_); conv => whnf)
  exact ⟨(k + 1, ⟨e.sec, e.ca ++ [l[k].2]⟩), ⟨by simp only []; omega, .inl (by simp only []; omega), (en _ hs).symm⟩, by simp only []; omega,
    len [.frz 65 ((e.ca ++ [l[k].2]).map encW) 2, .cd 3 1 65 ((e.ca ++ [l[k].2]).map encW) 2] ⟨⟨false, by rw [List.map_append]; rfl⟩, ⟨rfl, rfl, rfl⟩, trivial⟩ (le_of_cov ⟨rfl, rfl, rfl, rfl, rfl, trivial⟩ ⟨rfl, rfl, trivial⟩ ⟨rfl, rfl, rfl, rfl⟩)⟩

end Go.Lk

namespace Go.Lk
open Go Go.Proofs Go.RowKit

/-! ### the document's repair -/
theorem bl_head (p : Nat) : bl (headJ p) = 74 :: UInt8.ofNat p :: List.replicate 14 0 := by
  rw [headJ, bl_app, show bl (bstr [74, (p : Int)]) = _ from bstr_list _, show bl (nulB 14) = _ from nulB_list 14]
  rfl
theorem bl_two {s : ByteArray} (h : s.size = 16) : bl (s.extract 0 2) = [s.data.getD 0 0, s.data.getD 1 0] := by
  rw [bl_extract, getD_bl, getD_bl]
  have h2 : (bl s).length = 16 := by rw [bl_len]; exact h
  generalize bl s = l at h2 ⊢
  match l, h2 with
  | a :: b :: r, _ => rfl
theorem headJ_of {s : ByteArray} (hsz : s.size = 16) (h0 : (s.data.getD 0 0).toNat = 74) (h : s = s.extract 0 2 ++ nulB 14) : s = headJ (s.data.getD 1 0).toNat := by
  refine h.trans ?_
  rw [headJ]
  congr 1
  apply bl_ext
  rw [bl_two hsz, show bl (bstr _) = _ from bstr_list _]
  have e0 : s.data.getD 0 0 = 74 := UInt8.toNat_inj.1 h0
  rw [e0]
  simp
theorem headJ_0 (p : Nat) : ((headJ p).data.getD 0 0).toNat = 74 := by rw [getD_bl, bl_head]; rfl
theorem headJ_1 {p : Nat} (h : p ≤ 16) : ((headJ p).data.getD 1 0).toNat = p := by
  rw [getD_bl, bl_head]
  show (UInt8.ofNat p).toNat = p
  rw [UInt8.toNat_ofNat']; omega
theorem headJ_2 (p : Nat) : headJ p = (headJ p).extract 0 2 ++ nulB 14 := by
  apply bl_ext
  rw [bl_app, bl_extract, bl_head, show bl (nulB 14) = _ from nulB_list 14]
  rfl
theorem headG_of {s : ByteArray} {p : Nat} (hs : s = headJ p) (h16 : p ≤ 16) : ∀ {n k : Nat}, k ≤ p → p < k + n → headG s n k = ((p : Int), true)
  | 0, k, h1, h2 => by omega
  | n + 1, k, h1, h2 => by
    rw [headG]
    split
    · rename_i e
      have : k = p := by
        have e2 : ((headJ k).data.getD 1 0).toNat = ((headJ p).data.getD 1 0).toNat := by rw [e.symm.trans hs]
        rw [headJ_1 (by omega), headJ_1 h16] at e2
        exact e2
      rw [this]
    · rename_i e
      exact headG_of hs h16 (by
        have : k ≠ p := fun q => e (q ▸ hs)
        omega) (by omega)
theorem headM_yes {s : ByteArray} {p : Nat} (hs : s = headJ p) (h1 : 1 ≤ p) (h16 : p ≤ 16) : headM s = ((p : Int), true) := headG_of hs h16 h1 (by omega)
theorem headM_no {s : ByteArray} (h : ∀ p, 1 ≤ p → p ≤ 16 → s ≠ headJ p) : (headM s).2 = false := by
  cases e : (headM s).2 with
  | false => rfl
  | true =>
    obtain ⟨q1, q2, q3⟩ := headG_at (show (headG s 16 1).2 = true from e)
    exact absurd q3 (h _ (by omega) (by omega))
theorem rrepair_ok (d : DS) (hU : Us d) : ACall Tryz.prog 25 [encDS d] (.lst ((repairM d).map encJ)) := by
  have hR := hU.dr
  have hn := hU.n
  have h200 := hR.c1
  obtain ⟨s, hs⟩ : ∃ s, rdS d 0 = s := ⟨_, rfl⟩
  have hsz : s.size = 16 := by rw [← hs]; exact rdS_size hR (by decide) (by omega)
  refine acall_of Tryz.func25 1 rfl (by kernel_rfl) ?_
  conv => whnf
  repeat ((first | refine bF ?_ | refine bT ?_ | refine dK (by kernel_rfl) ?_ | refine cK rfl ?_ | refine cK (by first | decide | omega) ?_ | refine wK (by omega) (by omega) ?_); conv => whnf)
  refine callX_pure (rread_ok d 0 (by omega) (by decide) (by omega)) ?_
  conv => whnf
  repeat ((first | refine bF ?_ | refine bT ?_ | refine dK (by kernel_rfl) ?_ | refine cK rfl ?_ | refine cK (by first | decide | omega) ?_ | refine wK (by omega) (by omega) ?_); conv => whnf)
  rw [hs]
  repeat ((first | refine bF ?_ | refine bT ?_ | refine dK (by kernel_rfl) ?_ | refine cK rfl ?_ | refine cK (by first | decide | omega) ?_ | refine wK (by omega) (by omega) ?_); conv => whnf)
  refine callX_pure (filled_ok ByteArray.empty (by decide)) ?_
  conv => whnf
  repeat ((first | refine bF ?_ | refine bT ?_ | refine dK (by kernel_rfl) ?_ | refine cK rfl ?_ | refine cK (by first | decide | omega) ?_ | refine wK (by omega) (by omega) ?_); conv => whnf)
  rw [show ByteArray.empty ++ nulB (16 - ByteArray.empty.size) = nul16 from nul_0app _]
  refine bcase_p (fun h2 => ?_) (fun h2 => ?_) <;> conv => whnf
  · repeat ((first | refine bF ?_ | refine bT ?_ | refine dK (by kernel_rfl) ?_ | refine cK rfl ?_ | refine cK (by first | decide | omega) ?_ | refine wK (by omega) (by omega) ?_); conv => whnf)
    rw [repairM, if_pos hU, if_pos (hs.trans h2)]
    exact ret_of rfl rfl
  obtain ⟨p, hp⟩ : ∃ p, (s.data.getD 1 0).toNat = p := ⟨_, rfl⟩
  obtain ⟨z, hz⟩ : ∃ z, (s.data.getD 0 0).toNat = z := ⟨_, rfl⟩
  have hp256 : p < 256 := by rw [← hp]; exact UInt8.toNat_lt _
  have hj : ∀ q, q ≤ 16 → s = headJ q → z = 74 ∧ p = q ∧ s = s.extract 0 2 ++ nulB (16 - (s.extract 0 2).size) := fun q h16 e => by
    refine ⟨by rw [← hz, e, headJ_0], by rw [← hp, e, headJ_1 h16], ?_⟩
    rw [ByteArray.size_extract, hsz]
    rw [e]
    exact headJ_2 q
  repeat ((first | refine bF ?_ | refine bT ?_ | refine dK (by kernel_rfl) ?_ | refine cK rfl ?_ | refine cK (by first | decide | omega) ?_ | refine wK (by omega) (by omega) ?_); conv => whnf)
  refine idxK_nat (i := 1) (by omega) ?_
  conv => whnf
  rw [hp]
  refine wrapK_in (w64 (by omega) (by omega)) ?_
  conv => whnf
  repeat ((first | refine bF ?_ | refine bT ?_ | refine dK (by kernel_rfl) ?_ | refine cK rfl ?_ | refine cK (by first | decide | omega) ?_ | refine wK (by omega) (by omega) ?_); conv => whnf)
  refine idxK_nat (i := 0) (by omega) ?_
  conv => whnf
  rw [hz]
  refine bcase_p (fun g1 => ?_) (fun g1 => ?_) <;> conv => whnf
  rotate_left
  · repeat ((first | refine bF ?_ | refine bT ?_ | refine dK (by kernel_rfl) ?_ | refine cK rfl ?_ | refine cK (by first | decide | omega) ?_ | refine wK (by omega) (by omega) ?_); conv => whnf)
    rw [repairM, if_pos hU, if_neg (by rw [hs]; exact h2), fixJ, if_neg (by
      rw [hs, headM_no fun q q1 q16 e => ?_]
      · decide
      · have := (hj q q16 e).1; omega)]
    refine callX_pure (filled_ok ByteArray.empty (by decide)) ?_
    conv => whnf
    repeat ((first | refine bF ?_ | refine bT ?_ | refine dK (by kernel_rfl) ?_ | refine cK rfl ?_ | refine cK (by first | decide | omega) ?_ | refine wK (by omega) (by omega) ?_); conv => whnf)
    rw [show ByteArray.empty ++ nulB (16 - ByteArray.empty.size) = nul16 from nul_0app _]
    refine callX_pure (at_ok 0 nul16) ?_
    conv => whnf
    repeat ((first | refine bF ?_ | refine bT ?_ | refine dK (by kernel_rfl) ?_ | refine cK rfl ?_ | refine cK (by first | decide | omega) ?_ | refine wK (by omega) (by omega) ?_); conv => whnf)
    refine roomK_le 1000 1000 (show (2 : Nat) ≤ 1000 by decide) (by decide) (by decide) (by decide) ?_
    conv => whnf
    exact ret_of rfl rfl
  repeat ((first | refine bF ?_ | refine bT ?_ | refine dK (by kernel_rfl) ?_ | refine cK rfl ?_ | refine cK (by first | decide | omega) ?_ | refine wK (by omega) (by omega) ?_); conv => whnf)
  refine bcase_p (fun g2 => ?_) (fun g2 => ?_) <;> conv => whnf
  rotate_left
  · repeat ((first | refine bF ?_ | refine bT ?_ | refine dK (by kernel_rfl) ?_ | refine cK rfl ?_ | refine cK (by first | decide | omega) ?_ | refine wK (by omega) (by omega) ?_); conv => whnf)
    rw [repairM, if_pos hU, if_neg (by rw [hs]; exact h2), fixJ, if_neg (by
      rw [hs, headM_no fun q q1 q16 e => ?_]
      · decide
      · have := (hj q q16 e).2.1; omega)]
    refine callX_pure (filled_ok ByteArray.empty (by decide)) ?_
    conv => whnf
    repeat ((first | refine bF ?_ | refine bT ?_ | refine dK (by kernel_rfl) ?_ | refine cK rfl ?_ | refine cK (by first | decide | omega) ?_ | refine wK (by omega) (by omega) ?_); conv => whnf)
    rw [show ByteArray.empty ++ nulB (16 - ByteArray.empty.size) = nul16 from nul_0app _]
    refine callX_pure (at_ok 0 nul16) ?_
    conv => whnf
    repeat ((first | refine bF ?_ | refine bT ?_ | refine dK (by kernel_rfl) ?_ | refine cK rfl ?_ | refine cK (by first | decide | omega) ?_ | refine wK (by omega) (by omega) ?_); conv => whnf)
    refine roomK_le 1000 1000 (show (2 : Nat) ≤ 1000 by decide) (by decide) (by decide) (by decide) ?_
    conv => whnf
    exact ret_of rfl rfl
  repeat ((first | refine bF ?_ | refine bT ?_ | refine dK (by kernel_rfl) ?_ | refine cK rfl ?_ | refine cK (by first | decide | omega) ?_ | refine wK (by omega) (by omega) ?_); conv => whnf)
  refine bcase_p (fun g3 => ?_) (fun g3 => ?_) <;> conv => whnf
  rotate_left
  · repeat ((first | refine bF ?_ | refine bT ?_ | refine dK (by kernel_rfl) ?_ | refine cK rfl ?_ | refine cK (by first | decide | omega) ?_ | refine wK (by omega) (by omega) ?_); conv => whnf)
    rw [repairM, if_pos hU, if_neg (by rw [hs]; exact h2), fixJ, if_neg (by
      rw [hs, headM_no fun q q1 q16 e => ?_]
      · decide
      · have := (hj q q16 e).2.1; omega)]
    refine callX_pure (filled_ok ByteArray.empty (by decide)) ?_
    conv => whnf
    repeat ((first | refine bF ?_ | refine bT ?_ | refine dK (by kernel_rfl) ?_ | refine cK rfl ?_ | refine cK (by first | decide | omega) ?_ | refine wK (by omega) (by omega) ?_); conv => whnf)
    rw [show ByteArray.empty ++ nulB (16 - ByteArray.empty.size) = nul16 from nul_0app _]
    refine callX_pure (at_ok 0 nul16) ?_
    conv => whnf
    repeat ((first | refine bF ?_ | refine bT ?_ | refine dK (by kernel_rfl) ?_ | refine cK rfl ?_ | refine cK (by first | decide | omega) ?_ | refine wK (by omega) (by omega) ?_); conv => whnf)
    refine roomK_le 1000 1000 (show (2 : Nat) ≤ 1000 by decide) (by decide) (by decide) (by decide) ?_
    conv => whnf
    exact ret_of rfl rfl
  repeat ((first | refine bF ?_ | refine bT ?_ | refine dK (by kernel_rfl) ?_ | refine cK rfl ?_ | refine cK (by first | decide | omega) ?_ | refine wK (by omega) (by omega) ?_); conv => whnf)
  refine sliceK_hi (h := 2) (by omega) ?_
  conv => whnf
  repeat ((first | refine bF ?_ | refine bT ?_ | refine dK (by kernel_rfl) ?_ | refine cK rfl ?_ | refine cK (by first | decide | omega) ?_ | refine wK (by omega) (by omega) ?_); conv => whnf)
  have hsz2 : (s.extract 0 2).size = 2 := by rw [ByteArray.size_extract, hsz]; rfl
  refine callX_pure (filled_ok (s.extract 0 2) (by omega)) ?_
  conv => whnf
  repeat ((first | refine bF ?_ | refine bT ?_ | refine dK (by kernel_rfl) ?_ | refine cK rfl ?_ | refine cK (by first | decide | omega) ?_ | refine wK (by omega) (by omega) ?_); conv => whnf)
  refine bcase_p (fun g4 => ?_) (fun g4 => ?_) <;> conv => whnf
  rotate_left
  · repeat ((first | refine bF ?_ | refine bT ?_ | refine dK (by kernel_rfl) ?_ | refine cK rfl ?_ | refine cK (by first | decide | omega) ?_ | refine wK (by omega) (by omega) ?_); conv => whnf)
    rw [repairM, if_pos hU, if_neg (by rw [hs]; exact h2), fixJ, if_neg (by
      rw [hs, headM_no fun q q1 q16 e => ?_]
      · decide
      · exact g4 (hj q q16 e).2.2)]
    refine callX_pure (filled_ok ByteArray.empty (by decide)) ?_
    conv => whnf
    repeat ((first | refine bF ?_ | refine bT ?_ | refine dK (by kernel_rfl) ?_ | refine cK rfl ?_ | refine cK (by first | decide | omega) ?_ | refine wK (by omega) (by omega) ?_); conv => whnf)
    rw [show ByteArray.empty ++ nulB (16 - ByteArray.empty.size) = nul16 from nul_0app _]
    refine callX_pure (at_ok 0 nul16) ?_
    conv => whnf
    repeat ((first | refine bF ?_ | refine bT ?_ | refine dK (by kernel_rfl) ?_ | refine cK rfl ?_ | refine cK (by first | decide | omega) ?_ | refine wK (by omega) (by omega) ?_); conv => whnf)
    refine roomK_le 1000 1000 (show (2 : Nat) ≤ 1000 by decide) (by decide) (by decide) (by decide) ?_
    conv => whnf
    exact ret_of rfl rfl
  have hJ : s = headJ p := by
    rw [hsz2] at g4
    rw [← hp]; exact headJ_of hsz (by omega) g4
  repeat ((first | refine bF ?_ | refine bT ?_ | refine dK (by kernel_rfl) ?_ | refine cK rfl ?_ | refine cK (by first | decide | omega) ?_ | refine wK (by omega) (by omega) ?_); conv => whnf)
  refine callX_pure (rread_ok d 1 (by omega) (by decide) (by omega)) ?_
  conv => whnf
  repeat ((first | refine bF ?_ | refine bT ?_ | refine dK (by kernel_rfl) ?_ | refine cK rfl ?_ | refine cK (by first | decide | omega) ?_ | refine wK (by omega) (by omega) ?_); conv => whnf)
  refine callX_pure (at_ok (2 * (p : Int) + 1) (rdS d 1)) ?_
  conv => whnf
  repeat ((first | refine bF ?_ | refine bT ?_ | refine dK (by kernel_rfl) ?_ | refine cK rfl ?_ | refine cK (by first | decide | omega) ?_ | refine wK (by omega) (by omega) ?_); conv => whnf)
  refine callX_pure (rread_ok d 2 (by omega) (by decide) (by omega)) ?_
  conv => whnf
  repeat ((first | refine bF ?_ | refine bT ?_ | refine dK (by kernel_rfl) ?_ | refine cK rfl ?_ | refine cK (by first | decide | omega) ?_ | refine wK (by omega) (by omega) ?_); conv => whnf)
  refine callX_pure (at_ok (2 * (p : Int) + 2) (rdS d 2)) ?_
  conv => whnf
  repeat ((first | refine bF ?_ | refine bT ?_ | refine dK (by kernel_rfl) ?_ | refine cK rfl ?_ | refine cK (by first | decide | omega) ?_ | refine wK (by omega) (by omega) ?_); conv => whnf)
  refine roomK_le 1000 1000 (show (3 : Nat) ≤ 1000 by decide) (by decide) (by decide) (by decide) ?_
  conv => whnf
  repeat ((first | refine bF ?_ | refine bT ?_ | refine dK (by kernel_rfl) ?_ | refine cK rfl ?_ | refine cK (by first | decide | omega) ?_ | refine wK (by omega) (by omega) ?_); conv => whnf)
  refine callX_pure (filled_ok ByteArray.empty (by decide)) ?_
  conv => whnf
  repeat ((first | refine bF ?_ | refine bT ?_ | refine dK (by kernel_rfl) ?_ | refine cK rfl ?_ | refine cK (by first | decide | omega) ?_ | refine wK (by omega) (by omega) ?_); conv => whnf)
  rw [show ByteArray.empty ++ nulB (16 - ByteArray.empty.size) = nul16 from nul_0app _]
  refine callX_pure (at_ok 0 nul16) ?_
  conv => whnf
  repeat ((first | refine bF ?_ | refine bT ?_ | refine dK (by kernel_rfl) ?_ | refine cK rfl ?_ | refine cK (by first | decide | omega) ?_ | refine wK (by omega) (by omega) ?_); conv => whnf)
  refine roomK_le 1000 1000 (show (5 : Nat) ≤ 1000 by decide) (by decide) (by decide) (by decide) ?_
  conv => whnf
  rw [repairM, if_pos hU, if_neg (by rw [hs]; exact h2), fixJ, hs, headM_yes hJ (by omega) (by omega), if_pos rfl]
  refine ret_of rfl ?_
  rw [Int.add_assoc (2 * (p : Int)) 1 1]
  rfl
end Go.Lk

namespace Go.Lk
open Go Go.Proofs Go.RowKit

/-! ### a pool of some pages -/
abbrev Nst := List ByteArray × (Nat → Pg)
open Classical in
noncomputable def newStep (st : Nst) (x : Pg) : Nst := if pgR x = true ∧ x.2.1 ≤ 1073741824 then (putD st.1 x, ud st.2 x.1.toNat x) else st
def new0 : Nst := (List.replicate 35 nul16, fun _ => zP)
noncomputable def newG (l : List Pg) : Nst := (l.take 16).foldl newStep new0
structure NI (st : Nst) : Prop where
  rest : Rest st.1
  len : st.1.length = 35
  z : st.1[0]?.getD ByteArray.empty = nul16
  on : OnD st.1 [] st.2 1073741824
theorem NI.new : NI new0 := ⟨new_rest, List.length_replicate .., z_new, OnD.new (by decide)⟩
theorem NI.put {st : Nst} (h : NI st) {x : Pg} (hx : pgR x = true) (hv : x.2.1 ≤ 1073741824) : NI (putD st.1 x, ud st.2 x.1.toNat x) := by
  obtain ⟨_, _, r1, r2⟩ := setS_rest h.rest hx
  obtain ⟨p, hp, p1, p16⟩ := pg_nat hx
  refine ⟨r1, r2.trans h.len, setD_0 h.rest, ⟨fun q q1 q16 _ => ?_, fun q q1 q16 => ?_, fun q => ?_⟩⟩
  · rw [get_put h.rest hx q1 q16]
    by_cases e : x.1 = (q : Int)
    · rw [if_pos e, show x.1.toNat = q by omega]
      simp only [ud_at]
      rw [if_neg (by omega)]
    · rw [if_neg e]
      simp only []
      rw [ud_ne _ _ (by omega)]
      exact h.on.dsk q q1 q16 (fun _ h => by cases h)
  · by_cases e : x.1 = (q : Int)
    · right
      rw [show x.1.toNat = q by omega]
      simp only [ud_at]
      exact ⟨hx, e⟩
    · simp only []
      rw [ud_ne _ _ (by omega)]
      exact h.on.okp q q1 q16
  · by_cases e : q = x.1.toNat
    · subst e
      simp only [ud_at]; exact hv
    · simp only []
      rw [ud_ne _ _ e]; exact h.on.vb q
theorem NI.step {st : Nst} (h : NI st) (x : Pg) : NI (newStep st x) := by
  rw [newStep]
  split
  · rename_i g; exact h.put g.1 g.2
  · exact h
theorem NI.fold : ∀ (l : List Pg) {st : Nst}, NI st → NI (l.foldl newStep st)
  | [], _, h => h
  | x :: r, _, h => NI.fold r (h.step x)
theorem NI.ofG (l : List Pg) : NI (newG l) := NI.fold _ NI.new
theorem NI.us {st : Nst} (h : NI st) : Us ⟨st.1, []⟩ := h.rest.us
/-- what the document's steps make of a disk at rest -/
theorem stepsR_run {st : Nst} (h : NI st) {x : Pg} (hx : pgR x = true) : stepsR ⟨st.1, []⟩ x = planJ x.1.toNat (putB x) ∧ runM ⟨st.1, []⟩ (planJ x.1.toNat (putB x)) 99 = ⟨putD st.1 x, []⟩ := by
  obtain ⟨p, hp, p1, p16⟩ := pg_nat hx
  have hr := pgR_out.1 hx
  refine ⟨?_, ?_⟩
  · rw [stepsR, if_neg (fun g => g ⟨h.us, by omega, by omega⟩), if_neg (fun g => by omega), if_pos hx]
  · rw [runM]
    show ((planJ x.1.toNat (putB x)).take 99).foldl stepJ _ = _
    rw [List.take_of_length_le (show 10 ≤ 99 by decide), plan_runs h.rest (by omega) (by omega) (putB_size (pgR_out.1 hx).2.2.2.2)]
    rfl
theorem stepsR_no {st : Nst} (h : NI st) {x : Pg} (hx : pgR x = false) (hv : x.2.1 ≠ 0) : stepsR ⟨st.1, []⟩ x = [] := by
  rw [stepsR]
  split
  · rfl
  · rw [if_neg (fun g => hv g.1), if_neg (by rw [hx]; decide)]
theorem new17_ok (many : Int) (m0 : 0 ≤ many) (m1 : many ≤ 255) (pages : List Pg) (n : Nat) (hn : 1 + many % 8 = (n : Int)) : ACall Tryz.prog 17 [.int .u8 many, .lst (pages.map encP)]
    (.tup [encPS ⟨newFS n, ⟨(newG pages).1, []⟩, 0⟩, .agg (mL (newG pages).2 (fun _ => 0) n), .bool true]) := by
  have hm : (pages.map encP).length = pages.length := List.length_map ..
  refine acall_of Tryz.func17 2 rfl (by kernel_rfl) ?_
  conv => whnf
  repeat ((first | refine bF ?_ | refine bT ?_ | refine dK (by kernel_rfl) ?_ | refine cK rfl ?_ | refine cK (by first | decide | omega) ?_ | refine wK (by omega) (by omega) ?_); conv => whnf)
  refine callX_pure dnew_ok ?_
  conv => whnf
  repeat ((first | refine bF ?_ | refine bT ?_ | refine dK (by kernel_rfl) ?_ | refine cK rfl ?_ | refine cK (by first | decide | omega) ?_ | refine wK (by omega) (by omega) ?_); conv => whnf)
  refine divK_rem (by decide) m0 ?_
  conv => whnf
  refine wrapK_in (w64 (by omega) (by omega)) ?_
  conv => whnf
  refine wrapK_in (w64 (by omega) (by omega)) ?_
  conv => whnf
  repeat ((first | refine bF ?_ | refine bT ?_ | refine dK (by kernel_rfl) ?_ | refine cK rfl ?_ | refine cK (by first | decide | omega) ?_ | refine wK (by omega) (by omega) ?_); conv => whnf)
  rw [hn]
  refine aloop (ι := Nat × Nst) (fun k => [(1, .d (.lst (pages.map encP))), (4, .ptr 4 0 0), (5, .ptr 5 0 0), (7, .ptr 7 0 0), (9, .d (.int .i64 n)), (10, .ptr 10 0 0), (11, .d (.int .i64 k.1))])
    (fun k => [(4, .box ((T 40).zero.map zA) false), (5, .box ((T 46).zero.map zA) false), (7, .box [.d (.lst (k.2.1.map encB)), .d (.lst [])] false), (10, .box ((mL k.2.2 (fun _ => 0) n).map AV.d) false)])
    (fun k => k.1 ≤ pages.length ∧ k.1 ≤ 16 ∧ k.2 = (pages.take k.1).foldl newStep new0 ∧ NI k.2) (fun k => 16 - k.1) (0, new0) ⟨by omega, by decide, rfl, NI.new⟩ (le0 (le_of_cov ⟨rfl, rfl, rfl, rfl, rfl, rfl, rfl, trivial⟩ ⟨rfl, rfl, rfl, rfl, trivial⟩ ⟨rfl, rfl, rfl, rfl⟩)) ?_
  rintro ⟨k, st⟩ ⟨hk, hk16, hst, hI⟩
  simp only at hk hk16 hst hI ⊢
  have hfin : (¬ k < pages.length) ∨ (¬ k < 16) → st = newG pages := fun h => by
    rw [hst, newG]
    by_cases e : k = 16
    · subst e; rfl
    · have : k = pages.length := by omega
      rw [List.take_of_length_le (by omega), List.take_of_length_le (by omega)]
  have hop : openM ⟨st.1, []⟩ n = (⟨newFS n, ⟨st.1, []⟩, 0⟩, 0) := by
    have := open_rest hI.rest hI.z (n := n) (by omega) (by omega)
    rw [Int.toNat_natCast] at this; exact this
  have hfl : (newFS n).pg.length = n := List.length_replicate ..
  conv => whnf
  refine bcase_p (fun h5 => ?_) (fun h5 => ?_) <;> conv => whnf
  rotate_left
  · repeat ((first | refine bF ?_ | refine bT ?_ | refine dK (by kernel_rfl) ?_ | refine cK rfl ?_ | refine cK (by first | decide | omega) ?_ | refine wK (by omega) (by omega) ?_); conv => whnf)
    refine callX_pure (open_ok ⟨st.1, []⟩ n) ?_
    conv => whnf
    repeat ((first | refine bF ?_ | refine bT ?_ | refine dK (by kernel_rfl) ?_ | refine cK rfl ?_ | refine cK (by first | decide | omega) ?_ | refine wK (by omega) (by omega) ?_); conv => whnf)
    rw [hop]
    repeat ((first | refine bF ?_ | refine bT ?_ | refine dK (by kernel_rfl) ?_ | refine cK rfl ?_ | refine cK (by first | decide | omega) ?_ | refine wK (by omega) (by omega) ?_); conv => whnf)
    have e := hfin (by omega)
    rw [← e]
    refine ret_of rfl ?_
    have hb : decide ((((newFS n).pg.map encP).length : Int) = (n : Int)) = true := decide_eq_true (by rw [List.length_map, hfl])
    show D.tup [_, _, D.bool (decide ((((newFS n).pg.map encP).length : Int) = (n : Int)))] = _
    rw [hb]
    rfl
  refine bcase_p (fun h6 => ?_) (fun h6 => ?_) <;> conv => whnf
  rotate_left
  · repeat ((first | refine bF ?_ | refine bT ?_ | refine dK (by kernel_rfl) ?_ | refine cK rfl ?_ | refine cK (by first | decide | omega) ?_ | refine wK (by omega) (by omega) ?_); conv => whnf)
    refine callX_pure (open_ok ⟨st.1, []⟩ n) ?_
    conv => whnf
    repeat ((first | refine bF ?_ | refine bT ?_ | refine dK (by kernel_rfl) ?_ | refine cK rfl ?_ | refine cK (by first | decide | omega) ?_ | refine wK (by omega) (by omega) ?_); conv => whnf)
    rw [hop]
    repeat ((first | refine bF ?_ | refine bT ?_ | refine dK (by kernel_rfl) ?_ | refine cK rfl ?_ | refine cK (by first | decide | omega) ?_ | refine wK (by omega) (by omega) ?_); conv => whnf)
    have e := hfin (by omega)
    rw [← e]
    refine ret_of rfl ?_
    have hb : decide ((((newFS n).pg.map encP).length : Int) = (n : Int)) = true := decide_eq_true (by rw [List.length_map, hfl])
    show D.tup [_, _, D.bool (decide ((((newFS n).pg.map encP).length : Int) = (n : Int)))] = _
    rw [hb]
    rfl
  have hk2 : k < pages.length := by omega
  have en : (pages.take (k + 1)).foldl newStep new0 = newStep st pages[k] := by rw [take_snoc hk2, List.foldl_append, ← hst]; rfl
  repeat ((first | refine bF ?_ | refine bT ?_ | refine dK (by kernel_rfl) ?_ | refine cK rfl ?_ | refine cK (by first | decide | omega) ?_ | refine wK (by omega) (by omega) ?_); conv => whnf)
  refine idxK_nat (by omega) ?_
  conv => whnf
  refine getRow_of (x := encP pages[k]) (by simp [hk2]) ?_
  conv => whnf
  repeat ((first | refine bF ?_ | refine bT ?_ | refine dK (by kernel_rfl) ?_ | refine cK rfl ?_ | refine cK (by first | decide | omega) ?_ | refine wK (by omega) (by omega) ?_); conv => whnf)
  refine callX_pure (rsteps_ok ⟨st.1, []⟩ pages[k]) ?_
  conv => whnf
  repeat ((first | refine bF ?_ | refine bT ?_ | refine dK (by kernel_rfl) ?_ | refine cK rfl ?_ | refine cK (by first | decide | omega) ?_ | refine wK (by omega) (by omega) ?_); conv => whnf)
  obtain ⟨x, hx⟩ : ∃ x, pages[k] = x := ⟨_, rfl⟩
  have hxs : (pages.map encP)[k]? = some (encP x) := by simp [hk2, hx]
  rw [hx] at en ⊢
  have skip : ¬ (pgR x = true ∧ x.2.1 ≤ 1073741824) → (pages.take (k + 1)).foldl newStep new0 = st := fun g => by rw [en, newStep, if_neg g]
  have hj : ((stepsR ⟨st.1, []⟩ x).map encJ).length = (stepsR ⟨st.1, []⟩ x).length := List.length_map ..
  refine bcase_p (fun h7 => ?_) (fun h7 => ?_) <;> conv => whnf
  · repeat ((first | refine bF ?_ | refine bT ?_ | refine dK (by kernel_rfl) ?_ | refine cK rfl ?_ | refine cK (by first | decide | omega) ?_ | refine wK (by omega) (by omega) ?_); conv => whnf)
    exact ⟨(k + 1, st), ⟨by simp only []; omega, by simp only []; omega, (skip fun g => by
      rw [hj, (stepsR_run hI g.1).1] at h7
      exact absurd h7 (show ¬ ((10 : Nat) : Int) = 0 by decide)).symm, hI⟩, by simp only []; omega, (le0 (le_of_cov ⟨rfl, rfl, rfl, rfl, rfl, rfl, rfl, trivial⟩ ⟨rfl, rfl, rfl, rfl, trivial⟩ ⟨rfl, rfl, rfl, rfl⟩))⟩
  refine idxK_nat (by omega) ?_
  conv => whnf
  refine getRow_of hxs ?_
  conv => whnf
  repeat ((first | refine bF ?_ | refine bT ?_ | refine dK (by kernel_rfl) ?_ | refine cK rfl ?_ | refine cK (by first | decide | omega) ?_ | refine wK (by omega) (by omega) ?_); conv => whnf)
  refine bcase_p (fun h8 => ?_) (fun h8 => ?_) <;> conv => whnf
  · repeat ((first | refine bF ?_ | refine bT ?_ | refine dK (by kernel_rfl) ?_ | refine cK rfl ?_ | refine cK (by first | decide | omega) ?_ | refine wK (by omega) (by omega) ?_); conv => whnf)
    exact ⟨(k + 1, st), ⟨by simp only []; omega, by simp only []; omega, (skip fun g => by have := (pgR_out.1 g.1).2.2.1; omega).symm, hI⟩, by simp only []; omega, (le0 (le_of_cov ⟨rfl, rfl, rfl, rfl, rfl, rfl, rfl, trivial⟩ ⟨rfl, rfl, rfl, rfl, trivial⟩ ⟨rfl, rfl, rfl, rfl⟩))⟩
  refine idxK_nat (by omega) ?_
  conv => whnf
  refine getRow_of hxs ?_
  conv => whnf
  repeat ((first | refine bF ?_ | refine bT ?_ | refine dK (by kernel_rfl) ?_ | refine cK rfl ?_ | refine cK (by first | decide | omega) ?_ | refine wK (by omega) (by omega) ?_); conv => whnf)
  refine bcase_p (fun h9 => ?_) (fun h9 => ?_) <;> conv => whnf
  · repeat ((first | refine bF ?_ | refine bT ?_ | refine dK (by kernel_rfl) ?_ | refine cK rfl ?_ | refine cK (by first | decide | omega) ?_ | refine wK (by omega) (by omega) ?_); conv => whnf)
    exact ⟨(k + 1, st), ⟨by simp only []; omega, by simp only []; omega, (skip fun g => by omega).symm, hI⟩, by simp only []; omega, (le0 (le_of_cov ⟨rfl, rfl, rfl, rfl, rfl, rfl, rfl, trivial⟩ ⟨rfl, rfl, rfl, rfl, trivial⟩ ⟨rfl, rfl, rfl, rfl⟩))⟩
  have hR : pgR x = true := by
    cases e : pgR x with
    | true => rfl
    | false =>
      rw [hj, stepsR_no hI e h8] at h7
      exact absurd rfl h7
  obtain ⟨r1, r2⟩ := stepsR_run hI hR
  rw [r1]
  repeat ((first | refine bF ?_ | refine bT ?_ | refine dK (by kernel_rfl) ?_ | refine cK rfl ?_ | refine cK (by first | decide | omega) ?_ | refine wK (by omega) (by omega) ?_); conv => whnf)
  refine callX_pure (rrun_ok ⟨st.1, []⟩ (planJ x.1.toNat (putB x)) 99 (show (10 : Nat) ≤ 1000000 by decide)) ?_
  conv => whnf
  repeat ((first | refine bF ?_ | refine bT ?_ | refine dK (by kernel_rfl) ?_ | refine cK rfl ?_ | refine cK (by first | decide | omega) ?_ | refine wK (by omega) (by omega) ?_); conv => whnf)
  rw [r2]
  repeat ((first | refine bF ?_ | refine bT ?_ | refine dK (by kernel_rfl) ?_ | refine cK rfl ?_ | refine cK (by first | decide | omega) ?_ | refine wK (by omega) (by omega) ?_); conv => whnf)
  obtain ⟨q, hq, q1, q16⟩ := pg_nat hR
  have hI2 := hI.put hR (by omega)
  have en2 := en
  rw [newStep, if_pos ⟨hR, by omega⟩] at en2
  have hlen : (mL st.2 (fun _ => 0) n).length = 69 := rfl
  refine idxK_nat (by omega) ?_
  conv => whnf
  refine getRow_of hxs ?_
  conv => whnf
  repeat ((first | refine bF ?_ | refine bT ?_ | refine dK (by kernel_rfl) ?_ | refine cK rfl ?_ | refine cK (by first | decide | omega) ?_ | refine wK (by omega) (by omega) ?_); conv => whnf)
  refine idxK_nat (by omega) ?_
  conv => whnf
  refine getRow_of hxs ?_
  conv => whnf
  repeat ((first | refine bF ?_ | refine bT ?_ | refine dK (by kernel_rfl) ?_ | refine cK rfl ?_ | refine cK (by first | decide | omega) ?_ | refine wK (by omega) (by omega) ?_); conv => whnf)
  refine idxK_int (by omega) (by omega) ?_
  conv => whnf
  try (refine condK_of rfl ?_)
  refine (store_at (l := mL st.2 (fun _ => 0) n) (l2 := encP x) (l3 := mL (ud st.2 x.1.toNat x) (fun _ => 0) n) (by first | rfl | simp only [killC_d]) rfl (by first | omega | (simp only [szs]; omega)) (by first | omega | (simp only [szs]; omega)) rfl (ML.setP (by simp only [szs]; omega) (by omega) _) ?_)
  conv => whnf
  repeat ((first | refine bF ?_ | refine bT ?_ | refine dK (by kernel_rfl) ?_ | refine cK rfl ?_ | refine cK (by first | decide | omega) ?_ | refine wK (by omega) (by omega) ?_); conv => whnf)
  exact ⟨(k + 1, (putD st.1 x, ud st.2 x.1.toNat x)), ⟨by simp only []; omega, by simp only []; omega, en2.symm, hI2⟩, by simp only []; omega, (le0 (le_of_cov ⟨rfl, rfl, rfl, rfl, rfl, rfl, rfl, trivial⟩ ⟨rfl, rfl, rfl, rfl, trivial⟩ ⟨rfl, rfl, rfl, rfl⟩))⟩
end Go.Lk

namespace Go.Lk
open Go Go.Proofs Go.RowKit

theorem fmRight_ok {f : FX} (h : FM f) : ACall Tryz.prog 28 [encFS f] (.bool true) := by
  have h1 := fright_ok f h.tl h.dl
  rw [frightB_t.2 (fm_iff.2 h)] at h1; exact h1
def smallB (l : List PAct) : Bool := (l.take 80).all fun a => decide (a.2.2.size ≤ 100)
theorem small_ok (l : List PAct) : ACall Tryz.prog 15 [.lst (l.map encPA)] (.bool (smallB l)) := by
  have hm : (l.map encPA).length = l.length := List.length_map ..
  refine acall_of Tryz.func15 1 rfl (by kernel_rfl) ?_
  conv => whnf
  repeat ((first | refine bF ?_ | refine bT ?_ | refine dK (by kernel_rfl) ?_ | refine cK rfl ?_ | refine cK (by first | decide | omega) ?_ | refine wK (by omega) (by omega) ?_); conv => whnf)
  refine aloop (ι := Nat) (fun k => [(0, .d (.lst (l.map encPA))), (3, .d (.int .i64 k))]) (fun _ => [])
    (fun k => k ≤ l.length ∧ k ≤ 80 ∧ (l.take k).all (fun a => decide (a.2.2.size ≤ 100)) = true) (fun k => 80 - k) 0 ⟨by omega, by decide, rfl⟩ (le0 (le_of_cov ⟨rfl, rfl, trivial⟩ trivial ⟨rfl, rfl, rfl, rfl⟩)) ?_
  rintro k ⟨hk, hk80, hall⟩
  have hfin : (¬ k < l.length) ∨ (¬ k < 80) → smallB l = true := fun h => by
    rw [smallB]
    by_cases e : k = 80
    · subst e; exact hall
    · rw [List.take_of_length_le (by omega)]
      rw [List.take_of_length_le (by omega)] at hall
      exact hall
  conv => whnf
  refine bcase_p (fun h5 => ?_) (fun h5 => ?_) <;> conv => whnf
  rotate_left
  · repeat ((first | refine bF ?_ | refine bT ?_ | refine dK (by kernel_rfl) ?_ | refine cK rfl ?_ | refine cK (by first | decide | omega) ?_ | refine wK (by omega) (by omega) ?_); conv => whnf)
    rw [hfin (by omega)]
    exact ret_of rfl rfl
  refine bcase_p (fun h6 => ?_) (fun h6 => ?_) <;> conv => whnf
  rotate_left
  · repeat ((first | refine bF ?_ | refine bT ?_ | refine dK (by kernel_rfl) ?_ | refine cK rfl ?_ | refine cK (by first | decide | omega) ?_ | refine wK (by omega) (by omega) ?_); conv => whnf)
    rw [hfin (by omega)]
    exact ret_of rfl rfl
  have hk2 : k < l.length := by omega
  repeat ((first | refine bF ?_ | refine bT ?_ | refine dK (by kernel_rfl) ?_ | refine cK rfl ?_ | refine cK (by first | decide | omega) ?_ | refine wK (by omega) (by omega) ?_); conv => whnf)
  refine idxK_nat (by omega) ?_
  conv => whnf
  refine getRow_of (x := encPA l[k]) (by simp [hk2]) ?_
  conv => whnf
  repeat ((first | refine bF ?_ | refine bT ?_ | refine dK (by kernel_rfl) ?_ | refine cK rfl ?_ | refine cK (by first | decide | omega) ?_ | refine wK (by omega) (by omega) ?_); conv => whnf)
  refine bcase_p (fun h7 => ?_) (fun h7 => ?_) <;> conv => whnf
  · repeat ((first | refine bF ?_ | refine bT ?_ | refine dK (by kernel_rfl) ?_ | refine cK rfl ?_ | refine cK (by first | decide | omega) ?_ | refine wK (by omega) (by omega) ?_); conv => whnf)
    have : smallB l = false := by
      rw [smallB, Bool.eq_false_iff]
      intro g
      rw [List.all_eq_true] at g
      have := g l[k] (List.mem_take_iff_getElem.2 ⟨k, by omega, rfl⟩)
      have h8 : l[k].2.2.size ≤ 100 := by simpa using this
      have h7 : (100 : Int) < (l[k].2.2.size : Nat) := h7
      omega
    rw [this]
    exact ret_of rfl rfl
  · repeat ((first | refine bF ?_ | refine bT ?_ | refine dK (by kernel_rfl) ?_ | refine cK rfl ?_ | refine cK (by first | decide | omega) ?_ | refine wK (by omega) (by omega) ?_); conv => whnf)
    exact ⟨k + 1, ⟨by omega, by omega, by
      rw [take_snoc hk2, List.all_append, hall]
      have h7 : ¬ (100 : Int) < (l[k].2.2.size : Nat) := h7
      simp; omega⟩, by omega, (le0 (le_of_cov ⟨rfl, rfl, trivial⟩ trivial ⟨rfl, rfl, rfl, rfl⟩))⟩
theorem Inv.tick {p P W v u} (h : Inv p P W v u) {n : Int} (h0 : p.now ≤ n) (h1 : n ≤ 2147483647) : Inv ⟨p.f, p.d, n⟩ P W v u :=
  ⟨⟨h.pj.fm, h.pj.rest, h.pj.ca, h.pj.z0, by have := h.pj.n0; show 0 ≤ n; omega, h1, fun x hx => by have := h.pj.dt x hx; show x.2 ≤ n; omega⟩, h.pins, h.at_, h.on, h.ub⟩
theorem Inv.vs {p P W v u} (h : Inv p P W v u) (q : Nat) (q1 : 1 ≤ q) (q16 : q ≤ 16) : 0 ≤ (P q).2.1 ∧ (P q).2.1 ≤ 2147483647 := by
  rcases h.on.okp q q1 q16 with e | ⟨e, _⟩
  · rw [e]; exact ⟨by decide, by decide⟩
  · have := pgR_out.1 e; omega
theorem Inv.ws {p P W v u} (h : Inv p P W v u) (q : Nat) (q1 : 1 ≤ q) (q16 : q ≤ 16) : 0 ≤ W q ∧ W q ≤ 2147483647 := by
  rcases h.pins q q1 q16 with ⟨i, hi, e1, e2⟩ | ⟨_, e⟩
  · have := frOk_out.1 (h.pj.fm.ck.all i hi)
    omega
  · omega
/-- one act: what the pool does, and what the map tells -/
theorem act_facts {p P W v u} (h : Inv p P W v u) (hv1 : 1 ≤ v) (hv : v < 2147483647) (hu0 : 0 ≤ u) (hu : u < 2147483647) (a : PAct) {n : Nat} (hl : p.f.fr.length = n) :
    ∃ q P' W' x l e, poolDo p a = (q, x, l, e) ∧ Inv q P' W' (v + 1) (u + 1) ∧ q.now = p.now ∧ q.f.fr.length = n ∧ runL p.d l = q.d ∧ l.length ≤ 170 ∧ (e ≠ 0 → l = []) ∧ docM P W n a = (P', W', x, e) ∧
      ACall Tryz.prog 18 [encPS p, .agg (encPA a)] (encR4 (q, x, l, e)) ∧ ACall Tryz.prog 19 [.agg (mL P W n), .int .i64 a.1, .int .i64 a.2.1, .str a.2.2] (.tup [.agg (mL P' W' n), .agg (encP x), .int .i64 e]) := by
  have d := do_did h hv1 hv hu0 hu a hl
  obtain ⟨P', W', x, e, hdoc⟩ : ∃ P' W' x e, docM P W n a = (P', W', x, e) := ⟨_, _, _, _, rfl⟩
  rw [hdoc] at d
  obtain ⟨q, l, e1, iq, qn, qlen, run, few, none⟩ := d.eq
  have h1 := poolDo_ok p a h.pj.fm h.pj.n1
  rw [e1] at h1
  have h2 := rdo_ok P W n a h.vs h.ws
  rw [DocOut, hdoc] at h2
  exact ⟨q, P', W', x, l, e, e1, iq, qn, qlen.trans hl, run, few, none, hdoc, h1, h2⟩
/-- how it begins -/
theorem start_inv (pages : List Pg) {n : Nat} (h1 : 1 ≤ n) (h8 : n ≤ 8) : Inv ⟨newFS n, ⟨(newG pages).1, []⟩, 0⟩ (newG pages).2 (fun _ => 0) 1073741824 0 :=
  have h := NI.ofG pages
  Inv.new h1 h8 h.rest h.z h.on (by decide)
theorem tickP_3 {p : PS} {n : Int} (h : n ≤ 2147483647) (h2 : p.now + 3 = n) : tickP p 3 = ⟨p.f, p.d, n⟩ := by
  rw [tickP, if_neg (by decide), if_neg (by omega), h2]
end Go.Lk

namespace Go.Lk
open Go Go.Proofs Go.RowKit

theorem kids : Kids Tryz.prog (· < Tryz.prog.types.size) := kids_rows (by kernel_rfl) (by kernel_rfl)
theorem sizes : ∀ t e, t < Tryz.prog.types.size → Tryz.prog.underlying t = some (.slice e) → 0 < Tryz.prog.cellsOf e := sliceSize_out (by kernel_rfl)
theorem own : ownKnob Tryz.prog.godebug = none := by kernel_rfl

theorem fit_pg {m : Nat} {ds : List D} (h : Fit T m 42 ds) : ∃ x : Pg, ds = encP x ∧ True := by
  obtain ⟨k, a, r, rfl, ha, b, r2, rfl, hb, c, r3, rfl, hc, rfl⟩ := fit_struct (fs := [(0, 3), (1, 3), (2, 9)]) rfl h
  obtain ⟨x, rfl, _⟩ := fit_int (k := .i64) rfl ha
  obtain ⟨y, rfl, _⟩ := fit_int (k := .i64) rfl hb
  obtain ⟨z, rfl, _⟩ := fit_str rfl hc
  exact ⟨(x, y, z), rfl, trivial⟩
theorem fit_act {m : Nat} {ds : List D} (h : Fit T m 54 ds) : ∃ x : PAct, ds = encPA x ∧ True := by
  obtain ⟨k, a, r, rfl, ha, b, r2, rfl, hb, c, r3, rfl, hc, rfl⟩ := fit_struct (fs := [(0, 3), (1, 3), (2, 9)]) rfl h
  obtain ⟨x, rfl, _⟩ := fit_int (k := .i64) rfl ha
  obtain ⟨y, rfl, _⟩ := fit_int (k := .i64) rfl hb
  obtain ⟨z, rfl, _⟩ := fit_str rfl hc
  exact ⟨(x, y, z), rfl, trivial⟩
theorem fit_bytes {m : Nat} {ds : List D} (h : Fit T m 9 ds) : ∃ s : ByteArray, ds = encB s ∧ True := by
  obtain ⟨z, rfl, _⟩ := fit_str rfl h
  exact ⟨z, rfl, trivial⟩
theorem fit_wt {m : Nat} {ds : List D} (h : Fit T m 117 ds) : ∃ w : Wt, ds = encW w ∧ True := by
  obtain ⟨k, a, r, rfl, ha, b, r2, rfl, hb, rfl⟩ := fit_struct (fs := [(0, 3), (1, 9)]) rfl h
  obtain ⟨x, rfl, _⟩ := fit_int (k := .i64) rfl ha
  obtain ⟨z, rfl, _⟩ := fit_str rfl hb
  exact ⟨(x, z), rfl, trivial⟩
theorem pages_arg {n : Nat} {d : D} (h : FitV T n 31 d) : ∃ l : List Pg, d = .lst (l.map encP) := by
  obtain ⟨l, rfl, _, _⟩ := fitV_rows (f := encP) (Q := fun _ => True) (e := 42) rfl h fun m x h => fit_pg h
  exact ⟨l, rfl⟩
theorem acts_arg {n : Nat} {d : D} (h : FitV T n 22 d) : ∃ l : List PAct, d = .lst (l.map encPA) := by
  obtain ⟨l, rfl, _, _⟩ := fitV_rows (f := encPA) (Q := fun _ => True) (e := 54) rfl h fun m x h => fit_act h
  exact ⟨l, rfl⟩
theorem disk_arg {n : Nat} {d : D} (h : FitV T n 38 d) : ∃ x : DS, d = encDS x := by
  obtain ⟨ds, e0, h'⟩ := fitV_agg (T := T) (t := 38) rfl h
  subst e0
  obtain ⟨m, c, r, rfl, hc, t, r2, rfl, ht, rfl⟩ := fit_struct (fs := [(0, 35), (1, 36)]) rfl h'
  obtain ⟨s, rfl, _⟩ := fit_rows (f := encB) (Q := fun _ => True) (e := 9) rfl hc fun m x h => fit_bytes h
  obtain ⟨w, rfl, _⟩ := fit_rows (f := encW) (Q := fun _ => True) (e := 117) rfl ht fun m x h => fit_wt h
  exact ⟨⟨s, w⟩, rfl⟩
theorem u8_arg {n : Nat} {d : D} (h : FitV T n 5 d) : ∃ a : Int, d = .int .u8 a ∧ 0 ≤ a ∧ a ≤ 255 := by
  obtain ⟨a, rfl, w⟩ := fitV_int (k := .u8) rfl h
  exact ⟨a, rfl, (wf_u8 w).1, (wf_u8 w).2⟩
end Go.Lk

namespace Go.Lk
open Go Go.Proofs Go.RowKit

/-! ### pages that are created one behind the other, and pinned -/
def bP (k : Nat) : Nat → Pg := fun q => if 1 ≤ q ∧ q ≤ k then newP q else zP
def bW (k : Nat) : Nat → Int := fun q => if 1 ≤ q ∧ q ≤ k then 1 else 0
theorem bW_bn : ∀ n, n < 9 → bn (bW n) 16 = n := by decide +kernel
theorem bW_bn2 : ∀ n, n < 9 → ∀ k, k < 9 → 1 ≤ k → k ≤ n → bn (ud (ud (bW n) k 0) (n + 1) 1) 16 = n := by decide +kernel
theorem bP_next (k : Nat) : ud (bP k) (k + 1) (newP (k + 1)) = bP (k + 1) := by
  funext q
  simp only [ud, bP]
  by_cases e : q = k + 1
  · subst e
    rw [if_pos rfl, if_pos ⟨by omega, by omega⟩]
  · rw [if_neg e]
    by_cases h : 1 ≤ q ∧ q ≤ k
    · rw [if_pos h, if_pos ⟨h.1, by omega⟩]
    · rw [if_neg h, if_neg (by omega)]
theorem bW_next (k : Nat) : ud (bW k) (k + 1) 1 = bW (k + 1) := by
  funext q
  simp only [ud, bW]
  by_cases e : q = k + 1
  · subst e
    rw [if_pos rfl, if_pos ⟨by omega, by omega⟩]
  · rw [if_neg e]
    by_cases h : 1 ≤ q ∧ q ≤ k
    · rw [if_pos h, if_pos ⟨h.1, by omega⟩]
    · rw [if_neg h, if_neg (by omega)]
structure BI (n k : Nat) (p : PS) : Prop where
  inv : Inv p (bP k) (bW k) (1 + k) k
  len : p.f.fr.length = n
  d : p.d = newDS
  now : p.now = 0
theorem BI.new {n : Nat} (h1 : 1 ≤ n) (h8 : n ≤ 8) : BI n 0 (p0 n) := by
  refine ⟨?_, List.length_replicate .., rfl, rfl⟩
  have := p0_inv h1 h8
  have e1 : bP 0 = fun _ => zP := by funext q; rw [bP, if_neg (by omega)]
  have e2 : bW 0 = fun _ => 0 := by funext q; rw [bW, if_neg (by omega)]
  rw [e1, e2]; exact this
theorem BI.step {n k : Nat} {p : PS} (h : BI n k p) (h8 : n ≤ 8) (hk : k < n) (b : ByteArray) : ∃ q, poolDo p (2, ((k + 1 : Nat) : Int), b) = (q, newP (k + 1), [], 0) ∧ BI n (k + 1) q := by
  have hbn := bW_bn k (by omega)
  have hd : docM (bP k) (bW k) n (2, ((k + 1 : Nat) : Int), b) = (bP (k + 1), bW (k + 1), newP (k + 1), 0) := by
    rw [docM, if_neg (by simp only []; omega), if_neg (show ¬ (2 : Int) = 8 by decide)]
    simp only [Int.toNat_natCast]
    rw [if_neg (fun g => absurd g.1 (by decide)), if_neg (show ¬ (2 : Int) = 3 by decide), if_neg (show ¬ (2 : Int) = 4 by decide), if_neg (show ¬ (2 : Int) = 5 by decide), if_neg (show ¬ (2 : Int) = 6 by decide), if_neg (show ¬ (2 : Int) = 7 by decide)]
    have hz : bP k (k + 1) = zP := by rw [bP, if_neg (by omega)]
    have hw : bW k (k + 1) = 0 := by rw [bW, if_neg (by omega)]
    rw [thereM, if_neg (fun g => absurd g.1 (by decide)), if_neg (fun g => g.2 (by rw [hz]; rfl)), if_neg (fun g => by have := g.2; omega), if_pos rfl, hw, bP_next, ← bW_next]
    rfl
  have d1 := do_did h.inv (by omega) (by omega) (by omega) (by omega) (2, ((k + 1 : Nat) : Int), b) h.len
  rw [hd] at d1
  obtain ⟨q, l, e1, iq, qn, qlen, run, _, _⟩ := d1.eq
  have hfree : ∃ i, ∃ hi : i < p.f.fr.length, p.f.fr[i].1 = 0 := by
    refine Classical.byContradiction fun g => ?_
    have hne : ∀ i (hi : i < p.f.fr.length), p.f.fr[i].1 ≠ 0 := fun i hi e => g ⟨i, hi, e⟩
    have hb : ¬ ∀ i (hi : i < p.f.fr.length), p.f.fr[i].2.1 ≠ 0 := fun g2 => by
      have := h.inv.busy.2 g2
      have := h.len
      omega
    refine hb fun i hi e0 => ?_
    have hok := frOk_out.1 (h.inv.pj.fm.ck.all i hi)
    have hA := atF_of h.inv.pj.fm (p := (((p.f.fr[i].1).toNat : Nat) : Int)) (by have := hne i hi; omega) hi (by omega)
    have hw := h.inv.wat hA
    have hg := h.inv.at_ _ i hA
    rw [e0] at hw
    have hgt : ¬ (1 ≤ (p.f.fr[i].1).toNat ∧ (p.f.fr[i].1).toNat ≤ k) := fun g3 => by
      rw [bW, if_pos g3] at hw; cases hw
    rw [bP, if_neg hgt] at hg
    have hp := hA.pg
    rw [hg] at hp
    have := hne i hi
    have hp : (0 : Int) = _ := hp
    omega
  have hl : l = [] := by
    have := do2_free h.inv.pj.fm hfree (id := ((k + 1 : Nat) : Int)) (by omega) (by omega) b
    rw [e1] at this; exact this
  subst hl
  refine ⟨q, e1, ⟨iq.mono (by omega) (by omega), qlen.trans h.len, ?_, qn.trans h.now⟩⟩
  exact run.symm.trans h.d
theorem BI.full {n : Nat} {p : PS} (h : BI n n p) (h1 : 1 ≤ n) (h8 : n ≤ 8) (b : ByteArray) : poolDo p (2, ((n + 1 : Nat) : Int), b) = (p, zP, [], 6) ∧ ∀ i (hi : i < p.f.fr.length), p.f.fr[i].2.1 ≠ 0 := by
  have hall : ∀ i (hi : i < p.f.fr.length), p.f.fr[i].2.1 ≠ 0 := h.inv.busy.1 (by rw [bW_bn n (by omega), h.len])
  refine ⟨?_, hall⟩
  have hw : bW n (n + 1) = 0 := by rw [bW, if_neg (by omega)]
  have hn : ∀ i (hi : i < p.f.fr.length), p.f.fr[i].1 ≠ ((n + 1 : Nat) : Int) := fun i hi g => by
    have hA := atF_of h.inv.pj.fm (p := ((n + 1 : Nat) : Int)) (by omega) hi g
    exact hall i hi ((h.inv.wat hA).symm.trans hw)
  have hz : getR p.d.sec (((n + 1 : Nat) : Int)).toNat = (zP, 3) := by
    rw [h.d, Int.toNat_natCast]; exact get_new (by omega)
  rw [do_create (by omega) (by omega), create_step h.inv.pj (by omega) (by omega) hn hz, poolLoad, make_busy h.inv.pj.fm (fun i hi g => hall i hi (h.inv.loose0 hi g)) hall, if_pos (show (6 : Int) ≠ 0 by decide)]
theorem BI.read {n : Nat} {p : PS} (h : BI n n p) (h1 : 1 ≤ n) (h8 : n ≤ 8) {id : Nat} (i1 : 1 ≤ id) (i8 : id ≤ n) (b : ByteArray) : ∃ q l, poolDo p (3, (id : Int), b) = (q, newP id, l, 0) := by
  have hd : docM (bP n) (bW n) n (3, (id : Int), b) = (bP n, bW n, newP id, 0) := by
    rw [docM, if_neg (by simp only []; omega), if_neg (show ¬ (3 : Int) = 8 by decide)]
    simp only [Int.toNat_natCast]
    rw [if_neg (fun g => by rw [bW, if_pos ⟨i1, i8⟩] at g; exact absurd g.2.2 (by decide)), if_pos trivial, bP, if_pos ⟨i1, i8⟩]
  have d1 := do_did h.inv (by omega) (by omega) (by omega) (by omega) (3, (id : Int), b) h.len
  rw [hd] at d1
  obtain ⟨q, l, e1, _⟩ := d1.eq
  exact ⟨q, l, e1⟩
end Go.Lk

