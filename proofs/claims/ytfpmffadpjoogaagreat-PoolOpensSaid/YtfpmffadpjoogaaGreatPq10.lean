/-
  What is proved here: what functions of the program compute, and what follows; no condition beyond each theorem's own.
-/
import Derived.Test.YtfpmffadpjoogaaGreatBAn
set_option linter.unusedSimpArgs false
set_option linter.unusedVariables false
set_option linter.unnecessarySimpa false
set_option linter.unusedSectionVars false
namespace Go.Lk
open Go Go.Proofs Go.RowKit

structure SmallD (d : DS) : Prop where
  s : d.sec.length ≤ 80
  c : d.ca.length ≤ 220
  sb : ∀ i, (h : i < d.sec.length) → d.sec[i].size ≤ 40
  cb : ∀ i, (h : i < d.ca.length) → d.ca[i].2.size ≤ 40
open Classical in
noncomputable def smallDB (d : DS) : Bool := decide (SmallD d)
theorem smallDB_t {d : DS} : smallDB d = true ↔ SmallD d := by simp [smallDB]
theorem smallDB_f {d : DS} : smallDB d = false ↔ ¬ SmallD d := by simp [smallDB]
theorem smallD_ok (d : DS) : ACall Tryz.prog 21 [encDS d] (.bool (smallDB d)) := by
  have m1 : (d.sec.map encB).length = d.sec.length := List.length_map ..
  have m2 : (d.ca.map encW).length = d.ca.length := List.length_map ..
  refine acall_of Tryz.func21 1 rfl (by kernel_rfl) ?_
  conv => whnf
  repeat ((first | refine bF ?_ | refine bT ?_ | refine dK (by kernel_rfl) ?_ | refine cK rfl ?_ | refine cK (by first | decide | omega) ?_ | refine wK (by omega) (by omega) ?_); conv => whnf)
  refine bcase_p (fun h1 => ?_) (fun h1 => ?_) <;> conv => whnf
  · repeat ((first | refine bF ?_ | refine bT ?_ | refine dK (by kernel_rfl) ?_ | refine cK rfl ?_ | refine cK (by first | decide | omega) ?_ | refine wK (by omega) (by omega) ?_); conv => whnf)
    exact ret_of rfl (congrArg D.bool (smallDB_f.2 fun g => by have := g.s; omega).symm)
  repeat ((first | refine bF ?_ | refine bT ?_ | refine dK (by kernel_rfl) ?_ | refine cK rfl ?_ | refine cK (by first | decide | omega) ?_ | refine wK (by omega) (by omega) ?_); conv => whnf)
  refine bcase_p (fun h2 => ?_) (fun h2 => ?_) <;> conv => whnf
  · repeat ((first | refine bF ?_ | refine bT ?_ | refine dK (by kernel_rfl) ?_ | refine cK rfl ?_ | refine cK (by first | decide | omega) ?_ | refine wK (by omega) (by omega) ?_); conv => whnf)
    exact ret_of rfl (congrArg D.bool (smallDB_f.2 fun g => by have := g.c; omega).symm)
  repeat ((first | refine bF ?_ | refine bT ?_ | refine dK (by kernel_rfl) ?_ | refine cK rfl ?_ | refine cK (by first | decide | omega) ?_ | refine wK (by omega) (by omega) ?_); conv => whnf)
  refine aloop (ι := Nat) (fun k => [(1, .ptr 1 0 0), (3, .d (.int .i64 k))]) (fun _ => [(1, .box [.d (.lst (d.sec.map encB)), .d (.lst (d.ca.map encW))] false)])
    (fun k => k ≤ d.sec.length ∧ ∀ i, i < k → (h : i < d.sec.length) → d.sec[i].size ≤ 40) (fun k => d.sec.length - k) 0 ⟨by omega, by omega⟩ (le0 (le_of_cov ⟨rfl, rfl, trivial⟩ ⟨rfl, trivial⟩ ⟨rfl, rfl, rfl, rfl⟩)) ?_
  rintro k ⟨hk, hR⟩
  conv => whnf
  repeat ((first | refine bF ?_ | refine bT ?_ | refine dK (by kernel_rfl) ?_ | refine cK rfl ?_ | refine cK (by first | decide | omega) ?_ | refine wK (by omega) (by omega) ?_); conv => whnf)
  refine bcase_p (fun h5 => ?_) (fun h5 => ?_) <;> conv => whnf
  · have hk2 : k < d.sec.length := by omega
    repeat ((first | refine bF ?_ | refine bT ?_ | refine dK (by kernel_rfl) ?_ | refine cK rfl ?_ | refine cK (by first | decide | omega) ?_ | refine wK (by omega) (by omega) ?_); conv => whnf)
    refine idxK_nat (by omega) ?_
    conv => whnf
    refine getRow_of (x := encB d.sec[k]) (by simp [hk2]) ?_
    conv => whnf
    repeat ((first | refine bF ?_ | refine bT ?_ | refine dK (by kernel_rfl) ?_ | refine cK rfl ?_ | refine cK (by first | decide | omega) ?_ | refine wK (by omega) (by omega) ?_); conv => whnf)
    refine bcase_p (fun h6 => ?_) (fun h6 => ?_) <;> conv => whnf
    · repeat ((first | refine bF ?_ | refine bT ?_ | refine dK (by kernel_rfl) ?_ | refine cK rfl ?_ | refine cK (by first | decide | omega) ?_ | refine wK (by omega) (by omega) ?_); conv => whnf)
      exact ret_of rfl (congrArg D.bool (smallDB_f.2 fun g => by have := g.sb k hk2; have h6 : (40 : Int) < (d.sec[k].size : Nat) := h6; omega).symm)
    · repeat ((first | refine bF ?_ | refine bT ?_ | refine dK (by kernel_rfl) ?_ | refine cK rfl ?_ | refine cK (by first | decide | omega) ?_ | refine wK (by omega) (by omega) ?_); conv => whnf)
      exact ⟨k + 1, ⟨by omega, fun i hi h => by
        by_cases e : i = k
        · subst e
          have h6 : ¬ (40 : Int) < (d.sec[i].size : Nat) := h6
          omega
        · exact hR i (by omega) h⟩, by omega, (le0 (le_of_cov ⟨rfl, rfl, trivial⟩ ⟨rfl, trivial⟩ ⟨rfl, rfl, rfl, rfl⟩))⟩
  repeat ((first | refine bF ?_ | refine bT ?_ | refine dK (by kernel_rfl) ?_ | refine cK rfl ?_ | refine cK (by first | decide | omega) ?_ | refine wK (by omega) (by omega) ?_); conv => whnf)
  refine aloop (ι := Nat) (fun k => [(1, .ptr 1 0 0), (4, .d (.int .i64 k))]) (fun _ => [(1, .box [.d (.lst (d.sec.map encB)), .d (.lst (d.ca.map encW))] false)])
    (fun k => k ≤ d.ca.length ∧ ∀ i, i < k → (h : i < d.ca.length) → d.ca[i].2.size ≤ 40) (fun k => d.ca.length - k) 0 ⟨by omega, by omega⟩ (le0 (le_of_cov ⟨rfl, rfl, trivial⟩ ⟨rfl, trivial⟩ ⟨rfl, rfl, rfl, rfl⟩)) ?_
  rintro j ⟨hj, hQ⟩
  conv => whnf
  repeat ((first | refine bF ?_ | refine bT ?_ | refine dK (by kernel_rfl) ?_ | refine cK rfl ?_ | refine cK (by first | decide | omega) ?_ | refine wK (by omega) (by omega) ?_); conv => whnf)
  refine bcase_p (fun h7 => ?_) (fun h7 => ?_) <;> conv => whnf
  · have hk2 : j < d.ca.length := by omega
    repeat ((first | refine bF ?_ | refine bT ?_ | refine dK (by kernel_rfl) ?_ | refine cK rfl ?_ | refine cK (by first | decide | omega) ?_ | refine wK (by omega) (by omega) ?_); conv => whnf)
    refine idxK_nat (by omega) ?_
    conv => whnf
    refine getRow_of (x := encW d.ca[j]) (by simp [hk2]) ?_
    conv => whnf
    repeat ((first | refine bF ?_ | refine bT ?_ | refine dK (by kernel_rfl) ?_ | refine cK rfl ?_ | refine cK (by first | decide | omega) ?_ | refine wK (by omega) (by omega) ?_); conv => whnf)
    refine bcase_p (fun h8 => ?_) (fun h8 => ?_) <;> conv => whnf
    · repeat ((first | refine bF ?_ | refine bT ?_ | refine dK (by kernel_rfl) ?_ | refine cK rfl ?_ | refine cK (by first | decide | omega) ?_ | refine wK (by omega) (by omega) ?_); conv => whnf)
      exact ret_of rfl (congrArg D.bool (smallDB_f.2 fun g => by have := g.cb j hk2; have h8 : (40 : Int) < (d.ca[j].2.size : Nat) := h8; omega).symm)
    · repeat ((first | refine bF ?_ | refine bT ?_ | refine dK (by kernel_rfl) ?_ | refine cK rfl ?_ | refine cK (by first | decide | omega) ?_ | refine wK (by omega) (by omega) ?_); conv => whnf)
      exact ⟨j + 1, ⟨by omega, fun i hi h => by
        by_cases e : i = j
        · subst e
          have h8 : ¬ (40 : Int) < (d.ca[i].2.size : Nat) := h8
          omega
        · exact hQ i (by omega) h⟩, by omega, (le0 (le_of_cov ⟨rfl, rfl, trivial⟩ ⟨rfl, trivial⟩ ⟨rfl, rfl, rfl, rfl⟩))⟩
  · repeat ((first | refine bF ?_ | refine bT ?_ | refine dK (by kernel_rfl) ?_ | refine cK rfl ?_ | refine cK (by first | decide | omega) ?_ | refine wK (by omega) (by omega) ?_); conv => whnf)
    exact ret_of rfl (congrArg D.bool (smallDB_t.2 ⟨by omega, by omega, fun i h => hR i (by omega) h, fun i h => hQ i (by omega) h⟩).symm)
theorem open_no {d : DS} {n : Int} (h : ¬ Us d ∨ 0 < d.ca.length ∨ n < 1 ∨ 8 < n) : openM d n = (noPS, 1) := by
  rw [openM]
  by_cases g : (getJ d 1).2 ≠ 0 ∨ 0 < d.ca.length
  · rw [if_pos g]
  · rw [if_neg g, if_pos]
    rcases h with h | h | h
    · exact absurd (.inl (by rw [getJ, if_neg (fun q => h q.1)]; decide)) g
    · exact absurd (.inr h) g
    · exact h
theorem open_yes {d : DS} {n : Int} (hU : Us d) (hc : d.ca.length = 0) (h1 : 1 ≤ n) (h8 : n ≤ 8) : openM d n = (⟨newFS n.toNat, recM d, 0⟩, 0) := by
  rw [openM, if_neg, if_neg (by omega)]
  rintro (g | g)
  · exact g (by rw [getJ, if_pos ⟨hU, by decide, by decide⟩])
  · omega
theorem recM_99 (d : DS) : runM d (repairM d) 99 = recM d := by
  have := repairM_len d
  rw [recM, runM, runM, List.take_of_length_le (by omega), List.take_of_length_le (by omega)]
theorem stepJ_len (d : DS) (o : Jo) : (stepJ d o).sec.length = d.sec.length := by
  rw [stepJ]
  split
  · rw [syncM]; split
    · exact wrS_len ..
    · rfl
  · rw [putM]; split
    · split <;> rfl
    · rfl
theorem foldJ_len : ∀ (l : List Jo) (d : DS), (l.foldl stepJ d).sec.length = d.sec.length
  | [], _ => rfl
  | o :: r, d => (foldJ_len r (stepJ d o)).trans (stepJ_len d o)
theorem stepJ_ca (d : DS) (o : Jo) : (stepJ d o).ca.length ≤ d.ca.length + 1 := by
  rw [stepJ]
  split
  · rw [syncM]; split
    · exact Nat.zero_le _
    · omega
  · rw [putM]; split
    · split
      · show d.ca.length ≤ _; omega
      · show (d.ca ++ [o.2]).length ≤ _; simp
    · show d.ca.length ≤ _; omega
theorem foldJ_ca : ∀ (l : List Jo) (d : DS), (l.foldl stepJ d).ca.length ≤ d.ca.length + l.length
  | [], _ => Nat.le_refl _
  | o :: r, d => by
    have h1 := foldJ_ca r (stepJ d o)
    have h2 := stepJ_ca d o
    show (r.foldl stepJ (stepJ d o)).ca.length ≤ d.ca.length + (r.length + 1)
    omega
set_option maxRecDepth 100000 in
theorem poolOpens_ok (d : DS) (n : Int) : ACall Tryz.prog 4 [encDS d, .int .i64 n] (.bool true) := by
  have m2 : (d.ca.map encW).length = d.ca.length := List.length_map ..
  refine acall_of Tryz.func4 2 rfl (by kernel_rfl) ?_
  conv => whnf
  repeat ((first | refine bF ?_ | refine bT ?_ | refine dK (by kernel_rfl) ?_ | refine cK rfl ?_ | refine cK (by first | decide | omega) ?_ | refine wK (by omega) (by omega) ?_); conv => whnf)
  refine callX_pure (smallD_ok d) ?_
  conv => whnf
  repeat ((first | refine bF ?_ | refine bT ?_ | refine dK (by kernel_rfl) ?_ | refine cK rfl ?_ | refine cK (by first | decide | omega) ?_ | refine wK (by omega) (by omega) ?_); conv => whnf)
  refine bcase_intro (fun h1 => ?_) (fun h1 => ?_) <;> conv => whnf
  · refine callX_pure awake16_ok ?_
    conv => whnf
    repeat ((first | refine bF ?_ | refine bT ?_ | refine dK (by kernel_rfl) ?_ | refine cK rfl ?_ | refine cK (by first | decide | omega) ?_ | refine wK (by omega) (by omega) ?_); conv => whnf)
    exact ret_of rfl rfl
  have hS : SmallD d := smallDB_t.1 (by simpa using h1)
  have hs1 := hS.s
  repeat ((first | refine bF ?_ | refine bT ?_ | refine dK (by kernel_rfl) ?_ | refine cK rfl ?_ | refine cK (by first | decide | omega) ?_ | refine wK (by omega) (by omega) ?_); conv => whnf)
  refine callX_pure (open_ok d n) ?_
  conv => whnf
  repeat ((first | refine bF ?_ | refine bT ?_ | refine dK (by kernel_rfl) ?_ | refine cK rfl ?_ | refine cK (by first | decide | omega) ?_ | refine wK (by omega) (by omega) ?_); conv => whnf)
  refine callX_pure (may_ok d) ?_
  conv => whnf
  repeat ((first | refine bF ?_ | refine bT ?_ | refine dK (by kernel_rfl) ?_ | refine cK rfl ?_ | refine cK (by first | decide | omega) ?_ | refine wK (by omega) (by omega) ?_); conv => whnf)
  refine bcase_intro (fun h2 => ?_) (fun h2 => ?_) <;> conv => whnf
  · have hn : ¬ Us d := usB_f.1 (by simpa using h2)
    have e := open_no (d := d) (n := n) (.inl hn)
    rw [e]
    repeat ((first | refine bF ?_ | refine bT ?_ | refine dK (by kernel_rfl) ?_ | refine cK rfl ?_ | refine cK (by first | decide | omega) ?_ | refine wK (by omega) (by omega) ?_); conv => whnf)
    refine callX_pure awake16_ok ?_
    conv => whnf
    repeat ((first | refine bF ?_ | refine bT ?_ | refine dK (by kernel_rfl) ?_ | refine cK rfl ?_ | refine cK (by first | decide | omega) ?_ | refine wK (by omega) (by omega) ?_); conv => whnf)
    exact ret_of rfl rfl
  have hU : Us d := usB_t.1 (by simpa using h2)
  repeat ((first | refine bF ?_ | refine bT ?_ | refine dK (by kernel_rfl) ?_ | refine cK rfl ?_ | refine cK (by first | decide | omega) ?_ | refine wK (by omega) (by omega) ?_); conv => whnf)
  refine bcase_p (fun h3 => ?_) (fun h3 => ?_) <;> conv => whnf
  · have e := open_no (d := d) (n := n) (.inr (.inl (by omega)))
    rw [e]
    repeat ((first | refine bF ?_ | refine bT ?_ | refine dK (by kernel_rfl) ?_ | refine cK rfl ?_ | refine cK (by first | decide | omega) ?_ | refine wK (by omega) (by omega) ?_); conv => whnf)
    refine callX_pure awake16_ok ?_
    conv => whnf
    repeat ((first | refine bF ?_ | refine bT ?_ | refine dK (by kernel_rfl) ?_ | refine cK rfl ?_ | refine cK (by first | decide | omega) ?_ | refine wK (by omega) (by omega) ?_); conv => whnf)
    exact ret_of rfl rfl
  repeat ((first | refine bF ?_ | refine bT ?_ | refine dK (by kernel_rfl) ?_ | refine cK rfl ?_ | refine cK (by first | decide | omega) ?_ | refine wK (by omega) (by omega) ?_); conv => whnf)
  refine bcase_p (fun h4 => ?_) (fun h4 => ?_) <;> conv => whnf
  · have e := open_no (d := d) (n := n) (.inr (.inr (.inl h4)))
    rw [e]
    repeat ((first | refine bF ?_ | refine bT ?_ | refine dK (by kernel_rfl) ?_ | refine cK rfl ?_ | refine cK (by first | decide | omega) ?_ | refine wK (by omega) (by omega) ?_); conv => whnf)
    refine callX_pure awake16_ok ?_
    conv => whnf
    repeat ((first | refine bF ?_ | refine bT ?_ | refine dK (by kernel_rfl) ?_ | refine cK rfl ?_ | refine cK (by first | decide | omega) ?_ | refine wK (by omega) (by omega) ?_); conv => whnf)
    exact ret_of rfl rfl
  repeat ((first | refine bF ?_ | refine bT ?_ | refine dK (by kernel_rfl) ?_ | refine cK rfl ?_ | refine cK (by first | decide | omega) ?_ | refine wK (by omega) (by omega) ?_); conv => whnf)
  refine bcase_p (fun h5 => ?_) (fun h5 => ?_) <;> conv => whnf
  · have e := open_no (d := d) (n := n) (.inr (.inr (.inr h5)))
    rw [e]
    repeat ((first | refine bF ?_ | refine bT ?_ | refine dK (by kernel_rfl) ?_ | refine cK rfl ?_ | refine cK (by first | decide | omega) ?_ | refine wK (by omega) (by omega) ?_); conv => whnf)
    refine callX_pure awake16_ok ?_
    conv => whnf
    repeat ((first | refine bF ?_ | refine bT ?_ | refine dK (by kernel_rfl) ?_ | refine cK rfl ?_ | refine cK (by first | decide | omega) ?_ | refine wK (by omega) (by omega) ?_); conv => whnf)
    exact ret_of rfl rfl
  repeat ((first | refine bF ?_ | refine bT ?_ | refine dK (by kernel_rfl) ?_ | refine cK rfl ?_ | refine cK (by first | decide | omega) ?_ | refine wK (by omega) (by omega) ?_); conv => whnf)
  have e := open_yes (n := n) hU (by omega) (by omega) (by omega)
  obtain ⟨k, rfl⟩ : ∃ k : Nat, n = k := ⟨n.toNat, by omega⟩
  rw [Int.toNat_natCast] at e
  have hfl : ((newFS k).pg.map encP).length = k := by rw [List.length_map]; exact List.length_replicate ..
  have hrl := repairM_len d
  have l1 : (recM d).sec.length = d.sec.length := foldJ_len _ _
  have l2 : (recM d).ca.length ≤ 1000 := by
    have := foldJ_ca ((repairM d).take ((repairM d).length : Int).toNat) d
    have h2 : (recM d).ca.length ≤ _ := this
    rw [List.length_take] at h2
    omega
  rw [e]
  refine bcase_t rfl ?_
  conv => whnf
  repeat ((first | refine bF ?_ | refine bT ?_ | refine dK (by kernel_rfl) ?_ | refine cK rfl ?_ | refine cK (by first | decide | omega) ?_ | refine wK (by omega) (by omega) ?_); conv => whnf)
  refine bcase_t (by simp only [hfl]; simp) ?_
  conv => whnf
  repeat ((first | refine bF ?_ | refine bT ?_ | refine dK (by kernel_rfl) ?_ | refine cK rfl ?_ | refine cK (by first | decide | omega) ?_ | refine wK (by omega) (by omega) ?_); conv => whnf)
  refine callX_pure (rrepair_ok d hU) ?_
  conv => whnf
  repeat ((first | refine bF ?_ | refine bT ?_ | refine dK (by kernel_rfl) ?_ | refine cK rfl ?_ | refine cK (by first | decide | omega) ?_ | refine wK (by omega) (by omega) ?_); conv => whnf)
  refine callX_pure (rrun_ok d (repairM d) 99 (by omega)) ?_
  conv => whnf
  repeat ((first | refine bF ?_ | refine bT ?_ | refine dK (by kernel_rfl) ?_ | refine cK rfl ?_ | refine cK (by first | decide | omega) ?_ | refine wK (by omega) (by omega) ?_); conv => whnf)
  rw [recM_99]
  refine callX_pure (rsameD_ok (recM d) (recM d) (by omega) l2) ?_
  conv => whnf
  repeat ((first | refine bF ?_ | refine bT ?_ | refine dK (by kernel_rfl) ?_ | refine cK rfl ?_ | refine cK (by first | decide | omega) ?_ | refine wK (by omega) (by omega) ?_); conv => whnf)
  refine bcase_t (by simp) ?_
  conv => whnf
  repeat ((first | refine bF ?_ | refine bT ?_ | refine dK (by kernel_rfl) ?_ | refine cK rfl ?_ | refine cK (by first | decide | omega) ?_ | refine wK (by omega) (by omega) ?_); conv => whnf)
  refine callX_pure awake16_ok ?_
  conv => whnf
  repeat ((first | refine bF ?_ | refine bT ?_ | refine dK (by kernel_rfl) ?_ | refine cK rfl ?_ | refine cK (by first | decide | omega) ?_ | refine wK (by omega) (by omega) ?_); conv => whnf)
  exact ret_of rfl rfl
end Go.Lk

