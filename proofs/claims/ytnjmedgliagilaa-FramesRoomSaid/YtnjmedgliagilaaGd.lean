/-
  What is proved here: the clock's sweep, right frames, and what is found there; no condition beyond each theorem's own.
-/
import Derived.Test.YtnjmedgliagilaaGa
import Derived.Test.YtnjmedgliagilaaGc
set_option linter.unusedSectionVars false
set_option linter.unusedSimpArgs false
set_option linter.unusedVariables false
set_option linter.unnecessarySimpa false
namespace Go.Lk
open Go Go.Proofs Go.RowKit

abbrev Fr := Int × Int × Bool
abbrev Pg := Int × Int × ByteArray
def encF (x : Fr) : List D := [.int .i64 x.1, .int .i64 x.2.1, .bool x.2.2]
def encP (x : Pg) : List D := [.int .i64 x.1, .int .i64 x.2.1, .str x.2.2]
def encC (l : List Fr) (h : Int) : D := .agg [.lst (l.map encF), .int .i64 h]
theorem encF_ok : ∀ (l : List Fr), okRows 3 (l.map encF) = true
  | [] => rfl
  | _ :: r => encF_ok r
theorem encP_ok : ∀ (l : List Pg), okRows 3 (l.map encP) = true
  | [] => rfl
  | _ :: r => encP_ok r

def pgR (x : Pg) : Bool := decide (1 ≤ x.1) && (decide (x.1 ≤ 16) && (decide (1 ≤ x.2.1) && (decide (x.2.1 ≤ 2147483647) && decide (x.2.2.size ≤ 16))))
theorem pgR_out {x : Pg} : pgR x = true ↔ 1 ≤ x.1 ∧ x.1 ≤ 16 ∧ 1 ≤ x.2.1 ∧ x.2.1 ≤ 2147483647 ∧ x.2.2.size ≤ 16 := by simp [pgR]
theorem pageRight_ok (x : Pg) : ACall Try.prog 37 [.agg (encP x)] (.bool (pgR x)) := by
  refine acall_of Try.func37 1 rfl (by kernel_rfl) ?_
  conv => whnf
  repeat (first | (refine bcase_f rfl ?_; conv => whnf) | (refine bcase_t rfl ?_; conv => whnf) | (refine condK_of rfl ?_; conv => whnf) | (refine condK_of (by decide) ?_; conv => whnf) | (refine condK_of (by omega) ?_; conv => whnf) | (refine wrapK_in (w64 (by omega) (by omega)) ?_; conv => whnf))
  refine bcase_p (fun h1 => ?_) (fun h1 => ?_) <;> conv => whnf
  · exact ret_of rfl (congrArg D.bool (by simp [pgR]; omega))
  repeat (first | (refine bcase_f rfl ?_; conv => whnf) | (refine bcase_t rfl ?_; conv => whnf) | (refine condK_of rfl ?_; conv => whnf) | (refine condK_of (by decide) ?_; conv => whnf) | (refine condK_of (by omega) ?_; conv => whnf) | (refine wrapK_in (w64 (by omega) (by omega)) ?_; conv => whnf))
  refine bcase_p (fun h2 => ?_) (fun h2 => ?_) <;> conv => whnf
  · exact ret_of rfl (congrArg D.bool (by simp [pgR]; omega))
  repeat (first | (refine bcase_f rfl ?_; conv => whnf) | (refine bcase_t rfl ?_; conv => whnf) | (refine condK_of rfl ?_; conv => whnf) | (refine condK_of (by decide) ?_; conv => whnf) | (refine condK_of (by omega) ?_; conv => whnf) | (refine wrapK_in (w64 (by omega) (by omega)) ?_; conv => whnf))
  refine bcase_p (fun h3 => ?_) (fun h3 => ?_) <;> conv => whnf
  · exact ret_of rfl (congrArg D.bool (by simp [pgR]; omega))
  repeat (first | (refine bcase_f rfl ?_; conv => whnf) | (refine bcase_t rfl ?_; conv => whnf) | (refine condK_of rfl ?_; conv => whnf) | (refine condK_of (by decide) ?_; conv => whnf) | (refine condK_of (by omega) ?_; conv => whnf) | (refine wrapK_in (w64 (by omega) (by omega)) ?_; conv => whnf))
  refine bcase_p (fun h4 => ?_) (fun h4 => ?_) <;> conv => whnf
  · exact ret_of rfl (congrArg D.bool (by simp [pgR]; omega))
  repeat (first | (refine bcase_f rfl ?_; conv => whnf) | (refine bcase_t rfl ?_; conv => whnf) | (refine condK_of rfl ?_; conv => whnf) | (refine condK_of (by decide) ?_; conv => whnf) | (refine condK_of (by omega) ?_; conv => whnf) | (refine wrapK_in (w64 (by omega) (by omega)) ?_; conv => whnf))
  exact ret_of rfl (congrArg D.bool (by
    have e1 : decide (1 ≤ x.1) = true := by simp; omega
    have e2 : decide (x.1 ≤ 16) = true := by simp; omega
    have e3 : decide (1 ≤ x.2.1) = true := by simp; omega
    have e4 : decide (x.2.1 ≤ 2147483647) = true := by simp; omega
    rw [pgR, e1, e2, e3, e4]; simp; omega))
theorem rpageRight_ok (x : Pg) : ACall Try.prog 28 [.agg (encP x)] (.bool (pgR x)) := by
  refine acall_of Try.func28 1 rfl (by kernel_rfl) ?_
  conv => whnf
  repeat (first | (refine bcase_f rfl ?_; conv => whnf) | (refine bcase_t rfl ?_; conv => whnf) | (refine condK_of rfl ?_; conv => whnf) | (refine condK_of (by decide) ?_; conv => whnf) | (refine condK_of (by omega) ?_; conv => whnf) | (refine wrapK_in (w64 (by omega) (by omega)) ?_; conv => whnf))
  refine bcase_p (fun h1 => ?_) (fun h1 => ?_) <;> conv => whnf
  rotate_left
  · repeat (first | (refine bcase_f rfl ?_; conv => whnf) | (refine bcase_t rfl ?_; conv => whnf) | (refine condK_of rfl ?_; conv => whnf) | (refine condK_of (by decide) ?_; conv => whnf) | (refine condK_of (by omega) ?_; conv => whnf) | (refine wrapK_in (w64 (by omega) (by omega)) ?_; conv => whnf))
    exact ret_of rfl (congrArg D.bool (by simp [pgR]; omega))
  repeat (first | (refine bcase_f rfl ?_; conv => whnf) | (refine bcase_t rfl ?_; conv => whnf) | (refine condK_of rfl ?_; conv => whnf) | (refine condK_of (by decide) ?_; conv => whnf) | (refine condK_of (by omega) ?_; conv => whnf) | (refine wrapK_in (w64 (by omega) (by omega)) ?_; conv => whnf))
  refine bcase_p (fun h2 => ?_) (fun h2 => ?_) <;> conv => whnf
  rotate_left
  · repeat (first | (refine bcase_f rfl ?_; conv => whnf) | (refine bcase_t rfl ?_; conv => whnf) | (refine condK_of rfl ?_; conv => whnf) | (refine condK_of (by decide) ?_; conv => whnf) | (refine condK_of (by omega) ?_; conv => whnf) | (refine wrapK_in (w64 (by omega) (by omega)) ?_; conv => whnf))
    exact ret_of rfl (congrArg D.bool (by simp [pgR]; omega))
  repeat (first | (refine bcase_f rfl ?_; conv => whnf) | (refine bcase_t rfl ?_; conv => whnf) | (refine condK_of rfl ?_; conv => whnf) | (refine condK_of (by decide) ?_; conv => whnf) | (refine condK_of (by omega) ?_; conv => whnf) | (refine wrapK_in (w64 (by omega) (by omega)) ?_; conv => whnf))
  refine bcase_p (fun h3 => ?_) (fun h3 => ?_) <;> conv => whnf
  rotate_left
  · repeat (first | (refine bcase_f rfl ?_; conv => whnf) | (refine bcase_t rfl ?_; conv => whnf) | (refine condK_of rfl ?_; conv => whnf) | (refine condK_of (by decide) ?_; conv => whnf) | (refine condK_of (by omega) ?_; conv => whnf) | (refine wrapK_in (w64 (by omega) (by omega)) ?_; conv => whnf))
    exact ret_of rfl (congrArg D.bool (by simp [pgR]; omega))
  repeat (first | (refine bcase_f rfl ?_; conv => whnf) | (refine bcase_t rfl ?_; conv => whnf) | (refine condK_of rfl ?_; conv => whnf) | (refine condK_of (by decide) ?_; conv => whnf) | (refine condK_of (by omega) ?_; conv => whnf) | (refine wrapK_in (w64 (by omega) (by omega)) ?_; conv => whnf))
  refine bcase_p (fun h4 => ?_) (fun h4 => ?_) <;> conv => whnf
  rotate_left
  · repeat (first | (refine bcase_f rfl ?_; conv => whnf) | (refine bcase_t rfl ?_; conv => whnf) | (refine condK_of rfl ?_; conv => whnf) | (refine condK_of (by decide) ?_; conv => whnf) | (refine condK_of (by omega) ?_; conv => whnf) | (refine wrapK_in (w64 (by omega) (by omega)) ?_; conv => whnf))
    exact ret_of rfl (congrArg D.bool (by simp [pgR]; omega))
  repeat (first | (refine bcase_f rfl ?_; conv => whnf) | (refine bcase_t rfl ?_; conv => whnf) | (refine condK_of rfl ?_; conv => whnf) | (refine condK_of (by decide) ?_; conv => whnf) | (refine condK_of (by omega) ?_; conv => whnf) | (refine wrapK_in (w64 (by omega) (by omega)) ?_; conv => whnf))
  exact ret_of rfl (congrArg D.bool (by
    have e1 : decide (1 ≤ x.1) = true := by simp; omega
    have e2 : decide (x.1 ≤ 16) = true := by simp; omega
    have e3 : decide (1 ≤ x.2.1) = true := by simp; omega
    have e4 : decide (x.2.1 ≤ 2147483647) = true := by simp; omega
    rw [pgR, e1, e2, e3, e4]; simp; omega))

def frOk (x : Fr) : Bool := decide (0 ≤ x.1) && (decide (x.1 ≤ 16) && (decide (0 ≤ x.2.1) && decide (x.2.1 ≤ 2147483647)))
theorem frOk_out {x : Fr} : frOk x = true ↔ 0 ≤ x.1 ∧ x.1 ≤ 16 ∧ 0 ≤ x.2.1 ∧ x.2.1 ≤ 2147483647 := by simp [frOk]
structure CRight (l : List Fr) (h : Int) : Prop where
  one : 1 ≤ l.length
  most : l.length ≤ 8
  h0 : 0 ≤ h
  h1 : h < l.length
  all : ∀ i, (hi : i < l.length) → frOk l[i] = true
open Classical in
noncomputable def clockB (l : List Fr) (h : Int) : Bool := decide (CRight l h)
theorem clockB_t {l : List Fr} {h : Int} : clockB l h = true ↔ CRight l h := by simp [clockB]
theorem clockB_f {l : List Fr} {h : Int} : clockB l h = false ↔ ¬ CRight l h := by simp [clockB]
theorem noFr {l : List Fr} {h : Int} {k : Nat} (hk : k < l.length) (hf : ¬ (0 ≤ l[k].1 ∧ l[k].1 ≤ 16 ∧ 0 ≤ l[k].2.1 ∧ l[k].2.1 ≤ 2147483647)) : D.bool false = D.bool (clockB l h) :=
  congrArg D.bool (clockB_f.2 fun hR => hf (frOk_out.1 (hR.all k hk))).symm

theorem clockRight_ok (l : List Fr) (h : Int) : ACall Try.prog 34 [encC l h] (.bool (clockB l h)) := by
  refine acall_of Try.func34 1 rfl (by kernel_rfl) ?_
  conv => whnf
  have hm : (l.map encF).length = l.length := List.length_map ..
  repeat (first | (refine bcase_f rfl ?_; conv => whnf) | (refine bcase_t rfl ?_; conv => whnf) | (refine condK_of rfl ?_; conv => whnf) | (refine condK_of (by decide) ?_; conv => whnf) | (refine condK_of (by omega) ?_; conv => whnf) | (refine wrapK_in (w64 (by omega) (by omega)) ?_; conv => whnf))
  refine bcase_p (fun h1 => ?_) (fun h1 => ?_) <;> conv => whnf
  · exact ret_of rfl (congrArg D.bool (clockB_f.2 fun hR => by have := hR.one; omega).symm)
  repeat (first | (refine bcase_f rfl ?_; conv => whnf) | (refine bcase_t rfl ?_; conv => whnf) | (refine condK_of rfl ?_; conv => whnf) | (refine condK_of (by decide) ?_; conv => whnf) | (refine condK_of (by omega) ?_; conv => whnf) | (refine wrapK_in (w64 (by omega) (by omega)) ?_; conv => whnf))
  refine bcase_p (fun h2 => ?_) (fun h2 => ?_) <;> conv => whnf
  · exact ret_of rfl (congrArg D.bool (clockB_f.2 fun hR => by have := hR.most; omega).symm)
  repeat (first | (refine bcase_f rfl ?_; conv => whnf) | (refine bcase_t rfl ?_; conv => whnf) | (refine condK_of rfl ?_; conv => whnf) | (refine condK_of (by decide) ?_; conv => whnf) | (refine condK_of (by omega) ?_; conv => whnf) | (refine wrapK_in (w64 (by omega) (by omega)) ?_; conv => whnf))
  refine bcase_p (fun h3 => ?_) (fun h3 => ?_) <;> conv => whnf
  · exact ret_of rfl (congrArg D.bool (clockB_f.2 fun hR => by have := hR.h0; omega).symm)
  repeat (first | (refine bcase_f rfl ?_; conv => whnf) | (refine bcase_t rfl ?_; conv => whnf) | (refine condK_of rfl ?_; conv => whnf) | (refine condK_of (by decide) ?_; conv => whnf) | (refine condK_of (by omega) ?_; conv => whnf) | (refine wrapK_in (w64 (by omega) (by omega)) ?_; conv => whnf))
  refine bcase_p (fun h4 => ?_) (fun h4 => ?_) <;> conv => whnf
  · exact ret_of rfl (congrArg D.bool (clockB_f.2 fun hR => by have := hR.h1; omega).symm)
  repeat (first | (refine bcase_f rfl ?_; conv => whnf) | (refine bcase_t rfl ?_; conv => whnf) | (refine condK_of rfl ?_; conv => whnf) | (refine condK_of (by decide) ?_; conv => whnf) | (refine condK_of (by omega) ?_; conv => whnf) | (refine wrapK_in (w64 (by omega) (by omega)) ?_; conv => whnf))
  refine aloop (ι := Nat) (fun k => [(27, .d (.lst (l.map encF))), (28, .d (.int .i64 (l.map encF).length)), (29, .d (.int .i64 k))]) (fun _ => [])
    (fun k => k ≤ l.length ∧ ∀ i, i < k → (hi : i < l.length) → frOk l[i] = true) (fun k => l.length - k) 0 ⟨Nat.zero_le _, fun j h => absurd h (Nat.not_lt_zero _)⟩ (le0 (le_of_cov ⟨rfl, rfl, rfl, trivial⟩ trivial ⟨rfl, rfl, rfl, rfl⟩)) ?_
  rintro k ⟨hk, hR⟩
  conv => whnf
  refine bcase_p (fun h5 => ?_) (fun h5 => ?_) <;> conv => whnf
  · have hk2 : k < l.length := by omega
    refine idxK_nat (by omega) ?_
    conv => whnf
    refine getRow_of (x := encF l[k]) (by simp [hk2]) ?_
    conv => whnf
    repeat (first | (refine bcase_f rfl ?_; conv => whnf) | (refine bcase_t rfl ?_; conv => whnf) | (refine condK_of rfl ?_; conv => whnf) | (refine condK_of (by decide) ?_; conv => whnf) | (refine condK_of (by omega) ?_; conv => whnf) | (refine wrapK_in (w64 (by omega) (by omega)) ?_; conv => whnf))
    refine bcase_p (fun g1 => ?_) (fun g1 => ?_) <;> conv => whnf
    · exact ret_of rfl (noFr hk2 (by omega))
    repeat (first | (refine bcase_f rfl ?_; conv => whnf) | (refine bcase_t rfl ?_; conv => whnf) | (refine condK_of rfl ?_; conv => whnf) | (refine condK_of (by decide) ?_; conv => whnf) | (refine condK_of (by omega) ?_; conv => whnf) | (refine wrapK_in (w64 (by omega) (by omega)) ?_; conv => whnf))
    refine bcase_p (fun g2 => ?_) (fun g2 => ?_) <;> conv => whnf
    · exact ret_of rfl (noFr hk2 (by omega))
    repeat (first | (refine bcase_f rfl ?_; conv => whnf) | (refine bcase_t rfl ?_; conv => whnf) | (refine condK_of rfl ?_; conv => whnf) | (refine condK_of (by decide) ?_; conv => whnf) | (refine condK_of (by omega) ?_; conv => whnf) | (refine wrapK_in (w64 (by omega) (by omega)) ?_; conv => whnf))
    refine bcase_p (fun g3 => ?_) (fun g3 => ?_) <;> conv => whnf
    · exact ret_of rfl (noFr hk2 (by omega))
    repeat (first | (refine bcase_f rfl ?_; conv => whnf) | (refine bcase_t rfl ?_; conv => whnf) | (refine condK_of rfl ?_; conv => whnf) | (refine condK_of (by decide) ?_; conv => whnf) | (refine condK_of (by omega) ?_; conv => whnf) | (refine wrapK_in (w64 (by omega) (by omega)) ?_; conv => whnf))
    refine bcase_p (fun g4 => ?_) (fun g4 => ?_) <;> conv => whnf
    · exact ret_of rfl (noFr hk2 (by omega))
    repeat (first | (refine bcase_f rfl ?_; conv => whnf) | (refine bcase_t rfl ?_; conv => whnf) | (refine condK_of rfl ?_; conv => whnf) | (refine condK_of (by decide) ?_; conv => whnf) | (refine condK_of (by omega) ?_; conv => whnf) | (refine wrapK_in (w64 (by omega) (by omega)) ?_; conv => whnf))
    exact ⟨k + 1, ⟨by omega, fun i hi hi2 => (Nat.lt_succ_iff_lt_or_eq.1 hi).elim (fun h => hR i h hi2) (fun e => by subst e; exact frOk_out.2 (by omega))⟩, by omega, le0 (le_of_cov ⟨rfl, rfl, rfl, trivial⟩ trivial ⟨rfl, rfl, rfl, rfl⟩)⟩
  · exact ret_of rfl (congrArg D.bool (clockB_t.2 ⟨by omega, by omega, by omega, by omega, fun i hi => hR i (by omega) hi⟩).symm)

theorem rclockRight_ok (l : List Fr) (h : Int) : ACall Try.prog 24 [encC l h] (.bool (clockB l h)) := by
  refine acall_of Try.func24 1 rfl (by kernel_rfl) ?_
  conv => whnf
  have hm : (l.map encF).length = l.length := List.length_map ..
  repeat (first | (refine bcase_f rfl ?_; conv => whnf) | (refine bcase_t rfl ?_; conv => whnf) | (refine condK_of rfl ?_; conv => whnf) | (refine condK_of (by decide) ?_; conv => whnf) | (refine condK_of (by omega) ?_; conv => whnf) | (refine wrapK_in (w64 (by omega) (by omega)) ?_; conv => whnf))
  refine bcase_p (fun h1 => ?_) (fun h1 => ?_) <;> conv => whnf
  · exact ret_of rfl (congrArg D.bool (clockB_f.2 fun hR => by have := hR.one; omega).symm)
  repeat (first | (refine bcase_f rfl ?_; conv => whnf) | (refine bcase_t rfl ?_; conv => whnf) | (refine condK_of rfl ?_; conv => whnf) | (refine condK_of (by decide) ?_; conv => whnf) | (refine condK_of (by omega) ?_; conv => whnf) | (refine wrapK_in (w64 (by omega) (by omega)) ?_; conv => whnf))
  refine bcase_p (fun h2 => ?_) (fun h2 => ?_) <;> conv => whnf
  · exact ret_of rfl (congrArg D.bool (clockB_f.2 fun hR => by have := hR.most; omega).symm)
  repeat (first | (refine bcase_f rfl ?_; conv => whnf) | (refine bcase_t rfl ?_; conv => whnf) | (refine condK_of rfl ?_; conv => whnf) | (refine condK_of (by decide) ?_; conv => whnf) | (refine condK_of (by omega) ?_; conv => whnf) | (refine wrapK_in (w64 (by omega) (by omega)) ?_; conv => whnf))
  refine bcase_p (fun h3 => ?_) (fun h3 => ?_) <;> conv => whnf
  · exact ret_of rfl (congrArg D.bool (clockB_f.2 fun hR => by have := hR.h0; omega).symm)
  repeat (first | (refine bcase_f rfl ?_; conv => whnf) | (refine bcase_t rfl ?_; conv => whnf) | (refine condK_of rfl ?_; conv => whnf) | (refine condK_of (by decide) ?_; conv => whnf) | (refine condK_of (by omega) ?_; conv => whnf) | (refine wrapK_in (w64 (by omega) (by omega)) ?_; conv => whnf))
  refine bcase_p (fun h4 => ?_) (fun h4 => ?_) <;> conv => whnf
  · exact ret_of rfl (congrArg D.bool (clockB_f.2 fun hR => by have := hR.h1; omega).symm)
  repeat (first | (refine bcase_f rfl ?_; conv => whnf) | (refine bcase_t rfl ?_; conv => whnf) | (refine condK_of rfl ?_; conv => whnf) | (refine condK_of (by decide) ?_; conv => whnf) | (refine condK_of (by omega) ?_; conv => whnf) | (refine wrapK_in (w64 (by omega) (by omega)) ?_; conv => whnf))
  refine aloop (ι := Nat) (fun k => [(1, .ptr 1 0 0), (3, .d (.int .i64 k))]) (fun _ => [(1, .box [.d (.lst (l.map encF)), .d (.int .i64 h)] false)])
    (fun k => k ≤ l.length ∧ ∀ i, i < k → (hi : i < l.length) → frOk l[i] = true) (fun k => l.length - k) 0 ⟨Nat.zero_le _, fun j h => absurd h (Nat.not_lt_zero _)⟩ (le0 (le_of_cov ⟨rfl, rfl, trivial⟩ ⟨rfl, trivial⟩ ⟨rfl, rfl, rfl, rfl⟩)) ?_
  rintro k ⟨hk, hR⟩
  conv => whnf
  repeat (first | (refine bcase_f rfl ?_; conv => whnf) | (refine bcase_t rfl ?_; conv => whnf) | (refine condK_of rfl ?_; conv => whnf) | (refine condK_of (by decide) ?_; conv => whnf) | (refine condK_of (by omega) ?_; conv => whnf) | (refine wrapK_in (w64 (by omega) (by omega)) ?_; conv => whnf))
  refine bcase_p (fun h5 => ?_) (fun h5 => ?_) <;> conv => whnf
  · have hk2 : k < l.length := by omega
    repeat (first | (refine bcase_f rfl ?_; conv => whnf) | (refine bcase_t rfl ?_; conv => whnf) | (refine condK_of rfl ?_; conv => whnf) | (refine condK_of (by decide) ?_; conv => whnf) | (refine condK_of (by omega) ?_; conv => whnf) | (refine wrapK_in (w64 (by omega) (by omega)) ?_; conv => whnf))
    refine idxK_nat (by omega) ?_
    conv => whnf
    refine getRow_of (x := encF l[k]) (by simp [hk2]) ?_
    conv => whnf
    repeat (first | (refine bcase_f rfl ?_; conv => whnf) | (refine bcase_t rfl ?_; conv => whnf) | (refine condK_of rfl ?_; conv => whnf) | (refine condK_of (by decide) ?_; conv => whnf) | (refine condK_of (by omega) ?_; conv => whnf) | (refine wrapK_in (w64 (by omega) (by omega)) ?_; conv => whnf))
    refine bcase_p (fun g1 => ?_) (fun g1 => ?_) <;> conv => whnf
    · exact ret_of rfl (noFr hk2 (by omega))
    repeat (first | (refine bcase_f rfl ?_; conv => whnf) | (refine bcase_t rfl ?_; conv => whnf) | (refine condK_of rfl ?_; conv => whnf) | (refine condK_of (by decide) ?_; conv => whnf) | (refine condK_of (by omega) ?_; conv => whnf) | (refine wrapK_in (w64 (by omega) (by omega)) ?_; conv => whnf))
    refine bcase_p (fun g2 => ?_) (fun g2 => ?_) <;> conv => whnf
    · exact ret_of rfl (noFr hk2 (by omega))
    repeat (first | (refine bcase_f rfl ?_; conv => whnf) | (refine bcase_t rfl ?_; conv => whnf) | (refine condK_of rfl ?_; conv => whnf) | (refine condK_of (by decide) ?_; conv => whnf) | (refine condK_of (by omega) ?_; conv => whnf) | (refine wrapK_in (w64 (by omega) (by omega)) ?_; conv => whnf))
    refine bcase_p (fun g3 => ?_) (fun g3 => ?_) <;> conv => whnf
    · exact ret_of rfl (noFr hk2 (by omega))
    repeat (first | (refine bcase_f rfl ?_; conv => whnf) | (refine bcase_t rfl ?_; conv => whnf) | (refine condK_of rfl ?_; conv => whnf) | (refine condK_of (by decide) ?_; conv => whnf) | (refine condK_of (by omega) ?_; conv => whnf) | (refine wrapK_in (w64 (by omega) (by omega)) ?_; conv => whnf))
    refine bcase_p (fun g4 => ?_) (fun g4 => ?_) <;> conv => whnf
    · exact ret_of rfl (noFr hk2 (by omega))
    repeat (first | (refine bcase_f rfl ?_; conv => whnf) | (refine bcase_t rfl ?_; conv => whnf) | (refine condK_of rfl ?_; conv => whnf) | (refine condK_of (by decide) ?_; conv => whnf) | (refine condK_of (by omega) ?_; conv => whnf) | (refine wrapK_in (w64 (by omega) (by omega)) ?_; conv => whnf))
    exact ⟨k + 1, ⟨by omega, fun i hi hi2 => (Nat.lt_succ_iff_lt_or_eq.1 hi).elim (fun h => hR i h hi2) (fun e => by subst e; exact frOk_out.2 (by omega))⟩, by omega, le0 (le_of_cov ⟨rfl, rfl, trivial⟩ ⟨rfl, trivial⟩ ⟨rfl, rfl, rfl, rfl⟩)⟩
  · exact ret_of rfl (congrArg D.bool (clockB_t.2 ⟨by omega, by omega, by omega, by omega, fun i hi => hR i (by omega) hi⟩).symm)

theorem cloneF_ok (l : List Fr) (hl : l.length ≤ 1000000) : OCall Try.prog 56 [.lst (l.map encF)] (l.map encF) 3 := by
  refine ocall_of Try.func56 1 rfl (by kernel_rfl) ?_
  conv => whnf
  refine nilK_of ?_
  conv => whnf
  intro r hr
  conv => whnf
  refine bcase_intro (fun h => ?_) (fun h => ?_) <;> conv => whnf
  · have := hr h
    exact ⟨2, rfl, .inr ⟨rfl, this⟩⟩
  · repeat (first | (refine bcase_f rfl ?_; conv => whnf) | (refine bcase_t rfl ?_; conv => whnf) | (refine condK_of rfl ?_; conv => whnf) | (refine condK_of (by decide) ?_; conv => whnf) | (refine condK_of (by omega) ?_; conv => whnf) | (refine wrapK_in (w64 (by omega) (by omega)) ?_; conv => whnf))
    refine condK_of (encF_ok l) ?_
    conv => whnf
    refine roomK_le 1000100 100 (by show 0 + List.length _ ≤ 1000100; simp; omega) (by decide) (by decide) (by decide) ?_
    conv => whnf
    exact ⟨2, rfl, .inl ⟨5, rfl, rfl⟩⟩
theorem cloneP_ok (l : List Pg) (hl : l.length ≤ 1000000) : OCall Try.prog 68 [.lst (l.map encP)] (l.map encP) 3 := by
  refine ocall_of Try.func68 1 rfl (by kernel_rfl) ?_
  conv => whnf
  refine nilK_of ?_
  conv => whnf
  intro r hr
  conv => whnf
  refine bcase_intro (fun h => ?_) (fun h => ?_) <;> conv => whnf
  · have := hr h
    exact ⟨2, rfl, .inr ⟨rfl, this⟩⟩
  · repeat (first | (refine bcase_f rfl ?_; conv => whnf) | (refine bcase_t rfl ?_; conv => whnf) | (refine condK_of rfl ?_; conv => whnf) | (refine condK_of (by decide) ?_; conv => whnf) | (refine condK_of (by omega) ?_; conv => whnf) | (refine wrapK_in (w64 (by omega) (by omega)) ?_; conv => whnf))
    refine condK_of (encP_ok l) ?_
    conv => whnf
    refine roomK_le 1000100 100 (by show 0 + List.length _ ≤ 1000100; simp; omega) (by decide) (by decide) (by decide) ?_
    conv => whnf
    exact ⟨2, rfl, .inl ⟨5, rfl, rfl⟩⟩

/-! ### who has no pins -/
theorem loose_ok (x : Fr) : ACall Try.prog 54 [.agg (encF x)] (.bool (decide (x.2.1 = 0))) := by
  refine acall_of Try.func54 1 rfl (by kernel_rfl) ?_
  conv => whnf
  repeat (first | (refine bcase_f rfl ?_; conv => whnf) | (refine bcase_t rfl ?_; conv => whnf) | (refine condK_of rfl ?_; conv => whnf) | (refine condK_of (by decide) ?_; conv => whnf) | (refine condK_of (by omega) ?_; conv => whnf) | (refine wrapK_in (w64 (by omega) (by omega)) ?_; conv => whnf))
  exact ret_of rfl rfl
def looseAt (l : List Fr) (k : Nat) : Int :=
  match l with
  | [] => -1
  | x :: r => if x.2.1 = 0 then (k : Int) else looseAt r (k + 1)
theorem indexFunc_ok (l : List Fr) (hl : l.length ≤ 1000000) : ACall Try.prog 71 [.lst (l.map encF), .fn 54 []] (.int .i64 (looseAt l 0)) := by
  refine acall_of Try.func71 2 rfl (by kernel_rfl) ?_
  conv => whnf
  refine aloop (ι := Nat) (fun k => [(0, .d (.lst (l.map encF))), (1, .d (.fn 54 [])), (7, .d (.int .i64 (l.map encF).length)), (8, .d (.int .i64 k))]) (fun _ => [])
    (fun k => k ≤ l.length ∧ looseAt (l.drop k) k = looseAt l 0) (fun k => l.length - k) 0 ⟨Nat.zero_le _, rfl⟩ (le0 (le_of_cov ⟨rfl, rfl, rfl, rfl, trivial⟩ trivial ⟨rfl, rfl, rfl, rfl⟩)) ?_
  rintro k ⟨hk, hR⟩
  conv => whnf
  refine bcase_p (fun h => ?_) (fun h => ?_) <;> conv => whnf
  · have hk2 : k < l.length := by simpa using h
    refine idxK_nat (by simpa using hk2) ?_
    conv => whnf
    refine getRow_of (x := encF l[k]) (by simp [hk2]) ?_
    conv => whnf
    repeat (first | (refine bcase_f rfl ?_; conv => whnf) | (refine bcase_t rfl ?_; conv => whnf) | (refine condK_of rfl ?_; conv => whnf) | (refine condK_of (by decide) ?_; conv => whnf) | (refine condK_of (by omega) ?_; conv => whnf) | (refine wrapK_in (w64 (by omega) (by omega)) ?_; conv => whnf))
    rw [drop_cons hk2, looseAt] at hR
    refine callX_pure (loose_ok l[k]) ?_
    conv => whnf
    refine bcase_p (fun h2 => ?_) (fun h2 => ?_) <;> conv => whnf
    · rw [if_pos h2] at hR
      exact ret_of rfl (by rw [← hR]; rfl)
    · rw [if_neg h2] at hR
      repeat (first | (refine bcase_f rfl ?_; conv => whnf) | (refine bcase_t rfl ?_; conv => whnf) | (refine condK_of rfl ?_; conv => whnf) | (refine condK_of (by decide) ?_; conv => whnf) | (refine condK_of (by omega) ?_; conv => whnf) | (refine wrapK_in (w64 (by omega) (by omega)) ?_; conv => whnf))
      exact ⟨k + 1, ⟨by omega, hR⟩, by omega, le0 (le_of_cov ⟨rfl, rfl, rfl, rfl, trivial⟩ trivial ⟨rfl, rfl, rfl, rfl⟩)⟩
  · have : k = l.length := by simp at h; omega
    subst this
    simp [looseAt] at hR
    exact ret_of rfl (by rw [← hR]; rfl)
theorem containsFunc_ok (l : List Fr) (hl : l.length ≤ 1000000) : ACall Try.prog 55 [.lst (l.map encF), .fn 54 []] (.bool (decide (0 ≤ looseAt l 0))) := by
  refine acall_of Try.func55 2 rfl (by kernel_rfl) ?_
  conv => whnf
  refine callX_pure (indexFunc_ok l hl) ?_
  conv => whnf
  exact ret_of rfl rfl
end Go.Lk

set_option linter.unusedSimpArgs false
set_option linter.unusedVariables false
set_option linter.unnecessarySimpa false
namespace Go.Lk
open Go Go.Proofs Go.RowKit

/-! ### the sweep -/
def clr (x : Fr) : Fr := (x.1, x.2.1, false)
def pass (l : List Fr) (a : Nat) (h : a < l.length) : List Fr := if l[a].2.1 = 0 then l.set a (clr l[a]) else l
inductive Swp : List Fr → Nat → List Fr → Nat → Prop
  | stop (l : List Fr) (a : Nat) (h : a < l.length) (h1 : l[a].2.1 = 0) (h2 : l[a].2.2 = false) : Swp l a l a
  | go (l : List Fr) (a : Nat) (h : a < l.length) (l2 : List Fr) (a2 : Nat) (hn : ¬ (l[a].2.1 = 0 ∧ l[a].2.2 = false)) (r : Swp (pass l a h) ((a + 1) % l.length) l2 a2) : Swp l a l2 a2
theorem pass_len {l : List Fr} {a : Nat} {h : a < l.length} : (pass l a h).length = l.length := by unfold pass; split <;> simp
theorem pass_get {l : List Fr} {a i : Nat} {h : a < l.length} (hi : i < l.length) : ((pass l a h)[i]'(by rw [pass_len]; exact hi)).1 = l[i].1 ∧ ((pass l a h)[i]'(by rw [pass_len]; exact hi)).2.1 = l[i].2.1 := by
  unfold pass
  split
  · rw [List.getElem_set]
    split
    · rename_i e; subst e; exact ⟨rfl, rfl⟩
    · exact ⟨rfl, rfl⟩
  · exact ⟨rfl, rfl⟩
def used0 (l : List Fr) : Nat := l.countP fun x => decide (x.2.1 = 0) && x.2.2
def wayL (n a b : Nat) : Nat := (b + n - a) % n
def mSw (j : Nat) (l : List Fr) (a : Nat) : Nat := used0 l * l.length + wayL l.length a j
theorem used_set {l : List Fr} {a : Nat} (h : a < l.length) (h1 : l[a].2.1 = 0) (h2 : l[a].2.2 = true) : used0 (l.set a (clr l[a])) + 1 = used0 l := by
  have hp : 0 < used0 l := List.countP_pos_iff.2 ⟨l[a], List.getElem_mem h, by simp [h1, h2]⟩
  unfold used0 at *
  rw [List.countP_set h]
  simp only [h1, h2, clr, decide_true, Bool.and_self, if_true, Bool.and_false, Bool.false_eq_true, if_false]
  omega
theorem way_next {n a b : Nat} (ha : a < n) (hb : b < n) (hne : a ≠ b) : wayL n ((a + 1) % n) b < wayL n a b := by
  unfold wayL
  by_cases h : a < b
  · rw [Nat.mod_eq_of_lt (show a + 1 < n by omega), show b + n - a = (b - a) + n by omega, show b + n - (a + 1) = (b - a - 1) + n by omega, Nat.add_mod_right, Nat.add_mod_right, Nat.mod_eq_of_lt (by omega), Nat.mod_eq_of_lt (by omega)]
    omega
  · by_cases e : a + 1 = n
    · rw [e, Nat.mod_self, Nat.sub_zero, Nat.add_mod_right, Nat.mod_eq_of_lt hb, Nat.mod_eq_of_lt (by omega)]
      omega
    · rw [Nat.mod_eq_of_lt (show a + 1 < n by omega), Nat.mod_eq_of_lt (by omega), Nat.mod_eq_of_lt (by omega)]
      omega
theorem way_lt {n a b : Nat} (hn : 0 < n) : wayL n a b < n := Nat.mod_lt _ hn
theorem mSw_dec {j : Nat} {l : List Fr} {a : Nat} (ha : a < l.length) (hj : j < l.length) (lj : l[j].2.1 = 0) (hn : ¬ (l[a].2.1 = 0 ∧ l[a].2.2 = false)) : mSw j (pass l a ha) ((a + 1) % l.length) < mSw j l a := by
  unfold mSw
  rw [pass_len]
  by_cases h1 : l[a].2.1 = 0
  · have h2 : l[a].2.2 = true := by cases e : l[a].2.2 with | true => rfl | false => exact absurd ⟨h1, e⟩ hn
    have hu := used_set ha h1 h2
    rw [show pass l a ha = l.set a (clr l[a]) from if_pos h1]
    have hw := way_lt (n := l.length) (a := (a + 1) % l.length) (b := j) (by omega)
    rw [← hu, Nat.succ_mul]
    omega
  · rw [show pass l a ha = l from if_neg h1]
    have hne : a ≠ j := fun e => by subst e; exact h1 lj
    have := way_next ha hj hne
    omega
theorem swp_ex {j : Nat} : ∀ (n : Nat) {l : List Fr} {a : Nat} (ha : a < l.length) (hj : j < l.length), l[j].2.1 = 0 → mSw j l a < n → ∃ l2 a2, Swp l a l2 a2
  | 0, _, _, _, _, _, h => absurd h (Nat.not_lt_zero _)
  | n + 1, l, a, ha, hj, lj, h => by
    by_cases hs : l[a].2.1 = 0 ∧ l[a].2.2 = false
    · exact ⟨l, a, .stop l a ha hs.1 hs.2⟩
    · have hd := mSw_dec ha hj lj hs
      obtain ⟨l2, a2, r⟩ := swp_ex n (l := pass l a ha) (a := (a + 1) % l.length) (by rw [pass_len]; exact Nat.mod_lt _ (by omega)) (by rw [pass_len]; exact hj) (by rw [(pass_get hj).2]; exact lj) (by omega)
      exact ⟨l2, a2, .go l a ha l2 a2 hs r⟩
/-- what a sweep leaves alone -/
theorem Swp.out {l l2 : List Fr} {a a2 : Nat} (h : Swp l a l2 a2) : l2.length = l.length ∧ a2 < l.length ∧ (∀ i (hi : i < l.length) (hi2 : i < l2.length), l2[i].1 = l[i].1 ∧ l2[i].2.1 = l[i].2.1) ∧ ∃ h2 : a2 < l2.length, l2[a2].2.1 = 0 := by
  induction h with
  | stop l a h h1 h2 => exact ⟨rfl, h, fun i _ _ => ⟨rfl, rfl⟩, h, h1⟩
  | go l a h l2 a2 hn r ih =>
    obtain ⟨e1, e2, e3, e4⟩ := ih
    rw [pass_len] at e1 e2
    refine ⟨e1, e2, fun i hi hi2 => ?_, e4⟩
    have h1 := e3 i (by rw [pass_len]; exact hi) hi2
    have h2 := pass_get (h := h) hi
    exact ⟨h1.1.trans h2.1, h1.2.trans h2.2⟩

theorem looseAt_lt {l : List Fr} : ∀ {k : Nat}, looseAt l k < 0 ∨ ∃ i : Nat, looseAt l k = ((k + i : Nat) : Int) ∧ ∃ h : i < l.length, l[i].2.1 = 0 := by
  induction l with
  | nil => intro k; exact .inl (show (-1 : Int) < 0 by decide)
  | cons p r ih =>
    intro k
    simp only [looseAt]
    by_cases h : p.2.1 = 0
    · exact .inr ⟨0, by simp [h], by simp, by simpa using h⟩
    · rw [if_neg h]
      rcases ih (k := k + 1) with h1 | ⟨i, h1, h2, h3⟩
      · exact .inl h1
      · exact .inr ⟨i + 1, by rw [h1]; simp; omega, by simpa using h2, by simpa using h3⟩
theorem looseAt_no {l : List Fr} : ∀ {k : Nat}, looseAt l k < 0 → ∀ i (h : i < l.length), l[i].2.1 ≠ 0 := by
  induction l with
  | nil => intro k _ i h; exact absurd h (Nat.not_lt_zero _)
  | cons p r ih =>
    intro k hl i h
    simp only [looseAt] at hl
    by_cases e : p.2.1 = 0
    · rw [if_pos e] at hl; omega
    · rw [if_neg e] at hl
      cases i with
      | zero => simpa using e
      | succ i => simpa using ih hl i (by simpa using h)

theorem sweep_no (l : List Fr) (h : Int) (hn : clockB l h = false ∨ looseAt l 0 < 0) (hl : l.length ≤ 1000000) : ACall Try.prog 30 [encC l h] (.tup [encC l h, .int .i64 0, .bool false]) := by
  refine acall_of Try.func30 1 rfl (by kernel_rfl) ?_
  conv => whnf
  repeat (first | (refine bcase_f rfl ?_; conv => whnf) | (refine bcase_t rfl ?_; conv => whnf) | (refine condK_of rfl ?_; conv => whnf) | (refine condK_of (by decide) ?_; conv => whnf) | (refine condK_of (by omega) ?_; conv => whnf) | (refine wrapK_in (w64 (by omega) (by omega)) ?_; conv => whnf))
  refine callX_pure (clockRight_ok l h) ?_
  conv => whnf
  refine bcase_intro (fun h1 => ?_) (fun h1 => ?_) <;> conv => whnf
  · repeat (first | (refine bcase_f rfl ?_; conv => whnf) | (refine bcase_t rfl ?_; conv => whnf) | (refine condK_of rfl ?_; conv => whnf) | (refine condK_of (by decide) ?_; conv => whnf) | (refine condK_of (by omega) ?_; conv => whnf) | (refine wrapK_in (w64 (by omega) (by omega)) ?_; conv => whnf))
    exact ret_of rfl rfl
  repeat (first | (refine bcase_f rfl ?_; conv => whnf) | (refine bcase_t rfl ?_; conv => whnf) | (refine condK_of rfl ?_; conv => whnf) | (refine condK_of (by decide) ?_; conv => whnf) | (refine condK_of (by omega) ?_; conv => whnf) | (refine wrapK_in (w64 (by omega) (by omega)) ?_; conv => whnf))
  refine callX_pure (containsFunc_ok l hl) ?_
  conv => whnf
  refine bcase_intro (fun h2 => ?_) (fun h2 => ?_) <;> conv => whnf
  · repeat (first | (refine bcase_f rfl ?_; conv => whnf) | (refine bcase_t rfl ?_; conv => whnf) | (refine condK_of rfl ?_; conv => whnf) | (refine condK_of (by decide) ?_; conv => whnf) | (refine condK_of (by omega) ?_; conv => whnf) | (refine wrapK_in (w64 (by omega) (by omega)) ?_; conv => whnf))
    exact ret_of rfl rfl
  · exfalso
    simp at h1 h2
    rcases hn with hn | hn
    · rw [h1] at hn; cases hn
    · omega
theorem sweep_yes (l : List Fr) (h : Nat) (hR : CRight l h) {l2 : List Fr} {a2 : Nat} (hS : Swp l h l2 a2) : ACall Try.prog 30 [encC l h] (.tup [encC l2 (((a2 + 1) % l.length : Nat) : Int), .int .i64 a2, .bool true]) := by
  refine acall_of Try.func30 1 rfl (by kernel_rfl) ?_
  conv => whnf
  have hl1 := hR.one
  have hl8 := hR.most
  have hh := hR.h1
  repeat (first | (refine bcase_f rfl ?_; conv => whnf) | (refine bcase_t rfl ?_; conv => whnf) | (refine condK_of rfl ?_; conv => whnf) | (refine condK_of (by decide) ?_; conv => whnf) | (refine condK_of (by omega) ?_; conv => whnf) | (refine wrapK_in (w64 (by omega) (by omega)) ?_; conv => whnf))
  refine callX_pure (clockRight_ok l h) ?_
  conv => whnf
  refine bcase_f (by simp [clockB_t.2 hR]) ?_
  conv => whnf
  repeat (first | (refine bcase_f rfl ?_; conv => whnf) | (refine bcase_t rfl ?_; conv => whnf) | (refine condK_of rfl ?_; conv => whnf) | (refine condK_of (by decide) ?_; conv => whnf) | (refine condK_of (by omega) ?_; conv => whnf) | (refine wrapK_in (w64 (by omega) (by omega)) ?_; conv => whnf))
  have hj : ∃ j, ∃ hj : j < l.length, l[j].2.1 = 0 := by
    obtain ⟨e1, e2, e3, h2, e4⟩ := hS.out
    have := e3 a2 e2 h2
    exact ⟨a2, e2, by rw [← this.2]; exact e4⟩
  obtain ⟨j, hj, lj⟩ := hj
  refine callX_pure (containsFunc_ok l (by omega)) ?_
  conv => whnf
  have hlo : ¬ looseAt l 0 < 0 := fun e => looseAt_no e j hj lj
  refine bcase_f (by simp; omega) ?_
  conv => whnf
  repeat (first | (refine bcase_f rfl ?_; conv => whnf) | (refine bcase_t rfl ?_; conv => whnf) | (refine condK_of rfl ?_; conv => whnf) | (refine condK_of (by decide) ?_; conv => whnf) | (refine condK_of (by omega) ?_; conv => whnf) | (refine wrapK_in (w64 (by omega) (by omega)) ?_; conv => whnf))
  refine callX_own (cloneF_ok l (by omega)) ?_
  conv => whnf
  repeat (first | (refine bcase_f rfl ?_; conv => whnf) | (refine bcase_t rfl ?_; conv => whnf) | (refine condK_of rfl ?_; conv => whnf) | (refine condK_of (by decide) ?_; conv => whnf) | (refine condK_of (by omega) ?_; conv => whnf) | (refine wrapK_in (w64 (by omega) (by omega)) ?_; conv => whnf))
  refine aloop (ι := List Fr × Nat) (fun s => [(1, .ptr 1 0 0), (2, .ptr 2 0 0), (5, .d (.fn 54 [])), (6, .d (.int .i64 s.2))]) (fun s => [(1, .box [.own 19, .d (.int .i64 h)] false), (2, .box [.nil, .d (.int .i64 0)] false), (19, .row (s.1.map encF) 3 false)])
    (fun s => s.1.length = l.length ∧ s.2 < l.length ∧ Swp s.1 s.2 l2 a2 ∧ ∃ hj : j < s.1.length, s.1[j].2.1 = 0) (fun s => mSw j s.1 s.2) (l, h) ⟨rfl, by simp only []; omega, hS, hj, lj⟩ (le0 (le_of_cov ⟨rfl, rfl, rfl, rfl, trivial⟩ ⟨rfl, rfl, rfl, trivial⟩ ⟨rfl, rfl, rfl, rfl⟩)) ?_
  rintro ⟨l', a⟩ ⟨el, ha, hS, hj', lj'⟩
  simp only at el ha hS hj' lj' ⊢
  have ha' : a < l'.length := by omega
  have hm : (l'.map encF).length = l'.length := List.length_map ..
  conv => whnf
  repeat (first | (refine bcase_f rfl ?_; conv => whnf) | (refine bcase_t rfl ?_; conv => whnf) | (refine condK_of rfl ?_; conv => whnf) | (refine condK_of (by decide) ?_; conv => whnf) | (refine condK_of (by omega) ?_; conv => whnf) | (refine wrapK_in (w64 (by omega) (by omega)) ?_; conv => whnf))
  refine idxK_nat (by omega) ?_
  conv => whnf
  refine getRow_of (x := encF l'[a]) (by simp [ha']) ?_
  conv => whnf
  repeat (first | (refine bcase_f rfl ?_; conv => whnf) | (refine bcase_t rfl ?_; conv => whnf) | (refine condK_of rfl ?_; conv => whnf) | (refine condK_of (by decide) ?_; conv => whnf) | (refine condK_of (by omega) ?_; conv => whnf) | (refine wrapK_in (w64 (by omega) (by omega)) ?_; conv => whnf))
  refine callX_pure (loose_ok l'[a]) ?_
  conv => whnf
  have hmod : (((a : Int) + 1) % (l'.map encF).length : Int) = (((a + 1) % l'.length : Nat) : Int) := by rw [hm]; norm_cast
  refine bcase_n (fun h1 => ?_) (fun h1 => ?_) <;> conv => whnf
  · have hns : ¬ (l'[a].2.1 = 0 ∧ l'[a].2.2 = false) := fun e => h1 e.1
    have hp : pass l' a ha' = l' := if_neg h1
    have hr : Swp l' ((a + 1) % l'.length) l2 a2 := by
      cases hS with
      | stop _ _ h e1 e2 => exact absurd e1 h1
      | go _ _ h _ _ hn r => rw [hp] at r; exact r
    have hd := mSw_dec ha' hj' lj' hns
    rw [hp] at hd
    repeat (first | (refine bcase_f rfl ?_; conv => whnf) | (refine bcase_t rfl ?_; conv => whnf) | (refine condK_of rfl ?_; conv => whnf) | (refine condK_of (by decide) ?_; conv => whnf) | (refine condK_of (by omega) ?_; conv => whnf) | (refine wrapK_in (w64 (by omega) (by omega)) ?_; conv => whnf))
    refine idxK_nat (by omega) ?_
    conv => whnf
    refine getRow_of (x := encF l'[a]) (by simp [ha']) ?_
    conv => whnf
    repeat (first | (refine bcase_f rfl ?_; conv => whnf) | (refine bcase_t rfl ?_; conv => whnf) | (refine condK_of rfl ?_; conv => whnf) | (refine condK_of (by decide) ?_; conv => whnf) | (refine condK_of (by omega) ?_; conv => whnf) | (refine wrapK_in (w64 (by omega) (by omega)) ?_; conv => whnf))
    refine callX_pure (loose_ok l'[a]) ?_
    conv => whnf
    refine bcase_f (by simp [h1]) ?_
    conv => whnf
    repeat (first | (refine bcase_f rfl ?_; conv => whnf) | (refine bcase_t rfl ?_; conv => whnf) | (refine condK_of rfl ?_; conv => whnf) | (refine condK_of (by decide) ?_; conv => whnf) | (refine condK_of (by omega) ?_; conv => whnf) | (refine wrapK_in (w64 (by omega) (by omega)) ?_; conv => whnf))
    refine divK_rem (by omega) (by omega) ?_
    conv => whnf
    rw [hmod]
    repeat (first | (refine bcase_f rfl ?_; conv => whnf) | (refine bcase_t rfl ?_; conv => whnf) | (refine condK_of rfl ?_; conv => whnf) | (refine condK_of (by decide) ?_; conv => whnf) | (refine condK_of (by omega) ?_; conv => whnf) | (refine wrapK_in (w64 (by omega) (by omega)) ?_; conv => whnf))
    exact ⟨(l', (a + 1) % l'.length), ⟨el, by simp only []; rw [← el]; exact Nat.mod_lt _ (by omega), hr, hj', lj'⟩, hd, le0 (le_of_cov ⟨rfl, rfl, rfl, rfl, trivial⟩ ⟨rfl, rfl, rfl, trivial⟩ ⟨rfl, rfl, rfl, rfl⟩)⟩
  · repeat (first | (refine bcase_f rfl ?_; conv => whnf) | (refine bcase_t rfl ?_; conv => whnf) | (refine condK_of rfl ?_; conv => whnf) | (refine condK_of (by decide) ?_; conv => whnf) | (refine condK_of (by omega) ?_; conv => whnf) | (refine wrapK_in (w64 (by omega) (by omega)) ?_; conv => whnf))
    refine idxK_nat (by omega) ?_
    conv => whnf
    refine getRow_of (x := encF l'[a]) (by simp [ha']) ?_
    conv => whnf
    repeat (first | (refine bcase_f rfl ?_; conv => whnf) | (refine bcase_t rfl ?_; conv => whnf) | (refine condK_of rfl ?_; conv => whnf) | (refine condK_of (by decide) ?_; conv => whnf) | (refine condK_of (by omega) ?_; conv => whnf) | (refine wrapK_in (w64 (by omega) (by omega)) ?_; conv => whnf))
    refine bcase_intro (fun h2 => ?_) (fun h2 => ?_) <;> conv => whnf
    · have hns : ¬ (l'[a].2.1 = 0 ∧ l'[a].2.2 = false) := fun e => by rw [h2] at e; cases e.2
      have hp : pass l' a ha' = l'.set a (clr l'[a]) := if_pos h1
      have hr : Swp (l'.set a (clr l'[a])) ((a + 1) % l'.length) l2 a2 := by
        cases hS with
        | stop _ _ h e1 e2 => rw [h2] at e2; cases e2
        | go _ _ h _ _ hn r => rw [hp] at r; exact r
      have hd := mSw_dec ha' hj' lj' hns
      have hg := pass_get (h := ha') hj'
      have hm2 : ((l'.map encF).set a (encF (clr l'[a]))).length = l'.length := by rw [List.length_set, hm]
      repeat (first | (refine bcase_f rfl ?_; conv => whnf) | (refine bcase_t rfl ?_; conv => whnf) | (refine condK_of rfl ?_; conv => whnf) | (refine condK_of (by decide) ?_; conv => whnf) | (refine condK_of (by omega) ?_; conv => whnf) | (refine wrapK_in (w64 (by omega) (by omega)) ?_; conv => whnf))
      refine idxK_nat (by omega) ?_
      conv => whnf
      refine getRow_of (x := encF l'[a]) (by simp [ha']) ?_
      conv => whnf
      repeat (first | (refine bcase_f rfl ?_; conv => whnf) | (refine bcase_t rfl ?_; conv => whnf) | (refine condK_of rfl ?_; conv => whnf) | (refine condK_of (by decide) ?_; conv => whnf) | (refine condK_of (by omega) ?_; conv => whnf) | (refine wrapK_in (w64 (by omega) (by omega)) ?_; conv => whnf))
      refine callX_pure (loose_ok l'[a]) ?_
      conv => whnf
      refine bcase_t (by simp [h1]) ?_
      conv => whnf
      repeat (first | (refine bcase_f rfl ?_; conv => whnf) | (refine bcase_t rfl ?_; conv => whnf) | (refine condK_of rfl ?_; conv => whnf) | (refine condK_of (by decide) ?_; conv => whnf) | (refine condK_of (by omega) ?_; conv => whnf) | (refine wrapK_in (w64 (by omega) (by omega)) ?_; conv => whnf))
      refine idxK_nat (by omega) ?_
      conv => whnf
      refine getRow_of (x := encF l'[a]) (by simp [ha']) ?_
      conv => whnf
      repeat (first | (refine bcase_f rfl ?_; conv => whnf) | (refine bcase_t rfl ?_; conv => whnf) | (refine condK_of rfl ?_; conv => whnf) | (refine condK_of (by decide) ?_; conv => whnf) | (refine condK_of (by omega) ?_; conv => whnf) | (refine wrapK_in (w64 (by omega) (by omega)) ?_; conv => whnf))
      refine divK_rem (by show ((List.set _ _ _).length : Int) ≠ 0; rw [List.length_set]; omega) (by omega) ?_
      conv => whnf
      repeat (first | (refine bcase_f rfl ?_; conv => whnf) | (refine bcase_t rfl ?_; conv => whnf) | (refine condK_of rfl ?_; conv => whnf) | (refine condK_of (by decide) ?_; conv => whnf) | (refine condK_of (by omega) ?_; conv => whnf) | (refine wrapK_in (w64 (by omega) (by omega)) ?_; conv => whnf))
      refine ⟨(l'.set a (clr l'[a]), (a + 1) % l'.length), ⟨by simp only []; rw [List.length_set]; exact el, by simp only []; rw [← el]; exact Nat.mod_lt _ (by omega), hr, by rw [List.length_set]; exact hj', ?_⟩, by simp only []; rw [hp] at hd; exact hd, le0 (le_of_cov ⟨rfl, rfl, rfl, by
        show AV.d (.int .i64 (((a : Int) + 1) % ((List.set (l'.map encF) a _).length : Int))) = AV.d (.int .i64 (((a + 1) % l'.length : Nat) : Int)); rw [List.length_set, hmod], trivial⟩ ⟨rfl, rfl, by
        show some (Blk.row ((l'.map encF).set a (encF (clr l'[a]))) 3 false) = _; rw [List.map_set], trivial⟩ ⟨rfl, rfl, rfl, rfl⟩)⟩
      have hg2 := hg.2
      simp only [hp] at hg2
      rw [hg2]; exact lj'
    · have hst : l' = l2 ∧ a = a2 := by
        cases hS with
        | stop _ _ h e1 e2 => exact ⟨rfl, rfl⟩
        | go _ _ h _ _ hn r => exact absurd ⟨h1, h2⟩ hn
      obtain ⟨rfl, rfl⟩ := hst
      repeat (first | (refine bcase_f rfl ?_; conv => whnf) | (refine bcase_t rfl ?_; conv => whnf) | (refine condK_of rfl ?_; conv => whnf) | (refine condK_of (by decide) ?_; conv => whnf) | (refine condK_of (by omega) ?_; conv => whnf) | (refine wrapK_in (w64 (by omega) (by omega)) ?_; conv => whnf))
      refine divK_rem (by omega) (by omega) ?_
      conv => whnf
      rw [hmod, el]
      repeat (first | (refine bcase_f rfl ?_; conv => whnf) | (refine bcase_t rfl ?_; conv => whnf) | (refine condK_of rfl ?_; conv => whnf) | (refine condK_of (by decide) ?_; conv => whnf) | (refine condK_of (by omega) ?_; conv => whnf) | (refine wrapK_in (w64 (by omega) (by omega)) ?_; conv => whnf))
      exact ret_of rfl rfl
end Go.Lk

set_option linter.unusedSimpArgs false
set_option linter.unusedVariables false
set_option linter.unnecessarySimpa false
namespace Go.Lk
open Go Go.Proofs Go.RowKit

/-! ### frames -/
structure FX where
  fr : List Fr
  hand : Int
  tb : List (Int × Int)
  pg : List Pg
  dt : List (Int × Int)
def FX.cells (f : FX) : List D := [.lst (f.fr.map encF), .int .i64 f.hand, encIs f.tb, .lst (f.pg.map encP), encIs f.dt]
def encFS (f : FX) : D := .agg f.cells
def FX.box (f : FX) : List AV := [.d (.lst (f.fr.map encF)), .d (.int .i64 f.hand), .d (encIs f.tb), .d (.lst (f.pg.map encP)), .d (encIs f.dt)]
def noPg : Pg := (0, 0, .empty)
def FPlace (f : FX) (i : Nat) : Prop := ∀ (h : i < f.fr.length) (h2 : i < f.pg.length), (f.fr[i].1 = 0 ∧ f.fr[i].2.1 = 0 ∧ f.pg[i] = noPg) ∨ (f.fr[i].1 ≠ 0 ∧ f.fr[i].1 = f.pg[i].1 ∧ pgR f.pg[i] = true ∧ Tb.findS f.tb f.pg[i].1 = ((i : Int), true))
def nFr (l : List Fr) : Nat := l.countP fun x => !decide (x.1 = 0)
structure FRight (f : FX) : Prop where
  ck : CRight f.fr f.hand
  tb : Tb.RT f.tb
  dt : Dt.rightB f.dt = true
  len : f.pg.length = f.fr.length
  place : ∀ i, i < f.fr.length → FPlace f i
  cnt : Tb.cntS f.tb = nFr f.fr
  dirty : ∀ i (h : i < f.dt.length), (Tb.findS f.tb f.dt[i].1).2 = true
open Classical in
noncomputable def frightB (f : FX) : Bool := decide (FRight f)
theorem frightB_t {f : FX} : frightB f = true ↔ FRight f := by simp [frightB]
theorem frightB_f {f : FX} : frightB f = false ↔ ¬ FRight f := by simp [frightB]
theorem notF {f : FX} (h : ¬ FRight f) : D.bool false = D.bool (frightB f) := congrArg D.bool (frightB_f.2 h).symm
theorem nFr_take {l : List Fr} {k : Nat} (h : k < l.length) : nFr (l.take (k + 1)) = nFr (l.take k) + (if l[k].1 = 0 then 0 else 1) := by
  unfold nFr
  rw [take_snoc h, List.countP_append, List.countP_cons, List.countP_nil]
  by_cases e : l[k].1 = 0 <;> simp [e]

theorem fright_ok (f : FX) (h1 : f.tb.length ≤ 1000000) (h2 : f.dt.length ≤ 1000000) : ACall Try.prog 13 [encFS f] (.bool (frightB f)) := by
  refine acall_of Try.func13 1 rfl (by kernel_rfl) ?_
  conv => whnf
  have hmf : (f.fr.map encF).length = f.fr.length := List.length_map ..
  have hmp : (f.pg.map encP).length = f.pg.length := List.length_map ..
  have hmd : (f.dt.map encI).length = f.dt.length := List.length_map ..
  repeat (first | (refine bcase_f rfl ?_; conv => whnf) | (refine bcase_t rfl ?_; conv => whnf) | (refine condK_of rfl ?_; conv => whnf) | (refine condK_of (by decide) ?_; conv => whnf) | (refine condK_of (by omega) ?_; conv => whnf) | (refine wrapK_in (w64 (by omega) (by omega)) ?_; conv => whnf))
  refine callX_pure (clockRight_ok f.fr f.hand) ?_
  conv => whnf
  refine bcase_intro (fun g1 => ?_) (fun g1 => ?_) <;> conv => whnf
  · repeat (first | (refine bcase_f rfl ?_; conv => whnf) | (refine bcase_t rfl ?_; conv => whnf) | (refine condK_of rfl ?_; conv => whnf) | (refine condK_of (by decide) ?_; conv => whnf) | (refine condK_of (by omega) ?_; conv => whnf) | (refine wrapK_in (w64 (by omega) (by omega)) ?_; conv => whnf))
    exact ret_of rfl (notF fun h => by have := clockB_t.2 h.ck; simp [this] at g1)
  simp at g1
  repeat (first | (refine bcase_f rfl ?_; conv => whnf) | (refine bcase_t rfl ?_; conv => whnf) | (refine condK_of rfl ?_; conv => whnf) | (refine condK_of (by decide) ?_; conv => whnf) | (refine condK_of (by omega) ?_; conv => whnf) | (refine wrapK_in (w64 (by omega) (by omega)) ?_; conv => whnf))
  refine callX_pure (Tb.right_ok f.tb h1) ?_
  conv => whnf
  refine bcase_intro (fun g2 => ?_) (fun g2 => ?_) <;> conv => whnf
  · repeat (first | (refine bcase_f rfl ?_; conv => whnf) | (refine bcase_t rfl ?_; conv => whnf) | (refine condK_of rfl ?_; conv => whnf) | (refine condK_of (by decide) ?_; conv => whnf) | (refine condK_of (by omega) ?_; conv => whnf) | (refine wrapK_in (w64 (by omega) (by omega)) ?_; conv => whnf))
    exact ret_of rfl (notF fun h => by have := Tb.rightB_t.2 h.tb; simp [this] at g2)
  simp at g2
  repeat (first | (refine bcase_f rfl ?_; conv => whnf) | (refine bcase_t rfl ?_; conv => whnf) | (refine condK_of rfl ?_; conv => whnf) | (refine condK_of (by decide) ?_; conv => whnf) | (refine condK_of (by omega) ?_; conv => whnf) | (refine wrapK_in (w64 (by omega) (by omega)) ?_; conv => whnf))
  refine callX_pure (Dt.right_ok f.dt h2) ?_
  conv => whnf
  refine bcase_intro (fun g3 => ?_) (fun g3 => ?_) <;> conv => whnf
  · repeat (first | (refine bcase_f rfl ?_; conv => whnf) | (refine bcase_t rfl ?_; conv => whnf) | (refine condK_of rfl ?_; conv => whnf) | (refine condK_of (by decide) ?_; conv => whnf) | (refine condK_of (by omega) ?_; conv => whnf) | (refine wrapK_in (w64 (by omega) (by omega)) ?_; conv => whnf))
    exact ret_of rfl (notF fun h => by have := h.dt; simp [this] at g3)
  simp at g3
  have hC := clockB_t.1 g1
  have hT := Tb.rightB_t.1 g2
  have hl8 := hC.most
  repeat (first | (refine bcase_f rfl ?_; conv => whnf) | (refine bcase_t rfl ?_; conv => whnf) | (refine condK_of rfl ?_; conv => whnf) | (refine condK_of (by decide) ?_; conv => whnf) | (refine condK_of (by omega) ?_; conv => whnf) | (refine wrapK_in (w64 (by omega) (by omega)) ?_; conv => whnf))
  refine bcase_n (fun g4 => ?_) (fun g4 => ?_) <;> conv => whnf
  · exact ret_of rfl (notF fun h => g4 (by rw [hmp, hmf, h.len]))
  have hlen : f.pg.length = f.fr.length := by omega
  repeat (first | (refine bcase_f rfl ?_; conv => whnf) | (refine bcase_t rfl ?_; conv => whnf) | (refine condK_of rfl ?_; conv => whnf) | (refine condK_of (by decide) ?_; conv => whnf) | (refine condK_of (by omega) ?_; conv => whnf) | (refine wrapK_in (w64 (by omega) (by omega)) ?_; conv => whnf))
  refine aloop (ι := Nat) (fun k => [(1, .ptr 1 0 0), (3, .d (.int .i64 (nFr (f.fr.take k)))), (39, .d (.lst (f.fr.map encF))), (40, .d (.int .i64 (f.fr.map encF).length)), (41, .d (.int .i64 k))]) (fun _ => [(1, .box f.box false)])
    (fun k => k ≤ f.fr.length ∧ ∀ i, i < k → FPlace f i) (fun k => f.fr.length - k) 0 ⟨Nat.zero_le _, fun j h => absurd h (Nat.not_lt_zero _)⟩ (le0 (le_of_cov ⟨rfl, rfl, rfl, rfl, rfl, trivial⟩ ⟨rfl, trivial⟩ ⟨rfl, rfl, rfl, rfl⟩)) ?_
  rintro k ⟨hk, hR⟩
  have hck : nFr (f.fr.take k) ≤ 8 := Nat.le_trans List.countP_le_length (by simp; omega)
  conv => whnf
  refine bcase_p (fun h => ?_) (fun h => ?_) <;> conv => whnf
  · have hk2 : k < f.fr.length := by omega
    have hk3 : k < f.pg.length := by omega
    have hcs := nFr_take hk2
    have hlast (hs : FPlace f k) : ∀ j, j < k + 1 → FPlace f j := fun j hj => (Nat.lt_succ_iff_lt_or_eq.1 hj).elim (hR j) (fun e => by subst e; exact hs)
    refine idxK_nat (by omega) ?_
    conv => whnf
    refine getRow_of (x := encF f.fr[k]) (by simp [hk2]) ?_
    conv => whnf
    repeat (first | (refine bcase_f rfl ?_; conv => whnf) | (refine bcase_t rfl ?_; conv => whnf) | (refine condK_of rfl ?_; conv => whnf) | (refine condK_of (by decide) ?_; conv => whnf) | (refine condK_of (by omega) ?_; conv => whnf) | (refine wrapK_in (w64 (by omega) (by omega)) ?_; conv => whnf))
    refine idxK_nat (by omega) ?_
    conv => whnf
    refine getRow_of (x := encP f.pg[k]) (by simp [hk3]) ?_
    conv => whnf
    repeat (first | (refine bcase_f rfl ?_; conv => whnf) | (refine bcase_t rfl ?_; conv => whnf) | (refine condK_of rfl ?_; conv => whnf) | (refine condK_of (by decide) ?_; conv => whnf) | (refine condK_of (by omega) ?_; conv => whnf) | (refine wrapK_in (w64 (by omega) (by omega)) ?_; conv => whnf))
    refine bcase_p (fun g5 => ?_) (fun g5 => ?_) <;> conv => whnf
    · repeat (first | (refine bcase_f rfl ?_; conv => whnf) | (refine bcase_t rfl ?_; conv => whnf) | (refine condK_of rfl ?_; conv => whnf) | (refine condK_of (by decide) ?_; conv => whnf) | (refine condK_of (by omega) ?_; conv => whnf) | (refine wrapK_in (w64 (by omega) (by omega)) ?_; conv => whnf))
      refine bcase_n (fun g6 => ?_) (fun g6 => ?_) <;> conv => whnf
      · repeat (first | (refine bcase_f rfl ?_; conv => whnf) | (refine bcase_t rfl ?_; conv => whnf) | (refine condK_of rfl ?_; conv => whnf) | (refine condK_of (by decide) ?_; conv => whnf) | (refine condK_of (by omega) ?_; conv => whnf) | (refine wrapK_in (w64 (by omega) (by omega)) ?_; conv => whnf))
        exact ret_of rfl (notF fun h => by rcases h.place k hk2 hk2 hk3 with ⟨_, e, _⟩ | ⟨e, _⟩; exact g6 e; exact e g5)
      repeat (first | (refine bcase_f rfl ?_; conv => whnf) | (refine bcase_t rfl ?_; conv => whnf) | (refine condK_of rfl ?_; conv => whnf) | (refine condK_of (by decide) ?_; conv => whnf) | (refine condK_of (by omega) ?_; conv => whnf) | (refine wrapK_in (w64 (by omega) (by omega)) ?_; conv => whnf))
      have hpg : f.pg[k] = noPg ↔ (f.pg[k].1 = 0 ∧ f.pg[k].2.1 = 0 ∧ f.pg[k].2.2 = ByteArray.empty) := ⟨fun e => by rw [e]; exact ⟨rfl, rfl, rfl⟩, fun ⟨a, b, c⟩ => Prod.ext a (Prod.ext b c)⟩
      refine bcase_intro (fun g7 => ?_) (fun g7 => ?_) <;> conv => whnf
      · refine ret_of rfl (notF fun h => ?_)
        rcases h.place k hk2 hk2 hk3 with ⟨_, _, e⟩ | ⟨e, _⟩
        · have := hpg.1 e; simp [this] at g7
        · exact e g5
      · repeat (first | (refine bcase_f rfl ?_; conv => whnf) | (refine bcase_t rfl ?_; conv => whnf) | (refine condK_of rfl ?_; conv => whnf) | (refine condK_of (by decide) ?_; conv => whnf) | (refine condK_of (by omega) ?_; conv => whnf) | (refine wrapK_in (w64 (by omega) (by omega)) ?_; conv => whnf))
        have hz : f.pg[k] = noPg := hpg.2 (by simpa using g7)
        exact ⟨k + 1, ⟨by omega, hlast fun _ _ => .inl ⟨g5, by omega, hz⟩⟩, by omega, le0 (le_of_cov ⟨rfl, by
          show AV.d (.int .i64 (nFr (f.fr.take k))) = AV.d (.int .i64 (nFr (f.fr.take (k + 1)))); rw [hcs, if_pos g5]; rfl, rfl, rfl, rfl, trivial⟩ ⟨rfl, trivial⟩ ⟨rfl, rfl, rfl, rfl⟩)⟩
    · have hbad (hb : ¬ (f.fr[k].1 ≠ 0 ∧ f.fr[k].1 = f.pg[k].1 ∧ pgR f.pg[k] = true ∧ Tb.findS f.tb f.pg[k].1 = ((k : Int), true))) : ¬ FRight f := fun h => by
        rcases h.place k hk2 hk2 hk3 with ⟨e, _⟩ | e
        · exact g5 e
        · exact hb e
      repeat (first | (refine bcase_f rfl ?_; conv => whnf) | (refine bcase_t rfl ?_; conv => whnf) | (refine condK_of rfl ?_; conv => whnf) | (refine condK_of (by decide) ?_; conv => whnf) | (refine condK_of (by omega) ?_; conv => whnf) | (refine wrapK_in (w64 (by omega) (by omega)) ?_; conv => whnf))
      refine bcase_n (fun g8 => ?_) (fun g8 => ?_) <;> conv => whnf
      · repeat (first | (refine bcase_f rfl ?_; conv => whnf) | (refine bcase_t rfl ?_; conv => whnf) | (refine condK_of rfl ?_; conv => whnf) | (refine condK_of (by decide) ?_; conv => whnf) | (refine condK_of (by omega) ?_; conv => whnf) | (refine wrapK_in (w64 (by omega) (by omega)) ?_; conv => whnf))
        exact ret_of rfl (notF (hbad fun e => g8 e.2.1))
      repeat (first | (refine bcase_f rfl ?_; conv => whnf) | (refine bcase_t rfl ?_; conv => whnf) | (refine condK_of rfl ?_; conv => whnf) | (refine condK_of (by decide) ?_; conv => whnf) | (refine condK_of (by omega) ?_; conv => whnf) | (refine wrapK_in (w64 (by omega) (by omega)) ?_; conv => whnf))
      refine callX_pure (pageRight_ok f.pg[k]) ?_
      conv => whnf
      refine bcase_intro (fun g9 => ?_) (fun g9 => ?_) <;> conv => whnf
      · repeat (first | (refine bcase_f rfl ?_; conv => whnf) | (refine bcase_t rfl ?_; conv => whnf) | (refine condK_of rfl ?_; conv => whnf) | (refine condK_of (by decide) ?_; conv => whnf) | (refine condK_of (by omega) ?_; conv => whnf) | (refine wrapK_in (w64 (by omega) (by omega)) ?_; conv => whnf))
        exact ret_of rfl (notF (hbad fun e => by rw [e.2.2.1] at g9; cases g9))
      simp at g9
      repeat (first | (refine bcase_f rfl ?_; conv => whnf) | (refine bcase_t rfl ?_; conv => whnf) | (refine condK_of rfl ?_; conv => whnf) | (refine condK_of (by decide) ?_; conv => whnf) | (refine condK_of (by omega) ?_; conv => whnf) | (refine wrapK_in (w64 (by omega) (by omega)) ?_; conv => whnf))
      refine callX_pure (Tb.find_ok f.tb f.pg[k].1 h1) ?_
      conv => whnf
      repeat (first | (refine bcase_f rfl ?_; conv => whnf) | (refine bcase_t rfl ?_; conv => whnf) | (refine condK_of rfl ?_; conv => whnf) | (refine condK_of (by decide) ?_; conv => whnf) | (refine condK_of (by omega) ?_; conv => whnf) | (refine wrapK_in (w64 (by omega) (by omega)) ?_; conv => whnf))
      refine bcase_intro (fun g10 => ?_) (fun g10 => ?_) <;> conv => whnf
      · repeat (first | (refine bcase_f rfl ?_; conv => whnf) | (refine bcase_t rfl ?_; conv => whnf) | (refine condK_of rfl ?_; conv => whnf) | (refine condK_of (by decide) ?_; conv => whnf) | (refine condK_of (by omega) ?_; conv => whnf) | (refine wrapK_in (w64 (by omega) (by omega)) ?_; conv => whnf))
        exact ret_of rfl (notF (hbad fun e => by rw [e.2.2.2] at g10; cases g10))
      repeat (first | (refine bcase_f rfl ?_; conv => whnf) | (refine bcase_t rfl ?_; conv => whnf) | (refine condK_of rfl ?_; conv => whnf) | (refine condK_of (by decide) ?_; conv => whnf) | (refine condK_of (by omega) ?_; conv => whnf) | (refine wrapK_in (w64 (by omega) (by omega)) ?_; conv => whnf))
      refine bcase_n (fun g11 => ?_) (fun g11 => ?_) <;> conv => whnf
      · repeat (first | (refine bcase_f rfl ?_; conv => whnf) | (refine bcase_t rfl ?_; conv => whnf) | (refine condK_of rfl ?_; conv => whnf) | (refine condK_of (by decide) ?_; conv => whnf) | (refine condK_of (by omega) ?_; conv => whnf) | (refine wrapK_in (w64 (by omega) (by omega)) ?_; conv => whnf))
        exact ret_of rfl (notF (hbad fun e => g11 (by rw [e.2.2.2])))
      repeat (first | (refine bcase_f rfl ?_; conv => whnf) | (refine bcase_t rfl ?_; conv => whnf) | (refine condK_of rfl ?_; conv => whnf) | (refine condK_of (by decide) ?_; conv => whnf) | (refine condK_of (by omega) ?_; conv => whnf) | (refine wrapK_in (w64 (by omega) (by omega)) ?_; conv => whnf))
      have hfi : Tb.findS f.tb f.pg[k].1 = ((k : Int), true) := Prod.ext (by simpa using g11) (by simpa using g10)
      exact ⟨k + 1, ⟨by omega, hlast fun _ _ => .inr ⟨g5, by omega, g9, hfi⟩⟩, by omega, le0 (le_of_cov ⟨rfl, by
          show AV.d (.int .i64 ((nFr (f.fr.take k) : Int) + 1)) = AV.d (.int .i64 (nFr (f.fr.take (k + 1)))); rw [hcs, if_neg g5]; rfl, rfl, rfl, rfl, trivial⟩ ⟨rfl, trivial⟩ ⟨rfl, rfl, rfl, rfl⟩)⟩
  have hkl : k = f.fr.length := by omega
  subst hkl
  rw [List.take_length]
  have hpl : ((Tb.pagesS f.tb).map enc1).length = Tb.cntS f.tb := by rw [List.length_map, Tb.pages_len hT]
  repeat (first | (refine bcase_f rfl ?_; conv => whnf) | (refine bcase_t rfl ?_; conv => whnf) | (refine condK_of rfl ?_; conv => whnf) | (refine condK_of (by decide) ?_; conv => whnf) | (refine condK_of (by omega) ?_; conv => whnf) | (refine wrapK_in (w64 (by omega) (by omega)) ?_; conv => whnf))
  refine callX_pure (Tb.pages_ok f.tb h1) ?_
  conv => whnf
  repeat (first | (refine bcase_f rfl ?_; conv => whnf) | (refine bcase_t rfl ?_; conv => whnf) | (refine condK_of rfl ?_; conv => whnf) | (refine condK_of (by decide) ?_; conv => whnf) | (refine condK_of (by omega) ?_; conv => whnf) | (refine wrapK_in (w64 (by omega) (by omega)) ?_; conv => whnf))
  refine bcase_n (fun g12 => ?_) (fun g12 => ?_) <;> conv => whnf
  · exact ret_of rfl (notF fun h => g12 (by rw [hpl, h.cnt]))
  have hcnt : Tb.cntS f.tb = nFr f.fr := by omega
  repeat (first | (refine bcase_f rfl ?_; conv => whnf) | (refine bcase_t rfl ?_; conv => whnf) | (refine condK_of rfl ?_; conv => whnf) | (refine condK_of (by decide) ?_; conv => whnf) | (refine condK_of (by omega) ?_; conv => whnf) | (refine wrapK_in (w64 (by omega) (by omega)) ?_; conv => whnf))
  refine aloop (ι := Nat) (fun k => [(1, .ptr 1 0 0), (97, .d (encIs f.dt)), (98, .d (.int .i64 (f.dt.map encI).length)), (99, .d (.int .i64 k))]) (fun _ => [(1, .box f.box false)])
    (fun k => k ≤ f.dt.length ∧ ∀ i, i < k → ∀ h : i < f.dt.length, (Tb.findS f.tb f.dt[i].1).2 = true) (fun k => f.dt.length - k) 0 ⟨Nat.zero_le _, fun j h => absurd h (Nat.not_lt_zero _)⟩ (le0 (le_of_cov ⟨rfl, rfl, rfl, rfl, trivial⟩ ⟨rfl, trivial⟩ ⟨rfl, rfl, rfl, rfl⟩)) ?_
  rintro q ⟨hq, hQ⟩
  conv => whnf
  refine bcase_p (fun g13 => ?_) (fun g13 => ?_) <;> conv => whnf
  · have hq2 : q < f.dt.length := by omega
    refine idxK_nat (by omega) ?_
    conv => whnf
    refine getRow_of (x := encI f.dt[q]) (by simp [hq2]) ?_
    conv => whnf
    repeat (first | (refine bcase_f rfl ?_; conv => whnf) | (refine bcase_t rfl ?_; conv => whnf) | (refine condK_of rfl ?_; conv => whnf) | (refine condK_of (by decide) ?_; conv => whnf) | (refine condK_of (by omega) ?_; conv => whnf) | (refine wrapK_in (w64 (by omega) (by omega)) ?_; conv => whnf))
    refine callX_pure (Tb.find_ok f.tb f.dt[q].1 h1) ?_
    conv => whnf
    repeat (first | (refine bcase_f rfl ?_; conv => whnf) | (refine bcase_t rfl ?_; conv => whnf) | (refine condK_of rfl ?_; conv => whnf) | (refine condK_of (by decide) ?_; conv => whnf) | (refine condK_of (by omega) ?_; conv => whnf) | (refine wrapK_in (w64 (by omega) (by omega)) ?_; conv => whnf))
    refine bcase_intro (fun g14 => ?_) (fun g14 => ?_) <;> conv => whnf
    · repeat (first | (refine bcase_f rfl ?_; conv => whnf) | (refine bcase_t rfl ?_; conv => whnf) | (refine condK_of rfl ?_; conv => whnf) | (refine condK_of (by decide) ?_; conv => whnf) | (refine condK_of (by omega) ?_; conv => whnf) | (refine wrapK_in (w64 (by omega) (by omega)) ?_; conv => whnf))
      exact ret_of rfl (notF fun h => by have := h.dirty q hq2; rw [this] at g14; cases g14)
    · repeat (first | (refine bcase_f rfl ?_; conv => whnf) | (refine bcase_t rfl ?_; conv => whnf) | (refine condK_of rfl ?_; conv => whnf) | (refine condK_of (by decide) ?_; conv => whnf) | (refine condK_of (by omega) ?_; conv => whnf) | (refine wrapK_in (w64 (by omega) (by omega)) ?_; conv => whnf))
      exact ⟨q + 1, ⟨by omega, fun j hj hj2 => (Nat.lt_succ_iff_lt_or_eq.1 hj).elim (fun h => hQ j h hj2) (fun e => by subst e; simpa using g14)⟩, by omega, le0 (le_of_cov ⟨rfl, rfl, rfl, rfl, trivial⟩ ⟨rfl, trivial⟩ ⟨rfl, rfl, rfl, rfl⟩)⟩
  · exact ret_of rfl (congrArg D.bool (frightB_t.2 ⟨hC, hT, g3, hlen, fun i hi => hR i hi, hcnt, fun i hi => hQ i (by omega) hi⟩).symm)
end Go.Lk

set_option linter.unusedSimpArgs false
set_option linter.unusedVariables false
set_option linter.unnecessarySimpa false
namespace Go.Lk
open Go Go.Proofs Go.RowKit

theorem scall_of {f : FuncId} {fn : Func} {args : List D} {cs : List SC} (hf : Try.prog.funcs[f]? = some fn) (n : Nat) (hn : args.length = n) (hc : fnChk fn n = true) (h : AFnS T Try.prog fn args cs) : SCall Try.prog f args cs :=
  scall_sound tabOk mixed hf (by subst hn; exact hc) h

/-! ### the first free one -/
def freeAt (l : List Fr) (k : Nat) : Int :=
  match l with
  | [] => -1
  | p :: r => if p.1 = 0 then (k : Int) else freeAt r (k + 1)
def freeT (l : List Fr) : Int × Bool := if freeAt l 0 < 0 then (0, false) else (freeAt l 0, true)
theorem freeAt_lt {l : List Fr} : ∀ {k : Nat}, (freeAt l k < 0 ∧ ∀ i (h : i < l.length), l[i].1 ≠ 0) ∨ ∃ i : Nat, freeAt l k = ((k + i : Nat) : Int) ∧ ∃ h : i < l.length, l[i].1 = 0 := by
  induction l with
  | nil => intro k; exact .inl ⟨show (-1 : Int) < 0 by decide, fun i h => absurd h (Nat.not_lt_zero _)⟩
  | cons p r ih =>
    intro k
    simp only [freeAt]
    by_cases h : p.1 = 0
    · exact .inr ⟨0, by simp [h], by simp, by simpa using h⟩
    · rw [if_neg h]
      rcases ih (k := k + 1) with ⟨h1, h0⟩ | ⟨i, h1, h2, h3⟩
      · refine .inl ⟨h1, fun i hi => ?_⟩
        cases i with
        | zero => exact h
        | succ i => simpa using h0 i (by simpa using hi)
      · exact .inr ⟨i + 1, by rw [h1]; simp; omega, by simpa using h2, by simpa using h3⟩
theorem firstFree_ok (f : FX) (hl : f.fr.length ≤ 1000000) : ACall Try.prog 29 [encFS f] (.tup [.int .i64 (freeT f.fr).1, .bool (freeT f.fr).2]) := by
  refine acall_of Try.func29 1 rfl (by kernel_rfl) ?_
  conv => whnf
  repeat (first | (refine bcase_f rfl ?_; conv => whnf) | (refine bcase_t rfl ?_; conv => whnf) | (refine condK_of rfl ?_; conv => whnf) | (refine condK_of (by decide) ?_; conv => whnf) | (refine condK_of (by omega) ?_; conv => whnf) | (refine wrapK_in (w64 (by omega) (by omega)) ?_; conv => whnf))
  have hmf : (f.fr.map encF).length = f.fr.length := List.length_map ..
  refine aloop (ι := Nat) (fun k => [(8, .d (.lst (f.fr.map encF))), (9, .d (.int .i64 (f.fr.map encF).length)), (10, .d (.int .i64 k))]) (fun _ => [])
    (fun k => k ≤ f.fr.length ∧ freeAt (f.fr.drop k) k = freeAt f.fr 0) (fun k => f.fr.length - k) 0 ⟨Nat.zero_le _, rfl⟩ (le0 (le_of_cov ⟨rfl, rfl, rfl, trivial⟩ trivial ⟨rfl, rfl, rfl, rfl⟩)) ?_
  rintro k ⟨hk, hR⟩
  conv => whnf
  refine bcase_p (fun h => ?_) (fun h => ?_) <;> conv => whnf
  · have hk2 : k < f.fr.length := by omega
    refine idxK_nat (by omega) ?_
    conv => whnf
    refine getRow_of (x := encF f.fr[k]) (by simp [hk2]) ?_
    conv => whnf
    repeat (first | (refine bcase_f rfl ?_; conv => whnf) | (refine bcase_t rfl ?_; conv => whnf) | (refine condK_of rfl ?_; conv => whnf) | (refine condK_of (by decide) ?_; conv => whnf) | (refine condK_of (by omega) ?_; conv => whnf) | (refine wrapK_in (w64 (by omega) (by omega)) ?_; conv => whnf))
    rw [drop_cons hk2, freeAt] at hR
    refine bcase_p (fun h2 => ?_) (fun h2 => ?_) <;> conv => whnf
    · rw [if_pos h2] at hR
      refine ret_of rfl ?_
      have : freeT f.fr = ((k : Int), true) := by rw [freeT, ← hR, if_neg (by omega)]
      rw [this]; rfl
    · rw [if_neg h2] at hR
      repeat (first | (refine bcase_f rfl ?_; conv => whnf) | (refine bcase_t rfl ?_; conv => whnf) | (refine condK_of rfl ?_; conv => whnf) | (refine condK_of (by decide) ?_; conv => whnf) | (refine condK_of (by omega) ?_; conv => whnf) | (refine wrapK_in (w64 (by omega) (by omega)) ?_; conv => whnf))
      exact ⟨k + 1, ⟨by omega, hR⟩, by omega, le0 (le_of_cov ⟨rfl, rfl, rfl, trivial⟩ trivial ⟨rfl, rfl, rfl, rfl⟩)⟩
  · have hkl : k = f.fr.length := by omega
    subst hkl
    simp [freeAt] at hR
    refine ret_of rfl ?_
    have : freeT f.fr = (0, false) := by rw [freeT, ← hR, if_pos (by omega)]
    rw [this]; rfl

theorem find0_ok (f : FX) (p : Int) (h1 : f.tb.length ≤ 1000000) : ACall Try.prog 33 [encFS f, .int .i64 p] (.tup [.int .i64 (Tb.findS f.tb p).1, .bool (Tb.findS f.tb p).2]) := by
  refine acall_of Try.func33 2 rfl (by kernel_rfl) ?_
  conv => whnf
  repeat (first | (refine bcase_f rfl ?_; conv => whnf) | (refine bcase_t rfl ?_; conv => whnf) | (refine condK_of rfl ?_; conv => whnf) | (refine condK_of (by decide) ?_; conv => whnf) | (refine condK_of (by omega) ?_; conv => whnf) | (refine wrapK_in (w64 (by omega) (by omega)) ?_; conv => whnf))
  refine callX_pure (Tb.find_ok f.tb p h1) ?_
  conv => whnf
  repeat (first | (refine bcase_f rfl ?_; conv => whnf) | (refine bcase_t rfl ?_; conv => whnf) | (refine condK_of rfl ?_; conv => whnf) | (refine condK_of (by decide) ?_; conv => whnf) | (refine condK_of (by omega) ?_; conv => whnf) | (refine wrapK_in (w64 (by omega) (by omega)) ?_; conv => whnf))
  exact ret_of rfl rfl

open Classical in
noncomputable def lookS (f : FX) (p : Int) : Int × Int := if FRight f then (if (Tb.findS f.tb p).2 = true then ((Tb.findS f.tb p).1, 0) else (0, 3)) else (0, 1)
theorem look_ok (f : FX) (p : Int) (h1 : f.tb.length ≤ 1000000) (h2 : f.dt.length ≤ 1000000) : ACall Try.prog 44 [encFS f, .int .i64 p] (.tup [.int .i64 (lookS f p).1, .int .i64 (lookS f p).2]) := by
  refine acall_of Try.func44 2 rfl (by kernel_rfl) ?_
  conv => whnf
  repeat (first | (refine bcase_f rfl ?_; conv => whnf) | (refine bcase_t rfl ?_; conv => whnf) | (refine condK_of rfl ?_; conv => whnf) | (refine condK_of (by decide) ?_; conv => whnf) | (refine condK_of (by omega) ?_; conv => whnf) | (refine wrapK_in (w64 (by omega) (by omega)) ?_; conv => whnf))
  refine callX_pure (fright_ok f h1 h2) ?_
  conv => whnf
  refine bcase_intro (fun g1 => ?_) (fun g1 => ?_) <;> conv => whnf
  · repeat (first | (refine bcase_f rfl ?_; conv => whnf) | (refine bcase_t rfl ?_; conv => whnf) | (refine condK_of rfl ?_; conv => whnf) | (refine condK_of (by decide) ?_; conv => whnf) | (refine condK_of (by omega) ?_; conv => whnf) | (refine wrapK_in (w64 (by omega) (by omega)) ?_; conv => whnf))
    simp at g1
    exact ret_of rfl (by rw [lookS, if_neg (frightB_f.1 g1)]; rfl)
  repeat (first | (refine bcase_f rfl ?_; conv => whnf) | (refine bcase_t rfl ?_; conv => whnf) | (refine condK_of rfl ?_; conv => whnf) | (refine condK_of (by decide) ?_; conv => whnf) | (refine condK_of (by omega) ?_; conv => whnf) | (refine wrapK_in (w64 (by omega) (by omega)) ?_; conv => whnf))
  simp at g1
  have hR := frightB_t.1 g1
  refine callX_pure (find0_ok f p h1) ?_
  conv => whnf
  repeat (first | (refine bcase_f rfl ?_; conv => whnf) | (refine bcase_t rfl ?_; conv => whnf) | (refine condK_of rfl ?_; conv => whnf) | (refine condK_of (by decide) ?_; conv => whnf) | (refine condK_of (by omega) ?_; conv => whnf) | (refine wrapK_in (w64 (by omega) (by omega)) ?_; conv => whnf))
  refine bcase_intro (fun g2 => ?_) (fun g2 => ?_) <;> conv => whnf
  · repeat (first | (refine bcase_f rfl ?_; conv => whnf) | (refine bcase_t rfl ?_; conv => whnf) | (refine condK_of rfl ?_; conv => whnf) | (refine condK_of (by decide) ?_; conv => whnf) | (refine condK_of (by omega) ?_; conv => whnf) | (refine wrapK_in (w64 (by omega) (by omega)) ?_; conv => whnf))
    simp at g2
    exact ret_of rfl (by rw [lookS, if_pos hR, if_neg (by simp [g2])]; rfl)
  · repeat (first | (refine bcase_f rfl ?_; conv => whnf) | (refine bcase_t rfl ?_; conv => whnf) | (refine condK_of rfl ?_; conv => whnf) | (refine condK_of (by decide) ?_; conv => whnf) | (refine condK_of (by omega) ?_; conv => whnf) | (refine wrapK_in (w64 (by omega) (by omega)) ?_; conv => whnf))
    simp at g2
    exact ret_of rfl (by rw [lookS, if_pos hR, if_pos g2]; rfl)

open Classical in
noncomputable def findF (f : FX) (p : Int) : Int × Bool := if FRight f then Tb.findS f.tb p else (0, false)
theorem Find_ok (f : FX) (p : Int) (h1 : f.tb.length ≤ 1000000) (h2 : f.dt.length ≤ 1000000) : ACall Try.prog 12 [encFS f, .int .i64 p] (.tup [.int .i64 (findF f p).1, .bool (findF f p).2]) := by
  refine acall_of Try.func12 2 rfl (by kernel_rfl) ?_
  conv => whnf
  repeat (first | (refine bcase_f rfl ?_; conv => whnf) | (refine bcase_t rfl ?_; conv => whnf) | (refine condK_of rfl ?_; conv => whnf) | (refine condK_of (by decide) ?_; conv => whnf) | (refine condK_of (by omega) ?_; conv => whnf) | (refine wrapK_in (w64 (by omega) (by omega)) ?_; conv => whnf))
  refine callX_pure (fright_ok f h1 h2) ?_
  conv => whnf
  refine bcase_intro (fun g1 => ?_) (fun g1 => ?_) <;> conv => whnf
  · repeat (first | (refine bcase_f rfl ?_; conv => whnf) | (refine bcase_t rfl ?_; conv => whnf) | (refine condK_of rfl ?_; conv => whnf) | (refine condK_of (by decide) ?_; conv => whnf) | (refine condK_of (by omega) ?_; conv => whnf) | (refine wrapK_in (w64 (by omega) (by omega)) ?_; conv => whnf))
    simp at g1
    exact ret_of rfl (by rw [findF, if_neg (frightB_f.1 g1)]; rfl)
  repeat (first | (refine bcase_f rfl ?_; conv => whnf) | (refine bcase_t rfl ?_; conv => whnf) | (refine condK_of rfl ?_; conv => whnf) | (refine condK_of (by decide) ?_; conv => whnf) | (refine condK_of (by omega) ?_; conv => whnf) | (refine wrapK_in (w64 (by omega) (by omega)) ?_; conv => whnf))
  simp at g1
  have hR := frightB_t.1 g1
  refine callX_pure (find0_ok f p h1) ?_
  conv => whnf
  repeat (first | (refine bcase_f rfl ?_; conv => whnf) | (refine bcase_t rfl ?_; conv => whnf) | (refine condK_of rfl ?_; conv => whnf) | (refine condK_of (by decide) ?_; conv => whnf) | (refine condK_of (by omega) ?_; conv => whnf) | (refine wrapK_in (w64 (by omega) (by omega)) ?_; conv => whnf))
  exact ret_of rfl (by rw [findF, if_pos hR]; rfl)

theorem parted_ok (f : FX) (h1 : f.fr.length ≤ 1000000) (h2 : f.pg.length ≤ 1000000) : SCall Try.prog 41 [encFS f] [.row (f.fr.map encF) 3, .d (.int .i64 f.hand), .d (encIs f.tb), .row (f.pg.map encP) 3, .d (encIs f.dt)] := by
  refine scall_of Try.func41 1 rfl (by kernel_rfl) ?_
  conv => whnf
  repeat (first | (refine bcase_f rfl ?_; conv => whnf) | (refine bcase_t rfl ?_; conv => whnf) | (refine condK_of rfl ?_; conv => whnf) | (refine condK_of (by decide) ?_; conv => whnf) | (refine condK_of (by omega) ?_; conv => whnf) | (refine wrapK_in (w64 (by omega) (by omega)) ?_; conv => whnf))
  refine callX_own (cloneF_ok f.fr h1) ?_
  conv => whnf
  repeat (first | (refine bcase_f rfl ?_; conv => whnf) | (refine bcase_t rfl ?_; conv => whnf) | (refine condK_of rfl ?_; conv => whnf) | (refine condK_of (by decide) ?_; conv => whnf) | (refine condK_of (by omega) ?_; conv => whnf) | (refine wrapK_in (w64 (by omega) (by omega)) ?_; conv => whnf))
  refine callX_own (cloneP_ok f.pg h2) ?_
  conv => whnf
  repeat (first | (refine bcase_f rfl ?_; conv => whnf) | (refine bcase_t rfl ?_; conv => whnf) | (refine condK_of rfl ?_; conv => whnf) | (refine condK_of (by decide) ?_; conv => whnf) | (refine condK_of (by omega) ?_; conv => whnf) | (refine wrapK_in (w64 (by omega) (by omega)) ?_; conv => whnf))
  exact ⟨_, _, rfl, rfl, .inl ⟨_, rfl, rfl, rfl, rfl, rfl, .inl ⟨_, rfl, rfl, rfl, rfl, trivial⟩⟩⟩

def newFS (n : Nat) : FX := ⟨List.replicate n (0, 0, false), 0, List.replicate 16 (0, 0), List.replicate n noPg, []⟩
def noFS : FX := ⟨[], 0, [], [], []⟩
end Go.Lk

set_option linter.unusedSimpArgs false
set_option linter.unusedVariables false
set_option linter.unnecessarySimpa false
namespace Go.Lk
open Go Go.Proofs Go.RowKit

/-! ### what right frames are, slot by slot -/
theorem all_in : ∀ {a b : List Int}, a.Nodup → (∀ x ∈ a, x ∈ b) → b.length ≤ a.length → ∀ x ∈ b, x ∈ a
  | [], b, _, _, h, x, hx => by
    have : b = [] := List.length_eq_zero_iff.1 (by simpa using h)
    rw [this] at hx; exact hx
  | y :: r, b, hn, hs, h, x, hx => by
    rw [List.nodup_cons] at hn
    have hy := hs y (List.mem_cons_self ..)
    by_cases e : x = y
    · subst e; exact List.mem_cons_self ..
    · refine List.mem_cons_of_mem _ (all_in (b := b.erase y) hn.2 (fun z hz => ?_) ?_ x ?_)
      · exact (List.mem_erase_of_ne (fun e => hn.1 (by rw [← e]; exact hz))).2 (hs z (List.mem_cons_of_mem _ hz))
      · rw [List.length_erase_of_mem hy]; simp at h; omega
      · exact (List.mem_erase_of_ne e).2 hx

theorem find_mem {l : List (Int × Int)} (h : Tb.RT l) {p i : Int} : Tb.findS l p = (i, true) ↔ 1 ≤ p ∧ Tb.MemS l (p, i) := by
  constructor
  · intro hf
    have hr := Tb.rightB_t.2 h
    unfold Tb.findS at hf
    split at hf
    · cases hf
    · rename_i hn
      have hp : (Tb.placeT l p).2 = true := by
        cases e : (Tb.placeT l p).2 with
        | true => rfl
        | false => exact absurd (.inr e) hn
      obtain ⟨j, e1, e2, e3⟩ := Tb.placeT_t hp
      rw [e1, Int.toNat_natCast] at hf
      have hj : j < 16 := by rw [← h.len]; exact e2
      refine ⟨?_, j, hj, ?_⟩
      · unfold Tb.placeT at hp
        split at hp
        · cases hp
        · rename_i hq; omega
      · have h1 := congrArg Prod.fst hf
        simp only at h1
        exact Prod.ext (by rw [Tb.at_eq e2]; exact e3) h1
  · rintro ⟨hp, j, hj, e⟩
    exact Tb.find_yes h hp hj e
theorem find_nomem {l : List (Int × Int)} (h : Tb.RT l) {p : Int} (hp : 1 ≤ p) : (Tb.findS l p).2 = false ↔ ∀ i, ¬ Tb.MemS l (p, i) := by
  constructor
  · intro h1 i hm
    rw [(find_mem h).2 ⟨hp, hm⟩] at h1; cases h1
  · intro h1
    cases e : (Tb.findS l p).2 with
    | false => rfl
    | true => exact absurd ((find_mem h).1 (Prod.ext rfl e)).2 (h1 _)
theorem find_false {l : List (Int × Int)} {p : Int} (h : (Tb.findS l p).2 = false) : Tb.findS l p = (0, false) := by
  unfold Tb.findS at h ⊢
  split
  · rfl
  · rename_i hn; rw [if_neg hn] at h; cases h
theorem mem_uni {l : List (Int × Int)} (h : Tb.RT l) {p i j : Int} (hp : 1 ≤ p) (hi : Tb.MemS l (p, i)) (hj : Tb.MemS l (p, j)) : i = j := by
  have := (find_mem h).2 ⟨hp, hi⟩
  rw [(find_mem h).2 ⟨hp, hj⟩] at this
  exact (congrArg Prod.fst this).symm

/-- a place of right frames, by the table's slots -/
def PlaceM (f : FX) (i : Nat) : Prop := ∀ (h : i < f.fr.length) (h2 : i < f.pg.length), (f.fr[i].1 = 0 ∧ f.fr[i].2.1 = 0 ∧ f.pg[i] = noPg) ∨ (1 ≤ f.fr[i].1 ∧ f.fr[i].1 = f.pg[i].1 ∧ pgR f.pg[i] = true ∧ Tb.MemS f.tb (f.fr[i].1, (i : Int)))
structure FM (f : FX) : Prop where
  ck : CRight f.fr f.hand
  tb : Tb.RT f.tb
  dt : Dt.rightB f.dt = true
  len : f.pg.length = f.fr.length
  place : ∀ i, i < f.fr.length → PlaceM f i
  cnt : Tb.cntS f.tb = nFr f.fr
  dirty : ∀ x ∈ f.dt, ∃ i, Tb.MemS f.tb (x.1, i)
theorem fm_iff {f : FX} : FRight f ↔ FM f := by
  constructor
  · intro h
    refine ⟨h.ck, h.tb, h.dt, h.len, fun i hi h1 h2 => ?_, h.cnt, fun x hx => ?_⟩
    · rcases h.place i hi h1 h2 with e | ⟨e1, e2, e3, e4⟩
      · exact .inl e
      · obtain ⟨q1, q2⟩ := (find_mem h.tb).1 e4
        exact .inr ⟨by rw [e2]; exact q1, e2, e3, by rw [e2]; exact q2⟩
    · obtain ⟨i, hi, rfl⟩ := List.mem_iff_getElem.1 hx
      exact ⟨_, ((find_mem h.tb).1 (Prod.ext rfl (h.dirty i hi))).2⟩
  · intro h
    refine ⟨h.ck, h.tb, h.dt, h.len, fun i hi h1 h2 => ?_, h.cnt, fun i hi => ?_⟩
    · rcases h.place i hi h1 h2 with e | ⟨e1, e2, e3, e4⟩
      · exact .inl e
      · exact .inr ⟨by omega, e2, e3, (find_mem h.tb).2 ⟨by omega, by rw [← e2]; exact e4⟩⟩
    · obtain ⟨j, hj⟩ := h.dirty _ (List.getElem_mem hi)
      have hd := (Dt.rightB_out h.dt).2 i hi
      rw [(find_mem h.tb).2 ⟨hd.2.1, hj⟩]

def frPages (l : List Fr) : List Int := (l.filter fun x => !decide (x.1 = 0)).map (·.1)
theorem frPages_len (l : List Fr) : (frPages l).length = nFr l := by
  unfold frPages nFr
  rw [List.length_map, List.countP_eq_length_filter]
theorem frPages_mem {l : List Fr} {p : Int} : p ∈ frPages l ↔ p ≠ 0 ∧ ∃ i, ∃ h : i < l.length, l[i].1 = p := by
  unfold frPages
  rw [List.mem_map]
  constructor
  · rintro ⟨x, hx, rfl⟩
    obtain ⟨h1, h2⟩ := List.mem_filter.1 hx
    obtain ⟨i, hi, rfl⟩ := List.mem_iff_getElem.1 h1
    exact ⟨by simpa using h2, i, hi, rfl⟩
  · rintro ⟨h0, i, hi, rfl⟩
    exact ⟨l[i], List.mem_filter.2 ⟨List.getElem_mem hi, by simpa using h0⟩, rfl⟩
/-- no page stands twice -/
theorem FM.uni {f : FX} (h : FM f) {i j : Nat} (hi : i < f.fr.length) (hj : j < f.fr.length) (h0 : f.fr[i].1 ≠ 0) (e : f.fr[i].1 = f.fr[j].1) : i = j := by
  rcases h.place i hi hi (by rw [h.len]; exact hi) with q | ⟨q1, _, _, q2⟩
  · exact absurd q.1 h0
  rcases h.place j hj hj (by rw [h.len]; exact hj) with r | ⟨r1, _, _, r2⟩
  · exact absurd (e.trans r.1) h0
  have := mem_uni h.tb q1 q2 (e ▸ r2)
  omega
theorem nodup_pages : ∀ {l : List Fr}, (∀ i j, (hi : i < l.length) → (hj : j < l.length) → l[i].1 ≠ 0 → l[i].1 = l[j].1 → i = j) → (frPages l).Nodup
  | [], _ => by simp [frPages]
  | x :: r, h => by
    have ih := nodup_pages (l := r) fun i j hi hj h0 e => by
      have := h (i + 1) (j + 1) (by simpa using hi) (by simpa using hj) (by simpa using h0) (by simpa using e)
      omega
    unfold frPages at ih ⊢
    by_cases hx : x.1 = 0
    · rw [List.filter_cons_of_neg (by simp [hx])]; exact ih
    · rw [List.filter_cons_of_pos (by simp [hx]), List.map_cons, List.nodup_cons]
      refine ⟨fun hm => ?_, ih⟩
      obtain ⟨_, j, hj, e⟩ := frPages_mem.1 hm
      have := h 0 (j + 1) (by simp) (by simpa using hj) (by simpa using hx) (by simpa using e.symm)
      omega
def tbPages (l : List (Int × Int)) : List Int := (l.filter fun x => !Tb.freeB x).map (·.1)
/-- every page of the table has its frame -/
theorem FM.frame {f : FX} (h : FM f) {p k : Int} (hp : 1 ≤ p) (hm : Tb.MemS f.tb (p, k)) : ∃ i : Nat, k = i ∧ ∃ hi : i < f.fr.length, f.fr[i].1 = p := by
  have h16 := h.tb.len
  have hin : p ∈ tbPages f.tb := by
    obtain ⟨j, hj, e⟩ := hm
    refine List.mem_map.2 ⟨(p, k), List.mem_filter.2 ⟨?_, by simp [Tb.page_nonfree (x := (p, k)) hp]⟩, rfl⟩
    rw [← e, Tb.at_eq (by omega)]
    exact List.getElem_mem _
  have := all_in (a := frPages f.fr) (b := tbPages f.tb) (nodup_pages fun i j hi hj h0 e => h.uni hi hj h0 e) (fun x hx => ?_) (by
      rw [frPages_len, ← h.cnt]
      unfold tbPages Tb.cntS
      rw [List.length_map, List.countP_eq_length_filter]; exact Nat.le_refl _) p hin
  · obtain ⟨h0, i, hi, e⟩ := frPages_mem.1 this
    rcases h.place i hi hi (by rw [h.len]; exact hi) with q | ⟨q1, _, _, q2⟩
    · exact absurd (e.symm.trans q.1) h0
    · exact ⟨i, mem_uni h.tb hp hm (e ▸ q2), hi, e⟩
  · obtain ⟨h0, i, hi, e⟩ := frPages_mem.1 hx
    rcases h.place i hi hi (by rw [h.len]; exact hi) with q | ⟨q1, _, _, q2⟩
    · exact absurd (e.symm.trans q.1) h0
    · obtain ⟨j, hj, e2⟩ := q2
      refine List.mem_map.2 ⟨(f.fr[i].1, (i : Int)), List.mem_filter.2 ⟨?_, by simp [Tb.page_nonfree (x := (f.fr[i].1, (i : Int))) q1]⟩, e⟩
      rw [← e2, Tb.at_eq (by omega)]
      exact List.getElem_mem _
theorem FM.nfr {f : FX} (h : FM f) : Tb.cntS f.tb ≤ 8 := by
  rw [h.cnt]; exact Nat.le_trans List.countP_le_length h.ck.most
theorem cut_few {l : List (Int × Int)} (h : Tb.RT l) (hc : Tb.cntS l < 16) : Tb.Cut l := by
  have : ¬ ∀ j, j < 16 → Tb.freeB (Tb.at' l j) = false := fun h1 => by have := (Tb.cnt_full h.len).2 h1; omega
  obtain ⟨z, hz⟩ := Classical.not_forall.1 this
  obtain ⟨hz1, hz2⟩ := Classical.not_imp.1 hz
  exact ⟨z, Tb.free_cut h hz1 (by simpa using hz2)⟩

/-- where a page of right frames is -/
structure AtF (f : FX) (p : Int) (i : Nat) : Prop where
  right : FM f
  hi : i < f.fr.length
  hp : i < f.pg.length
  p1 : 1 ≤ p
  p16 : p ≤ 16
  fr : f.fr[i].1 = p
  pg : f.pg[i].1 = p
  pgr : pgR f.pg[i] = true
  mem : Tb.MemS f.tb (p, (i : Int))
theorem atF_of {f : FX} {p : Int} {i : Nat} (h : FM f) (hp : p ≠ 0) (hi : i < f.fr.length) (e : f.fr[i].1 = p) : AtF f p i := by
  rcases h.place i hi hi (by rw [h.len]; exact hi) with q | ⟨q1, q2, q3, q4⟩
  · exact absurd (e.symm.trans q.1) hp
  · exact ⟨h, hi, by rw [h.len]; exact hi, e ▸ q1, by have := (pgR_out.1 q3).2.1; omega, e, by rw [← q2]; exact e, q3, e ▸ q4⟩
theorem look_cases (f : FX) (p : Int) : (¬ FRight f ∧ lookS f p = (0, 1)) ∨ (FRight f ∧ Tb.findS f.tb p = (0, false) ∧ lookS f p = (0, 3)) ∨ ∃ i : Nat, Tb.findS f.tb p = ((i : Int), true) ∧ lookS f p = ((i : Int), 0) ∧ AtF f p i := by
  unfold lookS
  by_cases h : FRight f
  · rw [if_pos h]
    cases e : (Tb.findS f.tb p).2 with
    | false => exact .inr (.inl ⟨h, find_false e, by simp⟩)
    | true =>
      have hm := fm_iff.1 h
      obtain ⟨hp, hm2⟩ := (find_mem hm.tb).1 (Prod.ext rfl e : Tb.findS f.tb p = ((Tb.findS f.tb p).1, true))
      obtain ⟨i, e1, hi, e2⟩ := hm.frame hp hm2
      exact .inr (.inr ⟨i, Prod.ext e1 e, by rw [if_pos rfl, e1], atF_of hm (by omega) hi e2⟩)
  · rw [if_neg h]; exact .inl ⟨h, rfl⟩
end Go.Lk

set_option linter.unusedSimpArgs false
set_option linter.unusedVariables false
set_option linter.unnecessarySimpa false
namespace Go.Lk
open Go Go.Proofs Go.RowKit

/-! ### a frame made free -/
noncomputable def relS (f : FX) (i : Nat) (p : Int) : FX := ⟨f.fr.set i (0, 0, false), f.hand, (Tb.delS f.tb p).1, f.pg.set i noPg, (Dt.cleanG f.dt p).1⟩
theorem clean_same {l : List (Int × Int)} {p : Int} (h : (Dt.cleanG l p).2 ≠ 0) : (Dt.cleanG l p).1 = l := by
  unfold Dt.cleanG at h ⊢
  split
  · rfl
  · rename_i h1
    rw [if_neg h1] at h
    split
    · rfl
    · rename_i h2; rw [if_neg h2] at h; exact absurd rfl h
theorem del_same {l : List (Int × Int)} {p : Int} (h : (Tb.delS l p).2 ≠ 0) : (Tb.delS l p).1 = l := by
  unfold Tb.delS at h ⊢
  split
  · rfl
  · rename_i h1
    rw [if_neg h1] at h
    split
    · rfl
    · rename_i h2; rw [if_neg h2] at h; exact absurd rfl h
theorem setF_enc (l : List Fr) (i : Nat) (x : Fr) : (l.map encF).set i (encF x) = (l.set i x).map encF := by rw [List.map_set]
theorem setP_enc (l : List Pg) (i : Nat) (x : Pg) : (l.map encP).set i (encP x) = (l.set i x).map encP := by rw [List.map_set]

theorem release_ok (f : FX) (i : Nat) (p : Int) (h : i < f.fr.length) (h2 : i < f.pg.length) (hp : f.pg[i].1 = p) (hf : f.fr.length ≤ 1000000) (hg : f.pg.length ≤ 1000000) (ht : f.tb.length ≤ 1000000) (hd : f.dt.length ≤ 1000000) :
    ACall Try.prog 32 [encFS f, .int .i64 i] (encFS (relS f i p)) := by
  refine acall_of Try.func32 2 rfl (by kernel_rfl) ?_
  conv => whnf
  have hmf : (f.fr.map encF).length = f.fr.length := List.length_map ..
  have hmp : (f.pg.map encP).length = f.pg.length := List.length_map ..
  repeat (first | (refine bcase_f rfl ?_; conv => whnf) | (refine bcase_t rfl ?_; conv => whnf) | (refine condK_of rfl ?_; conv => whnf) | (refine condK_of (by decide) ?_; conv => whnf) | (refine condK_of (by omega) ?_; conv => whnf) | (refine wrapK_in (w64 (by omega) (by omega)) ?_; conv => whnf))
  refine idxK_nat (by omega) ?_
  conv => whnf
  refine getRow_of (x := encP f.pg[i]) (by simp [h2]) ?_
  conv => whnf
  repeat (first | (refine bcase_f rfl ?_; conv => whnf) | (refine bcase_t rfl ?_; conv => whnf) | (refine condK_of rfl ?_; conv => whnf) | (refine condK_of (by decide) ?_; conv => whnf) | (refine condK_of (by omega) ?_; conv => whnf) | (refine wrapK_in (w64 (by omega) (by omega)) ?_; conv => whnf))
  rw [hp]
  refine callX_str (parted_ok f hf hg) (show 2 ≤ 8 by decide) ?_
  conv => whnf
  repeat (first | (refine bcase_f rfl ?_; conv => whnf) | (refine bcase_t rfl ?_; conv => whnf) | (refine condK_of rfl ?_; conv => whnf) | (refine condK_of (by decide) ?_; conv => whnf) | (refine condK_of (by omega) ?_; conv => whnf) | (refine wrapK_in (w64 (by omega) (by omega)) ?_; conv => whnf))
  refine idxK_nat (by omega) ?_
  conv => whnf
  refine getRow_of (x := encF f.fr[i]) (by simp [h]) ?_
  conv => whnf
  repeat (first | (refine bcase_f rfl ?_; conv => whnf) | (refine bcase_t rfl ?_; conv => whnf) | (refine condK_of rfl ?_; conv => whnf) | (refine condK_of (by decide) ?_; conv => whnf) | (refine condK_of (by omega) ?_; conv => whnf) | (refine wrapK_in (w64 (by omega) (by omega)) ?_; conv => whnf))
  refine idxK_nat (by omega) ?_
  conv => whnf
  refine getRow_of (x := encP f.pg[i]) (by simp [h2]) ?_
  conv => whnf
  repeat (first | (refine bcase_f rfl ?_; conv => whnf) | (refine bcase_t rfl ?_; conv => whnf) | (refine condK_of rfl ?_; conv => whnf) | (refine condK_of (by decide) ?_; conv => whnf) | (refine condK_of (by omega) ?_; conv => whnf) | (refine wrapK_in (w64 (by omega) (by omega)) ?_; conv => whnf))
  refine callX_pure (Tb.del_ok f.tb p ht) ?_
  conv => whnf
  repeat (first | (refine bcase_f rfl ?_; conv => whnf) | (refine bcase_t rfl ?_; conv => whnf) | (refine condK_of rfl ?_; conv => whnf) | (refine condK_of (by decide) ?_; conv => whnf) | (refine condK_of (by omega) ?_; conv => whnf) | (refine wrapK_in (w64 (by omega) (by omega)) ?_; conv => whnf))
  have k1 : (f.fr.map encF).set i [.int .i64 0, .int .i64 0, .bool false] = (f.fr.set i (0, 0, false)).map encF := setF_enc f.fr i (0, 0, false)
  have k2 : (f.pg.map encP).set i [.int .i64 0, .int .i64 0, .str .empty] = (f.pg.set i noPg).map encP := setP_enc f.pg i noPg
  refine bcase_p (fun g1 => ?_) (fun g1 => ?_) <;> conv => whnf
  · repeat (first | (refine bcase_f rfl ?_; conv => whnf) | (refine bcase_t rfl ?_; conv => whnf) | (refine condK_of rfl ?_; conv => whnf) | (refine condK_of (by decide) ?_; conv => whnf) | (refine condK_of (by omega) ?_; conv => whnf) | (refine wrapK_in (w64 (by omega) (by omega)) ?_; conv => whnf))
    refine callX_pure (Dt.clean_ok f.dt p hd) ?_
    conv => whnf
    repeat (first | (refine bcase_f rfl ?_; conv => whnf) | (refine bcase_t rfl ?_; conv => whnf) | (refine condK_of rfl ?_; conv => whnf) | (refine condK_of (by decide) ?_; conv => whnf) | (refine condK_of (by omega) ?_; conv => whnf) | (refine wrapK_in (w64 (by omega) (by omega)) ?_; conv => whnf))
    refine bcase_p (fun g2 => ?_) (fun g2 => ?_) <;> conv => whnf
    · repeat (first | (refine bcase_f rfl ?_; conv => whnf) | (refine bcase_t rfl ?_; conv => whnf) | (refine condK_of rfl ?_; conv => whnf) | (refine condK_of (by decide) ?_; conv => whnf) | (refine condK_of (by omega) ?_; conv => whnf) | (refine wrapK_in (w64 (by omega) (by omega)) ?_; conv => whnf))
      refine ret_of rfl ?_
      show D.agg [.lst ((f.fr.map encF).set i _), _, _, .lst ((f.pg.map encP).set i _), _] = _
      rw [show ((f.fr.map encF).set i (splice (encF f.fr[i]) 0 [.int .i64 0, .int .i64 0, .bool false])) = _ from k1]
      rw [show ((f.pg.map encP).set i (splice (encP f.pg[i]) 0 [.int .i64 0, .int .i64 0, .str .empty])) = _ from k2]
      rfl
    · repeat (first | (refine bcase_f rfl ?_; conv => whnf) | (refine bcase_t rfl ?_; conv => whnf) | (refine condK_of rfl ?_; conv => whnf) | (refine condK_of (by decide) ?_; conv => whnf) | (refine condK_of (by omega) ?_; conv => whnf) | (refine wrapK_in (w64 (by omega) (by omega)) ?_; conv => whnf))
      refine ret_of rfl ?_
      show D.agg [.lst ((f.fr.map encF).set i _), _, _, .lst ((f.pg.map encP).set i _), _] = _
      rw [show ((f.fr.map encF).set i (splice (encF f.fr[i]) 0 [.int .i64 0, .int .i64 0, .bool false])) = _ from k1]
      rw [show ((f.pg.map encP).set i (splice (encP f.pg[i]) 0 [.int .i64 0, .int .i64 0, .str .empty])) = _ from k2]
      rw [show relS f i p = ⟨f.fr.set i (0, 0, false), f.hand, (Tb.delS f.tb p).1, f.pg.set i noPg, f.dt⟩ from by rw [relS, clean_same g2]]
      rfl
  · repeat (first | (refine bcase_f rfl ?_; conv => whnf) | (refine bcase_t rfl ?_; conv => whnf) | (refine condK_of rfl ?_; conv => whnf) | (refine condK_of (by decide) ?_; conv => whnf) | (refine condK_of (by omega) ?_; conv => whnf) | (refine wrapK_in (w64 (by omega) (by omega)) ?_; conv => whnf))
    refine callX_pure (Dt.clean_ok f.dt p hd) ?_
    conv => whnf
    repeat (first | (refine bcase_f rfl ?_; conv => whnf) | (refine bcase_t rfl ?_; conv => whnf) | (refine condK_of rfl ?_; conv => whnf) | (refine condK_of (by decide) ?_; conv => whnf) | (refine condK_of (by omega) ?_; conv => whnf) | (refine wrapK_in (w64 (by omega) (by omega)) ?_; conv => whnf))
    refine bcase_p (fun g2 => ?_) (fun g2 => ?_) <;> conv => whnf
    · repeat (first | (refine bcase_f rfl ?_; conv => whnf) | (refine bcase_t rfl ?_; conv => whnf) | (refine condK_of rfl ?_; conv => whnf) | (refine condK_of (by decide) ?_; conv => whnf) | (refine condK_of (by omega) ?_; conv => whnf) | (refine wrapK_in (w64 (by omega) (by omega)) ?_; conv => whnf))
      refine ret_of rfl ?_
      show D.agg [.lst ((f.fr.map encF).set i _), _, _, .lst ((f.pg.map encP).set i _), _] = _
      rw [show ((f.fr.map encF).set i (splice (encF f.fr[i]) 0 [.int .i64 0, .int .i64 0, .bool false])) = _ from k1]
      rw [show ((f.pg.map encP).set i (splice (encP f.pg[i]) 0 [.int .i64 0, .int .i64 0, .str .empty])) = _ from k2]
      rw [show relS f i p = ⟨f.fr.set i (0, 0, false), f.hand, f.tb, f.pg.set i noPg, (Dt.cleanG f.dt p).1⟩ from by rw [relS, del_same g1]]
      rfl
    · repeat (first | (refine bcase_f rfl ?_; conv => whnf) | (refine bcase_t rfl ?_; conv => whnf) | (refine condK_of rfl ?_; conv => whnf) | (refine condK_of (by decide) ?_; conv => whnf) | (refine condK_of (by omega) ?_; conv => whnf) | (refine wrapK_in (w64 (by omega) (by omega)) ?_; conv => whnf))
      refine ret_of rfl ?_
      show D.agg [.lst ((f.fr.map encF).set i _), _, _, .lst ((f.pg.map encP).set i _), _] = _
      rw [show ((f.fr.map encF).set i (splice (encF f.fr[i]) 0 [.int .i64 0, .int .i64 0, .bool false])) = _ from k1]
      rw [show ((f.pg.map encP).set i (splice (encP f.pg[i]) 0 [.int .i64 0, .int .i64 0, .str .empty])) = _ from k2]
      rw [show relS f i p = ⟨f.fr.set i (0, 0, false), f.hand, f.tb, f.pg.set i noPg, f.dt⟩ from by rw [relS, del_same g1, clean_same g2]]
      rfl
end Go.Lk

