/-
  What is proved here: the document's own frames; no condition beyond each theorem's own.
-/
import Derived.Test.YtnjmedgliagilaaGe
import Derived.Test.YtnjmedgliagilaaGc
set_option linter.unusedSectionVars false
set_option linter.unusedSimpArgs false
set_option linter.unusedVariables false
set_option linter.unnecessarySimpa false
namespace Go.Lk
open Go Go.Proofs Go.RowKit

/-! ### the document's own frames -/
theorem rsame9_ok (a b : List Fr) (g h : Int) (hl : a.length ≤ 1000000) : ACall Try.prog 50 [encC a g, encC b h] (.bool (decide (a = b ∧ g = h))) := by
  refine acall_of Try.func50 2 rfl (by kernel_rfl) ?_
  conv => whnf
  have ma : (a.map encF).length = a.length := List.length_map ..
  have mb : (b.map encF).length = b.length := List.length_map ..
  repeat (first | (refine bcase_f rfl ?_; conv => whnf) | (refine bcase_t rfl ?_; conv => whnf) | (refine condK_of rfl ?_; conv => whnf) | (refine condK_of (by decide) ?_; conv => whnf) | (refine condK_of (by omega) ?_; conv => whnf) | (refine wrapK_in (w64 (by omega) (by omega)) ?_; conv => whnf))
  refine bcase_n (fun h0 => ?_) (fun h0 => ?_) <;> conv => whnf
  · repeat (first | (refine bcase_f rfl ?_; conv => whnf) | (refine bcase_t rfl ?_; conv => whnf) | (refine condK_of rfl ?_; conv => whnf) | (refine condK_of (by decide) ?_; conv => whnf) | (refine condK_of (by omega) ?_; conv => whnf) | (refine wrapK_in (w64 (by omega) (by omega)) ?_; conv => whnf))
    exact ret_of rfl (congrArg D.bool (by simp; intro e; subst e; exact absurd rfl h0))
  have h0' : a.length = b.length := by omega
  repeat (first | (refine bcase_f rfl ?_; conv => whnf) | (refine bcase_t rfl ?_; conv => whnf) | (refine condK_of rfl ?_; conv => whnf) | (refine condK_of (by decide) ?_; conv => whnf) | (refine condK_of (by omega) ?_; conv => whnf) | (refine wrapK_in (w64 (by omega) (by omega)) ?_; conv => whnf))
  refine bcase_n (fun h9 => ?_) (fun h9 => ?_) <;> conv => whnf
  · repeat (first | (refine bcase_f rfl ?_; conv => whnf) | (refine bcase_t rfl ?_; conv => whnf) | (refine condK_of rfl ?_; conv => whnf) | (refine condK_of (by decide) ?_; conv => whnf) | (refine condK_of (by omega) ?_; conv => whnf) | (refine wrapK_in (w64 (by omega) (by omega)) ?_; conv => whnf))
    exact ret_of rfl (congrArg D.bool (by simp; intro _; exact h9))
  repeat (first | (refine bcase_f rfl ?_; conv => whnf) | (refine bcase_t rfl ?_; conv => whnf) | (refine condK_of rfl ?_; conv => whnf) | (refine condK_of (by decide) ?_; conv => whnf) | (refine condK_of (by omega) ?_; conv => whnf) | (refine wrapK_in (w64 (by omega) (by omega)) ?_; conv => whnf))
  refine aloop (ι := Nat) (fun k => [(2, .ptr 2 0 0), (3, .ptr 3 0 0), (5, .d (.int .i64 k))]) (fun _ => [(2, .box [.d (.lst (a.map encF)), .d (.int .i64 g)] false), (3, .box [.d (.lst (b.map encF)), .d (.int .i64 h)] false)])
    (fun k => k ≤ a.length ∧ a.take k = b.take k) (fun k => a.length - k) 0 ⟨Nat.zero_le _, rfl⟩ (le0 (le_of_cov ⟨rfl, rfl, rfl, trivial⟩ ⟨rfl, rfl, trivial⟩ ⟨rfl, rfl, rfl, rfl⟩)) ?_
  rintro k ⟨hk, hR⟩
  conv => whnf
  repeat (first | (refine bcase_f rfl ?_; conv => whnf) | (refine bcase_t rfl ?_; conv => whnf) | (refine condK_of rfl ?_; conv => whnf) | (refine condK_of (by decide) ?_; conv => whnf) | (refine condK_of (by omega) ?_; conv => whnf) | (refine wrapK_in (w64 (by omega) (by omega)) ?_; conv => whnf))
  refine bcase_p (fun h => ?_) (fun h => ?_) <;> conv => whnf
  · have hk2 : k < a.length := by omega
    have hk3 : k < b.length := h0' ▸ hk2
    repeat (first | (refine bcase_f rfl ?_; conv => whnf) | (refine bcase_t rfl ?_; conv => whnf) | (refine condK_of rfl ?_; conv => whnf) | (refine condK_of (by decide) ?_; conv => whnf) | (refine condK_of (by omega) ?_; conv => whnf) | (refine wrapK_in (w64 (by omega) (by omega)) ?_; conv => whnf))
    refine idxK_nat (by omega) ?_
    conv => whnf
    refine getRow_of (x := encF a[k]) (by simp [hk2]) ?_
    conv => whnf
    repeat (first | (refine bcase_f rfl ?_; conv => whnf) | (refine bcase_t rfl ?_; conv => whnf) | (refine condK_of rfl ?_; conv => whnf) | (refine condK_of (by decide) ?_; conv => whnf) | (refine condK_of (by omega) ?_; conv => whnf) | (refine wrapK_in (w64 (by omega) (by omega)) ?_; conv => whnf))
    refine idxK_nat (by omega) ?_
    conv => whnf
    refine getRow_of (x := encF b[k]) (by simp [hk3]) ?_
    conv => whnf
    repeat (first | (refine bcase_f rfl ?_; conv => whnf) | (refine bcase_t rfl ?_; conv => whnf) | (refine condK_of rfl ?_; conv => whnf) | (refine condK_of (by decide) ?_; conv => whnf) | (refine condK_of (by omega) ?_; conv => whnf) | (refine wrapK_in (w64 (by omega) (by omega)) ?_; conv => whnf))
    refine bcase_intro (fun h1 => ?_) (fun h1 => ?_) <;> conv => whnf
    · have hne : a[k] ≠ b[k] := by intro e; rw [e] at h1; simp at h1
      exact ret_of rfl (congrArg D.bool (by simp; intro e; subst e; exact absurd rfl hne))
    · repeat (first | (refine bcase_f rfl ?_; conv => whnf) | (refine bcase_t rfl ?_; conv => whnf) | (refine condK_of rfl ?_; conv => whnf) | (refine condK_of (by decide) ?_; conv => whnf) | (refine condK_of (by omega) ?_; conv => whnf) | (refine wrapK_in (w64 (by omega) (by omega)) ?_; conv => whnf))
      have he : a[k] = b[k] := by simp at h1; exact Prod.ext h1.1 (Prod.ext h1.2.1 h1.2.2)
      exact ⟨k + 1, ⟨by omega, by rw [take_snoc hk2, take_snoc hk3, hR, he]⟩, by omega, (le0 (le_of_cov ⟨rfl, rfl, rfl, trivial⟩ ⟨rfl, rfl, trivial⟩ ⟨rfl, rfl, rfl, rfl⟩))⟩
  · have : k = a.length := by omega
    subst this
    rw [List.take_length, h0', List.take_length] at hR
    exact ret_of rfl (by rw [hR]; simp [h9])

open Classical in
theorem rsame_ok (a b : FX) (hf : a.fr.length ≤ 1000000) (hp : a.pg.length ≤ 1000000) (h1 : a.tb.length ≤ 1000000) (h2 : a.dt.length ≤ 1000000) (h3 : b.tb.length ≤ 1000000) (h4 : b.dt.length ≤ 1000000) : ACall Try.prog 19 [encFS a, encFS b] (.bool (decide (a = b))) := by
  refine acall_of Try.func19 2 rfl (by kernel_rfl) ?_
  conv => whnf
  have ma : (a.pg.map encP).length = a.pg.length := List.length_map ..
  have mb : (b.pg.map encP).length = b.pg.length := List.length_map ..
  have hEq : a = b ↔ (a.fr = b.fr ∧ a.hand = b.hand) ∧ a.tb = b.tb ∧ a.dt = b.dt ∧ a.pg = b.pg := by
    cases a; cases b; simp only [FX.mk.injEq]; constructor
    · rintro ⟨q1, q2, q3, q4, q5⟩; exact ⟨⟨q1, q2⟩, q3, q5, q4⟩
    · rintro ⟨⟨q1, q2⟩, q3, q5, q4⟩; exact ⟨q1, q2, q3, q4, q5⟩
  have hno (h : ¬ ((a.fr = b.fr ∧ a.hand = b.hand) ∧ a.tb = b.tb ∧ a.dt = b.dt ∧ a.pg = b.pg)) : D.bool false = D.bool (decide (a = b)) := congrArg D.bool (decide_eq_false fun e => h (hEq.1 e)).symm
  repeat (first | (refine bcase_f rfl ?_; conv => whnf) | (refine bcase_t rfl ?_; conv => whnf) | (refine condK_of rfl ?_; conv => whnf) | (refine condK_of (by decide) ?_; conv => whnf) | (refine condK_of (by omega) ?_; conv => whnf) | (refine wrapK_in (w64 (by omega) (by omega)) ?_; conv => whnf))
  refine callX_pure (rsame9_ok a.fr b.fr a.hand b.hand hf) ?_
  conv => whnf
  repeat (first | (refine bcase_f rfl ?_; conv => whnf) | (refine bcase_t rfl ?_; conv => whnf) | (refine condK_of rfl ?_; conv => whnf) | (refine condK_of (by decide) ?_; conv => whnf) | (refine condK_of (by omega) ?_; conv => whnf) | (refine wrapK_in (w64 (by omega) (by omega)) ?_; conv => whnf))
  refine bcase_n (fun g1 => ?_) (fun g1 => ?_) <;> conv => whnf
  · repeat (first | (refine bcase_f rfl ?_; conv => whnf) | (refine bcase_t rfl ?_; conv => whnf) | (refine condK_of rfl ?_; conv => whnf) | (refine condK_of (by decide) ?_; conv => whnf) | (refine condK_of (by omega) ?_; conv => whnf) | (refine wrapK_in (w64 (by omega) (by omega)) ?_; conv => whnf))
    exact ret_of rfl (hno fun e => g1 e.1)
  repeat (first | (refine bcase_f rfl ?_; conv => whnf) | (refine bcase_t rfl ?_; conv => whnf) | (refine condK_of rfl ?_; conv => whnf) | (refine condK_of (by decide) ?_; conv => whnf) | (refine condK_of (by omega) ?_; conv => whnf) | (refine wrapK_in (w64 (by omega) (by omega)) ?_; conv => whnf))
  refine callX_pure (Tb.same_ok a.tb b.tb h1 h3) ?_
  conv => whnf
  repeat (first | (refine bcase_f rfl ?_; conv => whnf) | (refine bcase_t rfl ?_; conv => whnf) | (refine condK_of rfl ?_; conv => whnf) | (refine condK_of (by decide) ?_; conv => whnf) | (refine condK_of (by omega) ?_; conv => whnf) | (refine wrapK_in (w64 (by omega) (by omega)) ?_; conv => whnf))
  refine bcase_n (fun g2 => ?_) (fun g2 => ?_) <;> conv => whnf
  · repeat (first | (refine bcase_f rfl ?_; conv => whnf) | (refine bcase_t rfl ?_; conv => whnf) | (refine condK_of rfl ?_; conv => whnf) | (refine condK_of (by decide) ?_; conv => whnf) | (refine condK_of (by omega) ?_; conv => whnf) | (refine wrapK_in (w64 (by omega) (by omega)) ?_; conv => whnf))
    exact ret_of rfl (hno fun e => g2 e.2.1)
  repeat (first | (refine bcase_f rfl ?_; conv => whnf) | (refine bcase_t rfl ?_; conv => whnf) | (refine condK_of rfl ?_; conv => whnf) | (refine condK_of (by decide) ?_; conv => whnf) | (refine condK_of (by omega) ?_; conv => whnf) | (refine wrapK_in (w64 (by omega) (by omega)) ?_; conv => whnf))
  refine callX_pure (Dt.same_ok a.dt b.dt h2 h4) ?_
  conv => whnf
  repeat (first | (refine bcase_f rfl ?_; conv => whnf) | (refine bcase_t rfl ?_; conv => whnf) | (refine condK_of rfl ?_; conv => whnf) | (refine condK_of (by decide) ?_; conv => whnf) | (refine condK_of (by omega) ?_; conv => whnf) | (refine wrapK_in (w64 (by omega) (by omega)) ?_; conv => whnf))
  refine bcase_n (fun g3 => ?_) (fun g3 => ?_) <;> conv => whnf
  · repeat (first | (refine bcase_f rfl ?_; conv => whnf) | (refine bcase_t rfl ?_; conv => whnf) | (refine condK_of rfl ?_; conv => whnf) | (refine condK_of (by decide) ?_; conv => whnf) | (refine condK_of (by omega) ?_; conv => whnf) | (refine wrapK_in (w64 (by omega) (by omega)) ?_; conv => whnf))
    exact ret_of rfl (hno fun e => g3 e.2.2.1)
  repeat (first | (refine bcase_f rfl ?_; conv => whnf) | (refine bcase_t rfl ?_; conv => whnf) | (refine condK_of rfl ?_; conv => whnf) | (refine condK_of (by decide) ?_; conv => whnf) | (refine condK_of (by omega) ?_; conv => whnf) | (refine wrapK_in (w64 (by omega) (by omega)) ?_; conv => whnf))
  refine bcase_n (fun g4 => ?_) (fun g4 => ?_) <;> conv => whnf
  · exact ret_of rfl (hno fun e => g4 (by rw [ma, mb, e.2.2.2]))
  have h0' : a.pg.length = b.pg.length := by omega
  refine aloop (ι := Nat) (fun k => [(2, .ptr 2 0 0), (3, .ptr 3 0 0), (5, .d (.int .i64 k))]) (fun _ => [(2, .box a.box false), (3, .box b.box false)])
    (fun k => k ≤ a.pg.length ∧ a.pg.take k = b.pg.take k) (fun k => a.pg.length - k) 0 ⟨Nat.zero_le _, rfl⟩ (le0 (le_of_cov ⟨rfl, rfl, rfl, trivial⟩ ⟨rfl, rfl, trivial⟩ ⟨rfl, rfl, rfl, rfl⟩)) ?_
  rintro k ⟨hk, hR⟩
  conv => whnf
  repeat (first | (refine bcase_f rfl ?_; conv => whnf) | (refine bcase_t rfl ?_; conv => whnf) | (refine condK_of rfl ?_; conv => whnf) | (refine condK_of (by decide) ?_; conv => whnf) | (refine condK_of (by omega) ?_; conv => whnf) | (refine wrapK_in (w64 (by omega) (by omega)) ?_; conv => whnf))
  refine bcase_p (fun h => ?_) (fun h => ?_) <;> conv => whnf
  · have hk2 : k < a.pg.length := by omega
    have hk3 : k < b.pg.length := h0' ▸ hk2
    repeat (first | (refine bcase_f rfl ?_; conv => whnf) | (refine bcase_t rfl ?_; conv => whnf) | (refine condK_of rfl ?_; conv => whnf) | (refine condK_of (by decide) ?_; conv => whnf) | (refine condK_of (by omega) ?_; conv => whnf) | (refine wrapK_in (w64 (by omega) (by omega)) ?_; conv => whnf))
    refine idxK_nat (by omega) ?_
    conv => whnf
    refine getRow_of (x := encP a.pg[k]) (by simp [hk2]) ?_
    conv => whnf
    repeat (first | (refine bcase_f rfl ?_; conv => whnf) | (refine bcase_t rfl ?_; conv => whnf) | (refine condK_of rfl ?_; conv => whnf) | (refine condK_of (by decide) ?_; conv => whnf) | (refine condK_of (by omega) ?_; conv => whnf) | (refine wrapK_in (w64 (by omega) (by omega)) ?_; conv => whnf))
    refine idxK_nat (by omega) ?_
    conv => whnf
    refine getRow_of (x := encP b.pg[k]) (by simp [hk3]) ?_
    conv => whnf
    repeat (first | (refine bcase_f rfl ?_; conv => whnf) | (refine bcase_t rfl ?_; conv => whnf) | (refine condK_of rfl ?_; conv => whnf) | (refine condK_of (by decide) ?_; conv => whnf) | (refine condK_of (by omega) ?_; conv => whnf) | (refine wrapK_in (w64 (by omega) (by omega)) ?_; conv => whnf))
    refine bcase_intro (fun h1 => ?_) (fun h1 => ?_) <;> conv => whnf
    · have hne : a.pg[k] ≠ b.pg[k] := by intro e; rw [e] at h1; simp at h1
      exact ret_of rfl (hno fun e => hne (by simp [e.2.2.2]))
    · repeat (first | (refine bcase_f rfl ?_; conv => whnf) | (refine bcase_t rfl ?_; conv => whnf) | (refine condK_of rfl ?_; conv => whnf) | (refine condK_of (by decide) ?_; conv => whnf) | (refine condK_of (by omega) ?_; conv => whnf) | (refine wrapK_in (w64 (by omega) (by omega)) ?_; conv => whnf))
      have he : a.pg[k] = b.pg[k] := by simp at h1; exact Prod.ext h1.1 (Prod.ext h1.2.1 h1.2.2)
      exact ⟨k + 1, ⟨by omega, by rw [take_snoc hk2, take_snoc hk3, hR, he]⟩, by omega, (le0 (le_of_cov ⟨rfl, rfl, rfl, trivial⟩ ⟨rfl, rfl, trivial⟩ ⟨rfl, rfl, rfl, rfl⟩))⟩
  · have : k = a.pg.length := by omega
    subst this
    rw [List.take_length, h0', List.take_length] at hR
    exact ret_of rfl (congrArg D.bool (decide_eq_true (hEq.2 ⟨g1, g2, g3, hR⟩)).symm)

def pgAt (l : List Pg) (p : Int) (k : Nat) : Int :=
  match l with
  | [] => -1
  | x :: r => if x.1 = p then (k : Int) else pgAt r p (k + 1)
def rfindS (l : List Pg) (p : Int) : Int := if 0 < p then pgAt l p 0 else -1
theorem rfind15_ok (f : FX) (p : Int) (hl : f.pg.length ≤ 1000000) : ACall Try.prog 11 [encFS f, .int .i64 p] (.int .i64 (rfindS f.pg p)) := by
  refine acall_of Try.func11 2 rfl (by kernel_rfl) ?_
  conv => whnf
  have ma : (f.pg.map encP).length = f.pg.length := List.length_map ..
  refine aloop (ι := Nat) (fun k => [(1, .d (.int .i64 p)), (2, .ptr 2 0 0), (5, .d (.int .i64 k))]) (fun _ => [(2, .box f.box false)])
    (fun k => k ≤ f.pg.length ∧ (0 < p → pgAt (f.pg.drop k) p k = pgAt f.pg p 0)) (fun k => f.pg.length - k) 0 ⟨Nat.zero_le _, fun _ => rfl⟩ (le0 (le_of_cov ⟨rfl, rfl, rfl, trivial⟩ ⟨rfl, trivial⟩ ⟨rfl, rfl, rfl, rfl⟩)) ?_
  rintro k ⟨hk, hR⟩
  conv => whnf
  repeat (first | (refine bcase_f rfl ?_; conv => whnf) | (refine bcase_t rfl ?_; conv => whnf) | (refine condK_of rfl ?_; conv => whnf) | (refine condK_of (by decide) ?_; conv => whnf) | (refine condK_of (by omega) ?_; conv => whnf) | (refine wrapK_in (w64 (by omega) (by omega)) ?_; conv => whnf))
  refine bcase_p (fun h => ?_) (fun h => ?_) <;> conv => whnf
  · have hk2 : k < f.pg.length := by omega
    rw [drop_cons hk2, pgAt] at hR
    repeat (first | (refine bcase_f rfl ?_; conv => whnf) | (refine bcase_t rfl ?_; conv => whnf) | (refine condK_of rfl ?_; conv => whnf) | (refine condK_of (by decide) ?_; conv => whnf) | (refine condK_of (by omega) ?_; conv => whnf) | (refine wrapK_in (w64 (by omega) (by omega)) ?_; conv => whnf))
    refine bcase_p (fun h0 => ?_) (fun h0 => ?_) <;> conv => whnf
    · repeat (first | (refine bcase_f rfl ?_; conv => whnf) | (refine bcase_t rfl ?_; conv => whnf) | (refine condK_of rfl ?_; conv => whnf) | (refine condK_of (by decide) ?_; conv => whnf) | (refine condK_of (by omega) ?_; conv => whnf) | (refine wrapK_in (w64 (by omega) (by omega)) ?_; conv => whnf))
      refine idxK_nat (by omega) ?_
      conv => whnf
      refine getRow_of (x := encP f.pg[k]) (by simp [hk2]) ?_
      conv => whnf
      repeat (first | (refine bcase_f rfl ?_; conv => whnf) | (refine bcase_t rfl ?_; conv => whnf) | (refine condK_of rfl ?_; conv => whnf) | (refine condK_of (by decide) ?_; conv => whnf) | (refine condK_of (by omega) ?_; conv => whnf) | (refine wrapK_in (w64 (by omega) (by omega)) ?_; conv => whnf))
      refine bcase_p (fun h2 => ?_) (fun h2 => ?_) <;> conv => whnf
      · have hR := hR h0
        rw [if_pos h2] at hR
        exact ret_of rfl (by rw [rfindS, if_pos h0, ← hR]; rfl)
      · repeat (first | (refine bcase_f rfl ?_; conv => whnf) | (refine bcase_t rfl ?_; conv => whnf) | (refine condK_of rfl ?_; conv => whnf) | (refine condK_of (by decide) ?_; conv => whnf) | (refine condK_of (by omega) ?_; conv => whnf) | (refine wrapK_in (w64 (by omega) (by omega)) ?_; conv => whnf))
        exact ⟨k + 1, ⟨by omega, fun h0 => by have hR := hR h0; rw [if_neg h2] at hR; exact hR⟩, by omega, (le0 (le_of_cov ⟨rfl, rfl, rfl, trivial⟩ ⟨rfl, trivial⟩ ⟨rfl, rfl, rfl, rfl⟩))⟩
    · repeat (first | (refine bcase_f rfl ?_; conv => whnf) | (refine bcase_t rfl ?_; conv => whnf) | (refine condK_of rfl ?_; conv => whnf) | (refine condK_of (by decide) ?_; conv => whnf) | (refine condK_of (by omega) ?_; conv => whnf) | (refine wrapK_in (w64 (by omega) (by omega)) ?_; conv => whnf))
      exact ⟨k + 1, ⟨by omega, fun h => absurd h h0⟩, by omega, (le0 (le_of_cov ⟨rfl, rfl, rfl, trivial⟩ ⟨rfl, trivial⟩ ⟨rfl, rfl, rfl, rfl⟩))⟩
  · have : k = f.pg.length := by omega
    subst this
    simp [pgAt] at hR
    refine ret_of rfl ?_
    unfold rfindS
    by_cases h0 : 0 < p
    · rw [if_pos h0, ← hR h0]; rfl
    · rw [if_neg h0]; rfl
end Go.Lk

set_option linter.unusedSimpArgs false
set_option linter.unusedVariables false
set_option linter.unnecessarySimpa false
namespace Go.Lk
open Go Go.Proofs Go.RowKit

theorem len_le_of_sub : ∀ {a b : List Int}, a.Nodup → (∀ x ∈ a, x ∈ b) → a.length ≤ b.length
  | [], _, _, _ => Nat.zero_le _
  | y :: r, b, hn, hs => by
    rw [List.nodup_cons] at hn
    have hy := hs y (List.mem_cons_self ..)
    have := len_le_of_sub (a := r) (b := b.erase y) hn.2 fun z hz => (List.mem_erase_of_ne (fun e => hn.1 (by rw [← e]; exact hz))).2 (hs z (List.mem_cons_of_mem _ hz))
    rw [List.length_erase_of_mem hy] at this
    have := List.length_pos_of_mem hy
    simp only [List.length_cons]
    omega
theorem tbPages_mem {l : List (Int × Int)} (h : Tb.RT l) {p : Int} : p ∈ tbPages l ↔ 1 ≤ p ∧ ∃ m, Tb.MemS l (p, m) := by
  unfold tbPages
  rw [List.mem_map]
  constructor
  · rintro ⟨x, hx, rfl⟩
    obtain ⟨h1, h2⟩ := List.mem_filter.1 hx
    obtain ⟨i, hi, rfl⟩ := List.mem_iff_getElem.1 h1
    have h16 : i < 16 := by rw [h.len] at hi; exact hi
    rw [← Tb.at_eq hi] at h2 ⊢
    have hf : Tb.freeB (Tb.at' l i) = false := by simpa using h2
    exact ⟨Tb.slot_page (h.slots i h16) hf, (Tb.at' l i).2, i, h16, rfl⟩
  · rintro ⟨h1, m, j, hj, e⟩
    have hjl : j < l.length := by rw [h.len]; exact hj
    refine ⟨(p, m), List.mem_filter.2 ⟨?_, by simp [Tb.page_nonfree (x := (p, m)) h1]⟩, rfl⟩
    rw [← e, Tb.at_eq hjl]
    exact List.getElem_mem _
theorem tbPages_nodup {l : List (Int × Int)} (h : Tb.RT l) : (tbPages l).Nodup := by
  have h0 : l.Pairwise (fun a b => Tb.freeB a = false → Tb.freeB b = false → a.1 ≠ b.1) := by
    rw [List.pairwise_iff_getElem]
    intro i j hi hj hij fi fj e
    rw [← Tb.at_eq hi] at fi e
    rw [← Tb.at_eq hj] at fj e
    have := h.distinct i j (by rw [h.len] at hi; exact hi) (by rw [h.len] at hj; exact hj) fi fj e
    omega
  unfold tbPages List.Nodup
  rw [List.pairwise_map]
  have h1 := List.Pairwise.filter (fun x => !Tb.freeB x) h0
  refine List.Pairwise.imp_of_mem (fun {a b} ha hb hab => ?_) h1
  have ha := (List.mem_filter.1 ha).2
  have hb := (List.mem_filter.1 hb).2
  exact hab (by simpa using ha) (by simpa using hb)
theorem frPages_nodup {f : FX} (ht : Tb.RT f.tb) (hl : f.pg.length = f.fr.length) (hp : ∀ i, i < f.fr.length → PlaceM f i) : (frPages f.fr).Nodup :=
  nodup_pages fun i j hi hj h0 e => by
    rcases hp i hi hi (by rw [hl]; exact hi) with q | ⟨q1, _, _, q2⟩
    · exact absurd q.1 h0
    rcases hp j hj hj (by rw [hl]; exact hj) with r | ⟨r1, _, _, r2⟩
    · exact absurd (e.trans r.1) h0
    have := mem_uni ht q1 q2 (e ▸ r2)
    omega
/-- every slot's page stands in its frame -/
def SlotF (f : FX) (j : Nat) : Prop := (Tb.at' f.tb j).1 ≠ 0 → ∃ i : Nat, (Tb.at' f.tb j).2 = i ∧ ∃ h : i < f.fr.length, f.fr[i].1 = (Tb.at' f.tb j).1
theorem FM.mk15 {f : FX} (ck : CRight f.fr f.hand) (tb : Tb.RT f.tb) (dt : Dt.rightB f.dt = true) (hl : f.pg.length = f.fr.length) (hp : ∀ i, i < f.fr.length → PlaceM f i)
    (hs : ∀ j, j < 16 → SlotF f j) (hd : ∀ x ∈ f.dt, ∃ i, Tb.MemS f.tb (x.1, i)) : FM f := by
  refine ⟨ck, tb, dt, hl, hp, Nat.le_antisymm ?_ ?_, hd⟩
  · have := len_le_of_sub (tbPages_nodup tb) (b := frPages f.fr) fun p h => by
      obtain ⟨h1, m, j, hj, e⟩ := (tbPages_mem tb).1 h
      obtain ⟨i, _, hi, e3⟩ := hs j hj (by rw [e]; simp only []; omega)
      rw [e] at e3
      exact frPages_mem.2 ⟨by omega, i, hi, e3⟩
    rw [frPages_len] at this
    unfold tbPages at this
    rw [List.length_map, ← List.countP_eq_length_filter] at this
    exact this
  · have := len_le_of_sub (frPages_nodup tb hl hp) (b := tbPages f.tb) fun p h => by
      obtain ⟨h1, i, hi, e⟩ := frPages_mem.1 h
      rcases hp i hi hi (by rw [hl]; exact hi) with q | ⟨q1, _, _, q2⟩
      · exact absurd (e.symm.trans q.1) h1
      · rw [e] at q1 q2
        exact (tbPages_mem tb).2 ⟨q1, i, q2⟩
    rw [frPages_len] at this
    unfold tbPages at this
    rw [List.length_map, ← List.countP_eq_length_filter] at this
    exact this
theorem FM.slotF {f : FX} (h : FM f) {j : Nat} (hj : j < 16) : SlotF f j := fun h0 => by
  have hf : Tb.freeB (Tb.at' f.tb j) = false := by simp [Tb.freeB, h0]
  have hp := Tb.slot_page (h.tb.slots j hj) hf
  obtain ⟨i, e1, hi, e2⟩ := h.frame (k := (Tb.at' f.tb j).2) hp ⟨j, hj, rfl⟩
  exact ⟨i, e1, hi, e2⟩
theorem notM {f : FX} (h : ¬ FM f) : D.bool false = D.bool (frightB f) := notF fun hR => h (fm_iff.1 hR)
/-- the document's look for a page of a right table -/
theorem rfind_cases {l : List (Int × Int)} (h : Tb.RT l) (p : Int) : ((if p = 0 then -1 else Tb.placeG l p 0) < 0 ∧ ∀ m, 1 ≤ p → ¬ Tb.MemS l (p, m)) ∨ ∃ j : Nat, (if p = 0 then -1 else Tb.placeG l p 0) = (j : Int) ∧ j < 16 ∧ (Tb.at' l j).1 = p ∧ p ≠ 0 := by
  by_cases h0 : p = 0
  · exact .inl ⟨by rw [if_pos h0]; decide, fun m h => by omega⟩
  rw [if_neg h0]
  rcases Tb.placeG_lt (l := l) (n := p) (k := 0) with h1 | ⟨i, h1, h2, h3⟩
  · refine .inl ⟨h1, fun m _ ⟨j, hj, e⟩ => ?_⟩
    have := Tb.placeG_mem (l := l) (n := p) (k := 0) |>.2 ⟨j, by rw [h.len]; exact hj, by rw [e]⟩
    omega
  · exact .inr ⟨i, by rw [h1]; simp, by rw [h.len] at h2; exact h2, by rw [Tb.at_eq h2]; exact h3, h0⟩

theorem rfright_ok (f : FX) (h1 : f.tb.length ≤ 1000000) (h2 : f.dt.length ≤ 1000000) : ACall Try.prog 8 [encFS f] (.bool (frightB f)) := by
  refine acall_of Try.func8 1 rfl (by kernel_rfl) ?_
  conv => whnf
  have hmf : (f.fr.map encF).length = f.fr.length := List.length_map ..
  have hmp : (f.pg.map encP).length = f.pg.length := List.length_map ..
  have hmt : (f.tb.map encI).length = f.tb.length := List.length_map ..
  have hmd : (f.dt.map encI).length = f.dt.length := List.length_map ..
  repeat (first | (refine bcase_f rfl ?_; conv => whnf) | (refine bcase_t rfl ?_; conv => whnf) | (refine condK_of rfl ?_; conv => whnf) | (refine condK_of (by decide) ?_; conv => whnf) | (refine condK_of (by omega) ?_; conv => whnf) | (refine wrapK_in (w64 (by omega) (by omega)) ?_; conv => whnf))
  refine callX_pure (rclockRight_ok f.fr f.hand) ?_
  conv => whnf
  repeat (first | (refine bcase_f rfl ?_; conv => whnf) | (refine bcase_t rfl ?_; conv => whnf) | (refine condK_of rfl ?_; conv => whnf) | (refine condK_of (by decide) ?_; conv => whnf) | (refine condK_of (by omega) ?_; conv => whnf) | (refine wrapK_in (w64 (by omega) (by omega)) ?_; conv => whnf))
  refine bcase_intro (fun g1 => ?_) (fun g1 => ?_) <;> conv => whnf
  · repeat (first | (refine bcase_f rfl ?_; conv => whnf) | (refine bcase_t rfl ?_; conv => whnf) | (refine condK_of rfl ?_; conv => whnf) | (refine condK_of (by decide) ?_; conv => whnf) | (refine condK_of (by omega) ?_; conv => whnf) | (refine wrapK_in (w64 (by omega) (by omega)) ?_; conv => whnf))
    exact ret_of rfl (notM fun h => by have := clockB_t.2 h.ck; simp [this] at g1)
  repeat (first | (refine bcase_f rfl ?_; conv => whnf) | (refine bcase_t rfl ?_; conv => whnf) | (refine condK_of rfl ?_; conv => whnf) | (refine condK_of (by decide) ?_; conv => whnf) | (refine condK_of (by omega) ?_; conv => whnf) | (refine wrapK_in (w64 (by omega) (by omega)) ?_; conv => whnf))
  have hC := clockB_t.1 (show clockB f.fr f.hand = true by simpa using g1)
  have hl8 := hC.most
  refine callX_pure (Tb.rright_ok f.tb h1) ?_
  conv => whnf
  repeat (first | (refine bcase_f rfl ?_; conv => whnf) | (refine bcase_t rfl ?_; conv => whnf) | (refine condK_of rfl ?_; conv => whnf) | (refine condK_of (by decide) ?_; conv => whnf) | (refine condK_of (by omega) ?_; conv => whnf) | (refine wrapK_in (w64 (by omega) (by omega)) ?_; conv => whnf))
  refine bcase_intro (fun g2 => ?_) (fun g2 => ?_) <;> conv => whnf
  · repeat (first | (refine bcase_f rfl ?_; conv => whnf) | (refine bcase_t rfl ?_; conv => whnf) | (refine condK_of rfl ?_; conv => whnf) | (refine condK_of (by decide) ?_; conv => whnf) | (refine condK_of (by omega) ?_; conv => whnf) | (refine wrapK_in (w64 (by omega) (by omega)) ?_; conv => whnf))
    exact ret_of rfl (notM fun h => by have := Tb.rightB_t.2 h.tb; simp [this] at g2)
  repeat (first | (refine bcase_f rfl ?_; conv => whnf) | (refine bcase_t rfl ?_; conv => whnf) | (refine condK_of rfl ?_; conv => whnf) | (refine condK_of (by decide) ?_; conv => whnf) | (refine condK_of (by omega) ?_; conv => whnf) | (refine wrapK_in (w64 (by omega) (by omega)) ?_; conv => whnf))
  have hT := Tb.rightB_t.1 (show Tb.rightB f.tb = true by simpa using g2)
  have h16 := hT.len
  refine callX_pure (Dt.rright_ok f.dt h2) ?_
  conv => whnf
  repeat (first | (refine bcase_f rfl ?_; conv => whnf) | (refine bcase_t rfl ?_; conv => whnf) | (refine condK_of rfl ?_; conv => whnf) | (refine condK_of (by decide) ?_; conv => whnf) | (refine condK_of (by omega) ?_; conv => whnf) | (refine wrapK_in (w64 (by omega) (by omega)) ?_; conv => whnf))
  refine bcase_intro (fun g3 => ?_) (fun g3 => ?_) <;> conv => whnf
  · repeat (first | (refine bcase_f rfl ?_; conv => whnf) | (refine bcase_t rfl ?_; conv => whnf) | (refine condK_of rfl ?_; conv => whnf) | (refine condK_of (by decide) ?_; conv => whnf) | (refine condK_of (by omega) ?_; conv => whnf) | (refine wrapK_in (w64 (by omega) (by omega)) ?_; conv => whnf))
    exact ret_of rfl (notM fun h => by simp [h.dt] at g3)
  repeat (first | (refine bcase_f rfl ?_; conv => whnf) | (refine bcase_t rfl ?_; conv => whnf) | (refine condK_of rfl ?_; conv => whnf) | (refine condK_of (by decide) ?_; conv => whnf) | (refine condK_of (by omega) ?_; conv => whnf) | (refine wrapK_in (w64 (by omega) (by omega)) ?_; conv => whnf))
  have g3 : Dt.rightB f.dt = true := by simpa using g3
  refine bcase_n (fun g4 => ?_) (fun g4 => ?_) <;> conv => whnf
  · exact ret_of rfl (notM fun h => g4 (by rw [hmf, hmp, h.len]))
  have hlen : f.pg.length = f.fr.length := by omega
  refine aloop (ι := Nat) (fun k => [(1, .ptr 1 0 0), (3, .d (.int .i64 k))]) (fun _ => [(1, .box f.box false)])
    (fun k => k ≤ f.fr.length ∧ ∀ i, i < k → PlaceM f i) (fun k => f.fr.length - k) 0 ⟨Nat.zero_le _, fun j h => absurd h (Nat.not_lt_zero _)⟩ (le0 (le_of_cov ⟨rfl, rfl, trivial⟩ ⟨rfl, trivial⟩ ⟨rfl, rfl, rfl, rfl⟩)) ?_
  rintro k ⟨hk, hR⟩
  conv => whnf
  repeat (first | (refine bcase_f rfl ?_; conv => whnf) | (refine bcase_t rfl ?_; conv => whnf) | (refine condK_of rfl ?_; conv => whnf) | (refine condK_of (by decide) ?_; conv => whnf) | (refine condK_of (by omega) ?_; conv => whnf) | (refine wrapK_in (w64 (by omega) (by omega)) ?_; conv => whnf))
  refine bcase_p (fun h => ?_) (fun h => ?_) <;> conv => whnf
  · have hk2 : k < f.fr.length := by omega
    have hk3 : k < f.pg.length := by omega
    have hlast (hs : PlaceM f k) : ∀ j, j < k + 1 → PlaceM f j := fun j hj => (Nat.lt_succ_iff_lt_or_eq.1 hj).elim (hR j) (fun e => by subst e; exact hs)
    repeat (first | (refine bcase_f rfl ?_; conv => whnf) | (refine bcase_t rfl ?_; conv => whnf) | (refine condK_of rfl ?_; conv => whnf) | (refine condK_of (by decide) ?_; conv => whnf) | (refine condK_of (by omega) ?_; conv => whnf) | (refine wrapK_in (w64 (by omega) (by omega)) ?_; conv => whnf))
    refine idxK_nat (by omega) ?_
    conv => whnf
    refine getRow_of (x := encF f.fr[k]) (by simp [hk2]) ?_
    conv => whnf
    repeat (first | (refine bcase_f rfl ?_; conv => whnf) | (refine bcase_t rfl ?_; conv => whnf) | (refine condK_of rfl ?_; conv => whnf) | (refine condK_of (by decide) ?_; conv => whnf) | (refine condK_of (by omega) ?_; conv => whnf) | (refine wrapK_in (w64 (by omega) (by omega)) ?_; conv => whnf))
    refine idxK_nat (by omega) ?_
    conv => whnf
    refine getRow_of (x := encP f.pg[k]) (by simp [hk3]) ?_
    conv => whnf
    repeat (first | (refine bcase_f rfl ?_; conv => whnf) | (refine bcase_t rfl ?_; conv => whnf) | (refine condK_of rfl ?_; conv => whnf) | (refine condK_of (by decide) ?_; conv => whnf) | (refine condK_of (by omega) ?_; conv => whnf) | (refine wrapK_in (w64 (by omega) (by omega)) ?_; conv => whnf))
    refine bcase_p (fun g5 => ?_) (fun g5 => ?_) <;> conv => whnf
    · repeat (first | (refine bcase_f rfl ?_; conv => whnf) | (refine bcase_t rfl ?_; conv => whnf) | (refine condK_of rfl ?_; conv => whnf) | (refine condK_of (by decide) ?_; conv => whnf) | (refine condK_of (by omega) ?_; conv => whnf) | (refine wrapK_in (w64 (by omega) (by omega)) ?_; conv => whnf))
      have hbad (hb : ¬ (f.fr[k].2.1 = 0 ∧ f.pg[k] = noPg)) : ¬ FM f := fun h => by
        rcases h.place k hk2 hk2 hk3 with ⟨_, e1, e2⟩ | ⟨e, _⟩
        · exact hb ⟨e1, e2⟩
        · omega
      refine bcase_n (fun g6 => ?_) (fun g6 => ?_) <;> conv => whnf
      · repeat (first | (refine bcase_f rfl ?_; conv => whnf) | (refine bcase_t rfl ?_; conv => whnf) | (refine condK_of rfl ?_; conv => whnf) | (refine condK_of (by decide) ?_; conv => whnf) | (refine condK_of (by omega) ?_; conv => whnf) | (refine wrapK_in (w64 (by omega) (by omega)) ?_; conv => whnf))
        exact ret_of rfl (notM (hbad fun e => g6 (by rw [e.2]; rfl)))
      repeat (first | (refine bcase_f rfl ?_; conv => whnf) | (refine bcase_t rfl ?_; conv => whnf) | (refine condK_of rfl ?_; conv => whnf) | (refine condK_of (by decide) ?_; conv => whnf) | (refine condK_of (by omega) ?_; conv => whnf) | (refine wrapK_in (w64 (by omega) (by omega)) ?_; conv => whnf))
      refine bcase_n (fun g7 => ?_) (fun g7 => ?_) <;> conv => whnf
      · repeat (first | (refine bcase_f rfl ?_; conv => whnf) | (refine bcase_t rfl ?_; conv => whnf) | (refine condK_of rfl ?_; conv => whnf) | (refine condK_of (by decide) ?_; conv => whnf) | (refine condK_of (by omega) ?_; conv => whnf) | (refine wrapK_in (w64 (by omega) (by omega)) ?_; conv => whnf))
        exact ret_of rfl (notM (hbad fun e => g7 (by rw [e.2]; rfl)))
      repeat (first | (refine bcase_f rfl ?_; conv => whnf) | (refine bcase_t rfl ?_; conv => whnf) | (refine condK_of rfl ?_; conv => whnf) | (refine condK_of (by decide) ?_; conv => whnf) | (refine condK_of (by omega) ?_; conv => whnf) | (refine wrapK_in (w64 (by omega) (by omega)) ?_; conv => whnf))
      refine bcase_n (fun g8 => ?_) (fun g8 => ?_) <;> conv => whnf
      · repeat (first | (refine bcase_f rfl ?_; conv => whnf) | (refine bcase_t rfl ?_; conv => whnf) | (refine condK_of rfl ?_; conv => whnf) | (refine condK_of (by decide) ?_; conv => whnf) | (refine condK_of (by omega) ?_; conv => whnf) | (refine wrapK_in (w64 (by omega) (by omega)) ?_; conv => whnf))
        exact ret_of rfl (notM (hbad fun e => g8 (by rw [e.2]; rfl)))
      repeat (first | (refine bcase_f rfl ?_; conv => whnf) | (refine bcase_t rfl ?_; conv => whnf) | (refine condK_of rfl ?_; conv => whnf) | (refine condK_of (by decide) ?_; conv => whnf) | (refine condK_of (by omega) ?_; conv => whnf) | (refine wrapK_in (w64 (by omega) (by omega)) ?_; conv => whnf))
      refine bcase_n (fun g9 => ?_) (fun g9 => ?_) <;> conv => whnf
      · repeat (first | (refine bcase_f rfl ?_; conv => whnf) | (refine bcase_t rfl ?_; conv => whnf) | (refine condK_of rfl ?_; conv => whnf) | (refine condK_of (by decide) ?_; conv => whnf) | (refine condK_of (by omega) ?_; conv => whnf) | (refine wrapK_in (w64 (by omega) (by omega)) ?_; conv => whnf))
        exact ret_of rfl (notM (hbad fun e => g9 e.1))
      repeat (first | (refine bcase_f rfl ?_; conv => whnf) | (refine bcase_t rfl ?_; conv => whnf) | (refine condK_of rfl ?_; conv => whnf) | (refine condK_of (by decide) ?_; conv => whnf) | (refine condK_of (by omega) ?_; conv => whnf) | (refine wrapK_in (w64 (by omega) (by omega)) ?_; conv => whnf))
      exact ⟨k + 1, ⟨by omega, hlast fun _ _ => .inl ⟨g5, g9, Prod.ext g6 (Prod.ext g7 g8)⟩⟩, by omega, (le0 (le_of_cov ⟨rfl, rfl, trivial⟩ ⟨rfl, trivial⟩ ⟨rfl, rfl, rfl, rfl⟩))⟩
    · have hbad (hb : ¬ (1 ≤ f.fr[k].1 ∧ f.fr[k].1 = f.pg[k].1 ∧ pgR f.pg[k] = true ∧ Tb.MemS f.tb (f.fr[k].1, (k : Int)))) : ¬ FM f := fun h => by
        rcases h.place k hk2 hk2 hk3 with ⟨e, _⟩ | e
        · exact g5 e
        · exact hb e
      repeat (first | (refine bcase_f rfl ?_; conv => whnf) | (refine bcase_t rfl ?_; conv => whnf) | (refine condK_of rfl ?_; conv => whnf) | (refine condK_of (by decide) ?_; conv => whnf) | (refine condK_of (by omega) ?_; conv => whnf) | (refine wrapK_in (w64 (by omega) (by omega)) ?_; conv => whnf))
      refine callX_pure (Tb.rfind_ok f.tb f.fr[k].1 h1) ?_
      conv => whnf
      have hcs := rfind_cases hT f.fr[k].1
      repeat (first | (refine bcase_f rfl ?_; conv => whnf) | (refine bcase_t rfl ?_; conv => whnf) | (refine condK_of rfl ?_; conv => whnf) | (refine condK_of (by decide) ?_; conv => whnf) | (refine condK_of (by omega) ?_; conv => whnf) | (refine wrapK_in (w64 (by omega) (by omega)) ?_; conv => whnf))
      generalize (if f.fr[k].1 = 0 then -1 else Tb.placeG f.tb f.fr[k].1 0) = q at hcs ⊢
      refine bcase_n (fun g6 => ?_) (fun g6 => ?_) <;> conv => whnf
      · repeat (first | (refine bcase_f rfl ?_; conv => whnf) | (refine bcase_t rfl ?_; conv => whnf) | (refine condK_of rfl ?_; conv => whnf) | (refine condK_of (by decide) ?_; conv => whnf) | (refine condK_of (by omega) ?_; conv => whnf) | (refine wrapK_in (w64 (by omega) (by omega)) ?_; conv => whnf))
        exact ret_of rfl (notM (hbad fun e => g6 e.2.1.symm))
      repeat (first | (refine bcase_f rfl ?_; conv => whnf) | (refine bcase_t rfl ?_; conv => whnf) | (refine condK_of rfl ?_; conv => whnf) | (refine condK_of (by decide) ?_; conv => whnf) | (refine condK_of (by omega) ?_; conv => whnf) | (refine wrapK_in (w64 (by omega) (by omega)) ?_; conv => whnf))
      refine callX_pure (rpageRight_ok f.pg[k]) ?_
      conv => whnf
      repeat (first | (refine bcase_f rfl ?_; conv => whnf) | (refine bcase_t rfl ?_; conv => whnf) | (refine condK_of rfl ?_; conv => whnf) | (refine condK_of (by decide) ?_; conv => whnf) | (refine condK_of (by omega) ?_; conv => whnf) | (refine wrapK_in (w64 (by omega) (by omega)) ?_; conv => whnf))
      refine bcase_intro (fun g7 => ?_) (fun g7 => ?_) <;> conv => whnf
      · repeat (first | (refine bcase_f rfl ?_; conv => whnf) | (refine bcase_t rfl ?_; conv => whnf) | (refine condK_of rfl ?_; conv => whnf) | (refine condK_of (by decide) ?_; conv => whnf) | (refine condK_of (by omega) ?_; conv => whnf) | (refine wrapK_in (w64 (by omega) (by omega)) ?_; conv => whnf))
        exact ret_of rfl (notM (hbad fun e => by simp [e.2.2.1] at g7))
      repeat (first | (refine bcase_f rfl ?_; conv => whnf) | (refine bcase_t rfl ?_; conv => whnf) | (refine condK_of rfl ?_; conv => whnf) | (refine condK_of (by decide) ?_; conv => whnf) | (refine condK_of (by omega) ?_; conv => whnf) | (refine wrapK_in (w64 (by omega) (by omega)) ?_; conv => whnf))
      have g7 : pgR f.pg[k] = true := by simpa using g7
      have hp1 := (pgR_out.1 g7).1
      rcases hcs with ⟨hq, hno⟩ | ⟨j, hq, hj, hat, _⟩
      · refine bcase_t (by simp <;> omega) ?_
        conv => whnf
        repeat (first | (refine bcase_f rfl ?_; conv => whnf) | (refine bcase_t rfl ?_; conv => whnf) | (refine condK_of rfl ?_; conv => whnf) | (refine condK_of (by decide) ?_; conv => whnf) | (refine condK_of (by omega) ?_; conv => whnf) | (refine wrapK_in (w64 (by omega) (by omega)) ?_; conv => whnf))
        exact ret_of rfl (notM (hbad fun e => hno _ e.1 e.2.2.2))
      subst hq
      refine bcase_f (by simp <;> omega) ?_
      conv => whnf
      repeat (first | (refine bcase_f rfl ?_; conv => whnf) | (refine bcase_t rfl ?_; conv => whnf) | (refine condK_of rfl ?_; conv => whnf) | (refine condK_of (by decide) ?_; conv => whnf) | (refine condK_of (by omega) ?_; conv => whnf) | (refine wrapK_in (w64 (by omega) (by omega)) ?_; conv => whnf))
      have hjl : j < f.tb.length := by omega
      rw [Tb.at_eq hjl] at hat
      refine idxK_nat (by omega) ?_
      conv => whnf
      refine getRow_of (x := encI f.tb[j]) (by simp [hjl]) ?_
      conv => whnf
      repeat (first | (refine bcase_f rfl ?_; conv => whnf) | (refine bcase_t rfl ?_; conv => whnf) | (refine condK_of rfl ?_; conv => whnf) | (refine condK_of (by decide) ?_; conv => whnf) | (refine condK_of (by omega) ?_; conv => whnf) | (refine wrapK_in (w64 (by omega) (by omega)) ?_; conv => whnf))
      refine bcase_n (fun g8 => ?_) (fun g8 => ?_) <;> conv => whnf
      · repeat (first | (refine bcase_f rfl ?_; conv => whnf) | (refine bcase_t rfl ?_; conv => whnf) | (refine condK_of rfl ?_; conv => whnf) | (refine condK_of (by decide) ?_; conv => whnf) | (refine condK_of (by omega) ?_; conv => whnf) | (refine wrapK_in (w64 (by omega) (by omega)) ?_; conv => whnf))
        exact ret_of rfl (notM (hbad fun e => g8 (mem_uni hT e.1 ⟨j, hj, by rw [Tb.at_eq hjl]; exact Prod.ext hat rfl⟩ e.2.2.2)))
      repeat (first | (refine bcase_f rfl ?_; conv => whnf) | (refine bcase_t rfl ?_; conv => whnf) | (refine condK_of rfl ?_; conv => whnf) | (refine condK_of (by decide) ?_; conv => whnf) | (refine condK_of (by omega) ?_; conv => whnf) | (refine wrapK_in (w64 (by omega) (by omega)) ?_; conv => whnf))
      exact ⟨k + 1, ⟨by omega, hlast fun _ _ => .inr ⟨by omega, g6.symm, g7, ⟨j, hj, by rw [Tb.at_eq hjl]; exact Prod.ext hat g8⟩⟩⟩, by omega, (le0 (le_of_cov ⟨rfl, rfl, trivial⟩ ⟨rfl, trivial⟩ ⟨rfl, rfl, rfl, rfl⟩))⟩
  have hkl : k = f.fr.length := by omega
  subst hkl
  refine aloop (ι := Nat) (fun k => [(1, .ptr 1 0 0), (7, .d (.int .i64 k))]) (fun _ => [(1, .box f.box false)])
    (fun k => k ≤ 16 ∧ ∀ i, i < k → SlotF f i) (fun k => 16 - k) 0 ⟨Nat.zero_le _, fun j h => absurd h (Nat.not_lt_zero _)⟩ (le0 (le_of_cov ⟨rfl, rfl, trivial⟩ ⟨rfl, trivial⟩ ⟨rfl, rfl, rfl, rfl⟩)) ?_
  rintro k ⟨hk, hS⟩
  conv => whnf
  refine bcase_p (fun h => ?_) (fun h => ?_) <;> conv => whnf
  · have hk2 : k < f.tb.length := by omega
    have hlast (hs : SlotF f k) : ∀ j, j < k + 1 → SlotF f j := fun j hj => (Nat.lt_succ_iff_lt_or_eq.1 hj).elim (hS j) (fun e => by subst e; exact hs)
    have hat := Tb.at_eq hk2
    repeat (first | (refine bcase_f rfl ?_; conv => whnf) | (refine bcase_t rfl ?_; conv => whnf) | (refine condK_of rfl ?_; conv => whnf) | (refine condK_of (by decide) ?_; conv => whnf) | (refine condK_of (by omega) ?_; conv => whnf) | (refine wrapK_in (w64 (by omega) (by omega)) ?_; conv => whnf))
    refine idxK_nat (by omega) ?_
    conv => whnf
    refine getRow_of (x := encI f.tb[k]) (by simp [hk2]) ?_
    conv => whnf
    repeat (first | (refine bcase_f rfl ?_; conv => whnf) | (refine bcase_t rfl ?_; conv => whnf) | (refine condK_of rfl ?_; conv => whnf) | (refine condK_of (by decide) ?_; conv => whnf) | (refine condK_of (by omega) ?_; conv => whnf) | (refine wrapK_in (w64 (by omega) (by omega)) ?_; conv => whnf))
    refine bcase_n (fun g5 => ?_) (fun g5 => ?_) <;> conv => whnf
    · repeat (first | (refine bcase_f rfl ?_; conv => whnf) | (refine bcase_t rfl ?_; conv => whnf) | (refine condK_of rfl ?_; conv => whnf) | (refine condK_of (by decide) ?_; conv => whnf) | (refine condK_of (by omega) ?_; conv => whnf) | (refine wrapK_in (w64 (by omega) (by omega)) ?_; conv => whnf))
      have hsl : Tb.fitsB f.tb[k].1 f.tb[k].2 = true := by
        have := hT.slots k (by omega)
        rw [hat] at this
        exact this.elim (fun e => absurd (Tb.free_out.1 e).1 g5) id
      have hfi := Tb.fits_out.1 hsl
      have hbad (hb : ¬ ∃ i : Nat, f.tb[k].2 = i ∧ ∃ h : i < f.fr.length, f.fr[i].1 = f.tb[k].1) : ¬ FM f := fun h => hb (by have := h.slotF (j := k) (by omega); rw [SlotF, hat] at this; exact this g5)
      refine bcase_p (fun g6 => ?_) (fun g6 => ?_) <;> conv => whnf
      · repeat (first | (refine bcase_f rfl ?_; conv => whnf) | (refine bcase_t rfl ?_; conv => whnf) | (refine condK_of rfl ?_; conv => whnf) | (refine condK_of (by decide) ?_; conv => whnf) | (refine condK_of (by omega) ?_; conv => whnf) | (refine wrapK_in (w64 (by omega) (by omega)) ?_; conv => whnf))
        exact ret_of rfl (notM (hbad fun ⟨i, e1, hi, e2⟩ => by omega))
      repeat (first | (refine bcase_f rfl ?_; conv => whnf) | (refine bcase_t rfl ?_; conv => whnf) | (refine condK_of rfl ?_; conv => whnf) | (refine condK_of (by decide) ?_; conv => whnf) | (refine condK_of (by omega) ?_; conv => whnf) | (refine wrapK_in (w64 (by omega) (by omega)) ?_; conv => whnf))
      obtain ⟨i, hi⟩ : ∃ i : Nat, f.tb[k].2 = i := ⟨f.tb[k].2.toNat, by omega⟩
      have hip : i < f.pg.length := by omega
      have hif : i < f.fr.length := by omega
      rw [hi]
      refine idxK_nat (by omega) ?_
      conv => whnf
      refine getRow_of (x := encP f.pg[i]) (by simp [hip]) ?_
      conv => whnf
      repeat (first | (refine bcase_f rfl ?_; conv => whnf) | (refine bcase_t rfl ?_; conv => whnf) | (refine condK_of rfl ?_; conv => whnf) | (refine condK_of (by decide) ?_; conv => whnf) | (refine condK_of (by omega) ?_; conv => whnf) | (refine wrapK_in (w64 (by omega) (by omega)) ?_; conv => whnf))
      have hpl := hR i hif hif hip
      refine bcase_n (fun g7 => ?_) (fun g7 => ?_) <;> conv => whnf
      · repeat (first | (refine bcase_f rfl ?_; conv => whnf) | (refine bcase_t rfl ?_; conv => whnf) | (refine condK_of rfl ?_; conv => whnf) | (refine condK_of (by decide) ?_; conv => whnf) | (refine condK_of (by omega) ?_; conv => whnf) | (refine wrapK_in (w64 (by omega) (by omega)) ?_; conv => whnf))
        refine ret_of rfl (notM (hbad fun ⟨j, e1, hj, e2⟩ => g7 ?_))
        have : j = i := by omega
        subst this
        rcases hpl with e | e
        · exact absurd (e2.symm.trans e.1) g5
        · rw [← e.2.1]; exact e2
      repeat (first | (refine bcase_f rfl ?_; conv => whnf) | (refine bcase_t rfl ?_; conv => whnf) | (refine condK_of rfl ?_; conv => whnf) | (refine condK_of (by decide) ?_; conv => whnf) | (refine condK_of (by omega) ?_; conv => whnf) | (refine wrapK_in (w64 (by omega) (by omega)) ?_; conv => whnf))
      refine ⟨k + 1, ⟨by omega, hlast fun _ => ⟨i, by rw [hat]; exact hi, hif, ?_⟩⟩, by omega, (le0 (le_of_cov ⟨rfl, rfl, trivial⟩ ⟨rfl, trivial⟩ ⟨rfl, rfl, rfl, rfl⟩))⟩
      rcases hpl with e | e
      · exfalso; apply g5; rw [← g7, e.2.2]; rfl
      · rw [e.2.1, g7, hat]
    · repeat (first | (refine bcase_f rfl ?_; conv => whnf) | (refine bcase_t rfl ?_; conv => whnf) | (refine condK_of rfl ?_; conv => whnf) | (refine condK_of (by decide) ?_; conv => whnf) | (refine condK_of (by omega) ?_; conv => whnf) | (refine wrapK_in (w64 (by omega) (by omega)) ?_; conv => whnf))
      exact ⟨k + 1, ⟨by omega, hlast fun h => absurd (by rw [hat]; exact g5) h⟩, by omega, (le0 (le_of_cov ⟨rfl, rfl, trivial⟩ ⟨rfl, trivial⟩ ⟨rfl, rfl, rfl, rfl⟩))⟩
  have hkl : k = 16 := by omega
  subst hkl
  refine aloop (ι := Nat) (fun k => [(1, .ptr 1 0 0), (9, .d (.int .i64 k))]) (fun _ => [(1, .box f.box false)])
    (fun k => k ≤ f.dt.length ∧ ∀ i, i < k → ∀ h : i < f.dt.length, ∃ m, Tb.MemS f.tb (f.dt[i].1, m)) (fun k => f.dt.length - k) 0 ⟨Nat.zero_le _, fun j h => absurd h (Nat.not_lt_zero _)⟩ (le0 (le_of_cov ⟨rfl, rfl, trivial⟩ ⟨rfl, trivial⟩ ⟨rfl, rfl, rfl, rfl⟩)) ?_
  rintro k ⟨hk, hD⟩
  conv => whnf
  repeat (first | (refine bcase_f rfl ?_; conv => whnf) | (refine bcase_t rfl ?_; conv => whnf) | (refine condK_of rfl ?_; conv => whnf) | (refine condK_of (by decide) ?_; conv => whnf) | (refine condK_of (by omega) ?_; conv => whnf) | (refine wrapK_in (w64 (by omega) (by omega)) ?_; conv => whnf))
  refine bcase_p (fun h => ?_) (fun h => ?_) <;> conv => whnf
  · have hk2 : k < f.dt.length := by omega
    have hdk := (Dt.rightB_out g3).2 k hk2
    repeat (first | (refine bcase_f rfl ?_; conv => whnf) | (refine bcase_t rfl ?_; conv => whnf) | (refine condK_of rfl ?_; conv => whnf) | (refine condK_of (by decide) ?_; conv => whnf) | (refine condK_of (by omega) ?_; conv => whnf) | (refine wrapK_in (w64 (by omega) (by omega)) ?_; conv => whnf))
    refine idxK_nat (by omega) ?_
    conv => whnf
    refine getRow_of (x := encI f.dt[k]) (by simp [hk2]) ?_
    conv => whnf
    repeat (first | (refine bcase_f rfl ?_; conv => whnf) | (refine bcase_t rfl ?_; conv => whnf) | (refine condK_of rfl ?_; conv => whnf) | (refine condK_of (by decide) ?_; conv => whnf) | (refine condK_of (by omega) ?_; conv => whnf) | (refine wrapK_in (w64 (by omega) (by omega)) ?_; conv => whnf))
    refine callX_pure (Tb.rfind_ok f.tb f.dt[k].1 h1) ?_
    conv => whnf
    have hcs := rfind_cases hT f.dt[k].1
    repeat (first | (refine bcase_f rfl ?_; conv => whnf) | (refine bcase_t rfl ?_; conv => whnf) | (refine condK_of rfl ?_; conv => whnf) | (refine condK_of (by decide) ?_; conv => whnf) | (refine condK_of (by omega) ?_; conv => whnf) | (refine wrapK_in (w64 (by omega) (by omega)) ?_; conv => whnf))
    generalize (if f.dt[k].1 = 0 then -1 else Tb.placeG f.tb f.dt[k].1 0) = q at hcs ⊢
    rcases hcs with ⟨hq, hno⟩ | ⟨j, hq, hj, hat, _⟩
    · refine bcase_t (by simp <;> omega) ?_
      conv => whnf
      repeat (first | (refine bcase_f rfl ?_; conv => whnf) | (refine bcase_t rfl ?_; conv => whnf) | (refine condK_of rfl ?_; conv => whnf) | (refine condK_of (by decide) ?_; conv => whnf) | (refine condK_of (by omega) ?_; conv => whnf) | (refine wrapK_in (w64 (by omega) (by omega)) ?_; conv => whnf))
      refine ret_of rfl (notM fun h => ?_)
      obtain ⟨m, hm⟩ := h.dirty _ (List.getElem_mem hk2)
      exact hno m hdk.2.1 hm
    subst hq
    refine bcase_f (by simp <;> omega) ?_
    conv => whnf
    repeat (first | (refine bcase_f rfl ?_; conv => whnf) | (refine bcase_t rfl ?_; conv => whnf) | (refine condK_of rfl ?_; conv => whnf) | (refine condK_of (by decide) ?_; conv => whnf) | (refine condK_of (by omega) ?_; conv => whnf) | (refine wrapK_in (w64 (by omega) (by omega)) ?_; conv => whnf))
    exact ⟨k + 1, ⟨by omega, fun i hi hi2 => (Nat.lt_succ_iff_lt_or_eq.1 hi).elim (fun h => hD i h hi2) (fun e => by subst e; exact ⟨(Tb.at' f.tb j).2, j, hj, Prod.ext hat rfl⟩)⟩, by omega, (le0 (le_of_cov ⟨rfl, rfl, trivial⟩ ⟨rfl, trivial⟩ ⟨rfl, rfl, rfl, rfl⟩))⟩
  · refine ret_of rfl (congrArg D.bool (frightB_t.2 (fm_iff.2 (FM.mk15 hC hT g3 hlen (fun i hi => hR i hi) (fun j hj => hS j hj) fun x hx => ?_))).symm)
    obtain ⟨i, hi, rfl⟩ := List.mem_iff_getElem.1 hx
    exact hD i (by omega) hi
end Go.Lk

set_option linter.unusedSimpArgs false
set_option linter.unusedVariables false
set_option linter.unnecessarySimpa false
namespace Go.Lk
open Go Go.Proofs Go.RowKit

/-! ### frames as the document's -/
structure SmallF (f : FX) : Prop where
  fr : f.fr.length ≤ 40
  tb : f.tb.length ≤ 40
  pg : f.pg.length ≤ 40
  dt : f.dt.length ≤ 40
  body : ∀ i (h : i < f.pg.length), f.pg[i].2.2.size ≤ 100
def cutF (f : FX) : FX := ⟨[], f.hand, [], f.pg, []⟩
open Classical in
noncomputable def refF (f : FX) : FX × Bool := if SmallF f then (f, true) else (cutF f, false)
theorem refF_t {f : FX} (h : SmallF f) : refF f = (f, true) := if_pos h
theorem refF_f {f : FX} (h : ¬ SmallF f) : refF f = (cutF f, false) := if_neg h
theorem ref_ok (f : FX) : ACall Try.prog 7 [encFS f] (.tup [encFS (refF f).1, .bool (refF f).2]) := by
  refine acall_of Try.func7 1 rfl (by kernel_rfl) ?_
  conv => whnf
  have hmf : (f.fr.map encF).length = f.fr.length := List.length_map ..
  have hmp : (f.pg.map encP).length = f.pg.length := List.length_map ..
  have hmt : (f.tb.map encI).length = f.tb.length := List.length_map ..
  have hmd : (f.dt.map encI).length = f.dt.length := List.length_map ..
  have hno (h : ¬ SmallF f) : D.tup [.agg [.lst [], .int .i64 f.hand, .lst [], .lst (f.pg.map encP), .lst []], .bool false] = D.tup [encFS (refF f).1, .bool (refF f).2] := by rw [refF_f h]; rfl
  repeat (first | (refine bcase_f rfl ?_; conv => whnf) | (refine bcase_t rfl ?_; conv => whnf) | (refine condK_of rfl ?_; conv => whnf) | (refine condK_of (by decide) ?_; conv => whnf) | (refine condK_of (by omega) ?_; conv => whnf) | (refine wrapK_in (w64 (by omega) (by omega)) ?_; conv => whnf))
  refine bcase_p (fun g1 => ?_) (fun g1 => ?_) <;> conv => whnf
  · repeat (first | (refine bcase_f rfl ?_; conv => whnf) | (refine bcase_t rfl ?_; conv => whnf) | (refine condK_of rfl ?_; conv => whnf) | (refine condK_of (by decide) ?_; conv => whnf) | (refine condK_of (by omega) ?_; conv => whnf) | (refine wrapK_in (w64 (by omega) (by omega)) ?_; conv => whnf))
    exact ret_of rfl (hno fun h => by have := h.fr; omega)
  repeat (first | (refine bcase_f rfl ?_; conv => whnf) | (refine bcase_t rfl ?_; conv => whnf) | (refine condK_of rfl ?_; conv => whnf) | (refine condK_of (by decide) ?_; conv => whnf) | (refine condK_of (by omega) ?_; conv => whnf) | (refine wrapK_in (w64 (by omega) (by omega)) ?_; conv => whnf))
  refine bcase_p (fun g2 => ?_) (fun g2 => ?_) <;> conv => whnf
  · repeat (first | (refine bcase_f rfl ?_; conv => whnf) | (refine bcase_t rfl ?_; conv => whnf) | (refine condK_of rfl ?_; conv => whnf) | (refine condK_of (by decide) ?_; conv => whnf) | (refine condK_of (by omega) ?_; conv => whnf) | (refine wrapK_in (w64 (by omega) (by omega)) ?_; conv => whnf))
    exact ret_of rfl (hno fun h => by have := h.tb; omega)
  repeat (first | (refine bcase_f rfl ?_; conv => whnf) | (refine bcase_t rfl ?_; conv => whnf) | (refine condK_of rfl ?_; conv => whnf) | (refine condK_of (by decide) ?_; conv => whnf) | (refine condK_of (by omega) ?_; conv => whnf) | (refine wrapK_in (w64 (by omega) (by omega)) ?_; conv => whnf))
  refine bcase_p (fun g3 => ?_) (fun g3 => ?_) <;> conv => whnf
  · repeat (first | (refine bcase_f rfl ?_; conv => whnf) | (refine bcase_t rfl ?_; conv => whnf) | (refine condK_of rfl ?_; conv => whnf) | (refine condK_of (by decide) ?_; conv => whnf) | (refine condK_of (by omega) ?_; conv => whnf) | (refine wrapK_in (w64 (by omega) (by omega)) ?_; conv => whnf))
    exact ret_of rfl (hno fun h => by have := h.pg; omega)
  repeat (first | (refine bcase_f rfl ?_; conv => whnf) | (refine bcase_t rfl ?_; conv => whnf) | (refine condK_of rfl ?_; conv => whnf) | (refine condK_of (by decide) ?_; conv => whnf) | (refine condK_of (by omega) ?_; conv => whnf) | (refine wrapK_in (w64 (by omega) (by omega)) ?_; conv => whnf))
  refine bcase_p (fun g4 => ?_) (fun g4 => ?_) <;> conv => whnf
  · repeat (first | (refine bcase_f rfl ?_; conv => whnf) | (refine bcase_t rfl ?_; conv => whnf) | (refine condK_of rfl ?_; conv => whnf) | (refine condK_of (by decide) ?_; conv => whnf) | (refine condK_of (by omega) ?_; conv => whnf) | (refine wrapK_in (w64 (by omega) (by omega)) ?_; conv => whnf))
    exact ret_of rfl (hno fun h => by have := h.dt; omega)
  repeat (first | (refine bcase_f rfl ?_; conv => whnf) | (refine bcase_t rfl ?_; conv => whnf) | (refine condK_of rfl ?_; conv => whnf) | (refine condK_of (by decide) ?_; conv => whnf) | (refine condK_of (by omega) ?_; conv => whnf) | (refine wrapK_in (w64 (by omega) (by omega)) ?_; conv => whnf))
  refine aloop (ι := Nat) (fun k => [(1, .ptr 1 0 0), (2, .ptr 2 0 0), (4, .ptr 4 0 0), (5, .own 59), (50, .d (.lst (f.fr.map encF))), (51, .d (.int .i64 (f.fr.map encF).length)), (52, .d (.int .i64 k))])
    (fun k => [(1, .box f.box false), (2, .box [.nil, .d (.int .i64 0), .nil, .nil, .nil] false), (4, .box [.nil, .d (.int .i64 f.hand), .nil, .d (.lst (f.pg.map encP)), .nil] false), (59, .row ((f.fr.take k).map encF) 3 false)])
    (fun k => k ≤ f.fr.length) (fun k => f.fr.length - k) 0 (Nat.zero_le _) (le1 (.row 5 59 3) ⟨rfl, rfl⟩ (le_of_cov ⟨rfl, rfl, rfl, rfl, rfl, rfl, rfl, trivial⟩ ⟨rfl, rfl, rfl, rfl, trivial⟩ ⟨rfl, rfl, rfl, rfl⟩)) ?_
  intro k hk
  conv => whnf
  refine bcase_p (fun h => ?_) (fun h => ?_) <;> conv => whnf
  · have hk2 : k < f.fr.length := by omega
    have hl : ((f.fr.take k).map encF).length = k := by simp; omega
    refine idxK_nat (by omega) ?_
    conv => whnf
    refine getRow_of (x := encF f.fr[k]) (by simp [hk2]) ?_
    conv => whnf
    repeat (first | (refine bcase_f rfl ?_; conv => whnf) | (refine bcase_t rfl ?_; conv => whnf) | (refine condK_of rfl ?_; conv => whnf) | (refine condK_of (by decide) ?_; conv => whnf) | (refine condK_of (by omega) ?_; conv => whnf) | (refine wrapK_in (w64 (by omega) (by omega)) ?_; conv => whnf))
    refine roomK_le 100 100 (by show List.length _ + 1 ≤ 100; omega) (by decide) (by decide) (by decide) ?_
    conv => whnf
    repeat (first | (refine bcase_f rfl ?_; conv => whnf) | (refine bcase_t rfl ?_; conv => whnf) | (refine condK_of rfl ?_; conv => whnf) | (refine condK_of (by decide) ?_; conv => whnf) | (refine condK_of (by omega) ?_; conv => whnf) | (refine wrapK_in (w64 (by omega) (by omega)) ?_; conv => whnf))
    exact ⟨k + 1, by omega, by omega, (le0 (le_of_cov ⟨rfl, rfl, rfl, rfl, rfl, rfl, rfl, trivial⟩ ⟨rfl, rfl, rfl, by rw [take_snoc hk2, List.map_append]; rfl, trivial⟩ ⟨rfl, rfl, rfl, rfl⟩))⟩
  have hkl : k = f.fr.length := by omega
  subst hkl
  rw [List.take_length]
  repeat (first | (refine bcase_f rfl ?_; conv => whnf) | (refine bcase_t rfl ?_; conv => whnf) | (refine condK_of rfl ?_; conv => whnf) | (refine condK_of (by decide) ?_; conv => whnf) | (refine condK_of (by omega) ?_; conv => whnf) | (refine wrapK_in (w64 (by omega) (by omega)) ?_; conv => whnf))
  refine aloop (ι := Nat) (fun k => [(1, .ptr 1 0 0), (2, .ptr 2 0 0), (4, .ptr 4 0 0), (5, .own 59), (8, .own 72), (63, .d (encIs f.tb)), (64, .d (.int .i64 (f.tb.map encI).length)), (65, .d (.int .i64 k))])
    (fun k => [(1, .box f.box false), (2, .box [.nil, .d (.int .i64 0), .nil, .nil, .nil] false), (4, .box [.nil, .d (.int .i64 f.hand), .nil, .d (.lst (f.pg.map encP)), .nil] false), (59, .row (f.fr.map encF) 3 false), (72, .row ((f.tb.take k).map encI) 2 false)])
    (fun k => k ≤ f.tb.length) (fun k => f.tb.length - k) 0 (Nat.zero_le _) (le1 (.row 8 72 2) ⟨rfl, rfl⟩ (le_of_cov ⟨rfl, rfl, rfl, rfl, rfl, rfl, rfl, rfl, trivial⟩ ⟨rfl, rfl, rfl, rfl, rfl, trivial⟩ ⟨rfl, rfl, rfl, rfl⟩)) ?_
  intro k hk
  conv => whnf
  refine bcase_p (fun h => ?_) (fun h => ?_) <;> conv => whnf
  · have hk2 : k < f.tb.length := by omega
    have hl : ((f.tb.take k).map encI).length = k := by simp; omega
    refine idxK_nat (by omega) ?_
    conv => whnf
    refine getRow_of (x := encI f.tb[k]) (by simp [hk2]) ?_
    conv => whnf
    repeat (first | (refine bcase_f rfl ?_; conv => whnf) | (refine bcase_t rfl ?_; conv => whnf) | (refine condK_of rfl ?_; conv => whnf) | (refine condK_of (by decide) ?_; conv => whnf) | (refine condK_of (by omega) ?_; conv => whnf) | (refine wrapK_in (w64 (by omega) (by omega)) ?_; conv => whnf))
    refine roomK_le 100 100 (by show List.length _ + 1 ≤ 100; omega) (by decide) (by decide) (by decide) ?_
    conv => whnf
    repeat (first | (refine bcase_f rfl ?_; conv => whnf) | (refine bcase_t rfl ?_; conv => whnf) | (refine condK_of rfl ?_; conv => whnf) | (refine condK_of (by decide) ?_; conv => whnf) | (refine condK_of (by omega) ?_; conv => whnf) | (refine wrapK_in (w64 (by omega) (by omega)) ?_; conv => whnf))
    exact ⟨k + 1, by omega, by omega, (le0 (le_of_cov ⟨rfl, rfl, rfl, rfl, rfl, rfl, rfl, rfl, trivial⟩ ⟨rfl, rfl, rfl, rfl, by rw [take_snoc hk2, List.map_append]; rfl, trivial⟩ ⟨rfl, rfl, rfl, rfl⟩))⟩
  have hkl : k = f.tb.length := by omega
  subst hkl
  rw [List.take_length]
  repeat (first | (refine bcase_f rfl ?_; conv => whnf) | (refine bcase_t rfl ?_; conv => whnf) | (refine condK_of rfl ?_; conv => whnf) | (refine condK_of (by decide) ?_; conv => whnf) | (refine condK_of (by omega) ?_; conv => whnf) | (refine wrapK_in (w64 (by omega) (by omega)) ?_; conv => whnf))
  refine aloop (ι := Nat) (fun k => [(1, .ptr 1 0 0), (2, .ptr 2 0 0), (4, .ptr 4 0 0), (5, .own 59), (8, .own 72), (11, .own 84), (75, .d (encIs f.dt)), (76, .d (.int .i64 (f.dt.map encI).length)), (77, .d (.int .i64 k))])
    (fun k => [(1, .box f.box false), (2, .box [.nil, .d (.int .i64 0), .nil, .nil, .nil] false), (4, .box [.nil, .d (.int .i64 f.hand), .nil, .d (.lst (f.pg.map encP)), .nil] false), (59, .row (f.fr.map encF) 3 false), (72, .row (f.tb.map encI) 2 false), (84, .row ((f.dt.take k).map encI) 2 false)])
    (fun k => k ≤ f.dt.length) (fun k => f.dt.length - k) 0 (Nat.zero_le _) (le1 (.row 11 84 2) ⟨rfl, rfl⟩ (le_of_cov ⟨rfl, rfl, rfl, rfl, rfl, rfl, rfl, rfl, rfl, trivial⟩ ⟨rfl, rfl, rfl, rfl, rfl, rfl, trivial⟩ ⟨rfl, rfl, rfl, rfl⟩)) ?_
  intro k hk
  conv => whnf
  refine bcase_p (fun h => ?_) (fun h => ?_) <;> conv => whnf
  · have hk2 : k < f.dt.length := by omega
    have hl : ((f.dt.take k).map encI).length = k := by simp; omega
    refine idxK_nat (by omega) ?_
    conv => whnf
    refine getRow_of (x := encI f.dt[k]) (by simp [hk2]) ?_
    conv => whnf
    repeat (first | (refine bcase_f rfl ?_; conv => whnf) | (refine bcase_t rfl ?_; conv => whnf) | (refine condK_of rfl ?_; conv => whnf) | (refine condK_of (by decide) ?_; conv => whnf) | (refine condK_of (by omega) ?_; conv => whnf) | (refine wrapK_in (w64 (by omega) (by omega)) ?_; conv => whnf))
    refine roomK_le 100 100 (by show List.length _ + 1 ≤ 100; omega) (by decide) (by decide) (by decide) ?_
    conv => whnf
    repeat (first | (refine bcase_f rfl ?_; conv => whnf) | (refine bcase_t rfl ?_; conv => whnf) | (refine condK_of rfl ?_; conv => whnf) | (refine condK_of (by decide) ?_; conv => whnf) | (refine condK_of (by omega) ?_; conv => whnf) | (refine wrapK_in (w64 (by omega) (by omega)) ?_; conv => whnf))
    exact ⟨k + 1, by omega, by omega, (le0 (le_of_cov ⟨rfl, rfl, rfl, rfl, rfl, rfl, rfl, rfl, rfl, trivial⟩ ⟨rfl, rfl, rfl, rfl, rfl, by rw [take_snoc hk2, List.map_append]; rfl, trivial⟩ ⟨rfl, rfl, rfl, rfl⟩))⟩
  have hkl : k = f.dt.length := by omega
  subst hkl
  rw [List.take_length]
  repeat (first | (refine bcase_f rfl ?_; conv => whnf) | (refine bcase_t rfl ?_; conv => whnf) | (refine condK_of rfl ?_; conv => whnf) | (refine condK_of (by decide) ?_; conv => whnf) | (refine condK_of (by omega) ?_; conv => whnf) | (refine wrapK_in (w64 (by omega) (by omega)) ?_; conv => whnf))
  refine aloop (ι := Nat) (fun k => [(2, .ptr 2 0 0), (4, .ptr 4 0 0), (5, .own 59), (8, .own 72), (11, .own 84), (87, .d (.lst (f.pg.map encP))), (88, .d (.int .i64 (f.pg.map encP).length)), (89, .d (.int .i64 k))])
    (fun k => [(2, .box [.nil, .d (.int .i64 0), .nil, .nil, .nil] false), (4, .box [.nil, .d (.int .i64 f.hand), .nil, .d (.lst (f.pg.map encP)), .nil] false), (59, .row (f.fr.map encF) 3 false), (72, .row (f.tb.map encI) 2 false), (84, .row (f.dt.map encI) 2 false)])
    (fun k => k ≤ f.pg.length ∧ ∀ i, i < k → ∀ h : i < f.pg.length, f.pg[i].2.2.size ≤ 100) (fun k => f.pg.length - k) 0 ⟨Nat.zero_le _, fun i h => absurd h (Nat.not_lt_zero _)⟩ (le0 (le_of_cov ⟨rfl, rfl, rfl, rfl, rfl, rfl, rfl, rfl, trivial⟩ ⟨rfl, rfl, rfl, rfl, rfl, trivial⟩ ⟨rfl, rfl, rfl, rfl⟩)) ?_
  rintro k ⟨hk, hB⟩
  conv => whnf
  refine bcase_p (fun h => ?_) (fun h => ?_) <;> conv => whnf
  · have hk2 : k < f.pg.length := by omega
    refine idxK_nat (by omega) ?_
    conv => whnf
    refine getRow_of (x := encP f.pg[k]) (by simp [hk2]) ?_
    conv => whnf
    repeat (first | (refine bcase_f rfl ?_; conv => whnf) | (refine bcase_t rfl ?_; conv => whnf) | (refine condK_of rfl ?_; conv => whnf) | (refine condK_of (by decide) ?_; conv => whnf) | (refine condK_of (by omega) ?_; conv => whnf) | (refine wrapK_in (w64 (by omega) (by omega)) ?_; conv => whnf))
    refine bcase_p (fun g5 => ?_) (fun g5 => ?_) <;> conv => whnf
    · repeat (first | (refine bcase_f rfl ?_; conv => whnf) | (refine bcase_t rfl ?_; conv => whnf) | (refine condK_of rfl ?_; conv => whnf) | (refine condK_of (by decide) ?_; conv => whnf) | (refine condK_of (by omega) ?_; conv => whnf) | (refine wrapK_in (w64 (by omega) (by omega)) ?_; conv => whnf))
      exact ret_of rfl (hno fun h => by have := h.body k hk2; omega)
    repeat (first | (refine bcase_f rfl ?_; conv => whnf) | (refine bcase_t rfl ?_; conv => whnf) | (refine condK_of rfl ?_; conv => whnf) | (refine condK_of (by decide) ?_; conv => whnf) | (refine condK_of (by omega) ?_; conv => whnf) | (refine wrapK_in (w64 (by omega) (by omega)) ?_; conv => whnf))
    exact ⟨k + 1, ⟨by omega, fun i hi hi2 => (Nat.lt_succ_iff_lt_or_eq.1 hi).elim (fun h => hB i h hi2) (fun e => by subst e; omega)⟩, by omega, (le0 (le_of_cov ⟨rfl, rfl, rfl, rfl, rfl, rfl, rfl, rfl, trivial⟩ ⟨rfl, rfl, rfl, rfl, rfl, trivial⟩ ⟨rfl, rfl, rfl, rfl⟩))⟩
  repeat (first | (refine bcase_f rfl ?_; conv => whnf) | (refine bcase_t rfl ?_; conv => whnf) | (refine condK_of rfl ?_; conv => whnf) | (refine condK_of (by decide) ?_; conv => whnf) | (refine condK_of (by omega) ?_; conv => whnf) | (refine wrapK_in (w64 (by omega) (by omega)) ?_; conv => whnf))
  have hs : SmallF f := ⟨by omega, by omega, by omega, by omega, fun i hi => hB i (by omega) hi⟩
  exact ret_of rfl (by rw [refF_t hs]; rfl)

/-! ### one frame turned -/
def withS (f : FX) (i : Int) (x : Fr) (y : Pg) : FX := ⟨f.fr.set i.toNat x, f.hand, f.tb, f.pg.set i.toNat y, f.dt⟩
theorem take_set_snoc {α : Type} {l : List α} {i k : Nat} {x : α} (h : k < l.length) : (l.set i x).take (k + 1) = (l.set i x).take k ++ [if k = i then x else l[k]] := by
  rw [take_snoc (by simpa using h), List.getElem_set]
  by_cases e : i = k
  · rw [if_pos e, if_pos e.symm]
  · rw [if_neg e, if_neg (fun h => e h.symm)]
theorem with_ok (f : FX) (i : Nat) (x : Fr) (y : Pg) (hl : f.pg.length = f.fr.length) (h8 : f.fr.length ≤ 40) : ACall Try.prog 49 [encFS f, .int .i64 i, .agg (encF x), .agg (encP y)] (encFS (withS f i x y)) := by
  refine acall_of Try.func49 4 rfl (by kernel_rfl) ?_
  conv => whnf
  have hmf : (f.fr.map encF).length = f.fr.length := List.length_map ..
  have hmp : (f.pg.map encP).length = f.pg.length := List.length_map ..
  repeat (first | (refine bcase_f rfl ?_; conv => whnf) | (refine bcase_t rfl ?_; conv => whnf) | (refine condK_of rfl ?_; conv => whnf) | (refine condK_of (by decide) ?_; conv => whnf) | (refine condK_of (by omega) ?_; conv => whnf) | (refine wrapK_in (w64 (by omega) (by omega)) ?_; conv => whnf))
  refine aloop (ι := Nat) (fun k => [(1, .d (.int .i64 i)), (4, .ptr 4 0 0), (6, .ptr 6 0 0), (7, .ptr 7 0 0), (8, .ptr 8 0 0), (9, .ptr 9 0 0), (10, .d (.int .i64 k))])
    (fun k => [(4, .box f.box false), (6, .box [.d (.int .i64 x.1), .d (.int .i64 x.2.1), .d (.bool x.2.2)] false), (7, .box [.d (.int .i64 y.1), .d (.int .i64 y.2.1), .d (.str y.2.2)] false), (8, .box [.nil, .d (.int .i64 0), .nil, .nil, .nil] false), (9, .box [.own 51, .d (.int .i64 f.hand), .d (encIs f.tb), .own 58, .d (encIs f.dt)] false), (51, .row (((f.fr.set i x).take k).map encF) 3 false), (58, .row (((f.pg.set i y).take k).map encP) 3 false)])
    (fun k => k ≤ f.fr.length) (fun k => f.fr.length - k) 0 (Nat.zero_le _) (len [.cell 9 0 51 3, .cell 9 3 58 3] ⟨⟨⟨rfl, rfl⟩, rfl, rfl⟩, ⟨⟨rfl, rfl⟩, rfl, rfl⟩, trivial⟩ (le_of_cov ⟨rfl, rfl, rfl, rfl, rfl, rfl, rfl, trivial⟩ ⟨rfl, rfl, rfl, rfl, rfl, rfl, rfl, trivial⟩ ⟨rfl, rfl, rfl, rfl⟩)) ?_
  intro k hk
  have hl1 : (((f.fr.set i x).take k).map encF).length = k := by simp; omega
  have hl2 : (((f.pg.set i y).take k).map encP).length = k := by simp; omega
  conv => whnf
  repeat (first | (refine bcase_f rfl ?_; conv => whnf) | (refine bcase_t rfl ?_; conv => whnf) | (refine condK_of rfl ?_; conv => whnf) | (refine condK_of (by decide) ?_; conv => whnf) | (refine condK_of (by omega) ?_; conv => whnf) | (refine wrapK_in (w64 (by omega) (by omega)) ?_; conv => whnf))
  refine bcase_p (fun h => ?_) (fun h => ?_) <;> conv => whnf
  · have hk2 : k < f.fr.length := by omega
    have hk3 : k < f.pg.length := by omega
    repeat (first | (refine bcase_f rfl ?_; conv => whnf) | (refine bcase_t rfl ?_; conv => whnf) | (refine condK_of rfl ?_; conv => whnf) | (refine condK_of (by decide) ?_; conv => whnf) | (refine condK_of (by omega) ?_; conv => whnf) | (refine wrapK_in (w64 (by omega) (by omega)) ?_; conv => whnf))
    refine idxK_nat (by omega) ?_
    conv => whnf
    refine getRow_of (x := encF f.fr[k]) (by simp [hk2]) ?_
    conv => whnf
    repeat (first | (refine bcase_f rfl ?_; conv => whnf) | (refine bcase_t rfl ?_; conv => whnf) | (refine condK_of rfl ?_; conv => whnf) | (refine condK_of (by decide) ?_; conv => whnf) | (refine condK_of (by omega) ?_; conv => whnf) | (refine wrapK_in (w64 (by omega) (by omega)) ?_; conv => whnf))
    refine idxK_nat (by omega) ?_
    conv => whnf
    refine getRow_of (x := encP f.pg[k]) (by simp [hk3]) ?_
    conv => whnf
    repeat (first | (refine bcase_f rfl ?_; conv => whnf) | (refine bcase_t rfl ?_; conv => whnf) | (refine condK_of rfl ?_; conv => whnf) | (refine condK_of (by decide) ?_; conv => whnf) | (refine condK_of (by omega) ?_; conv => whnf) | (refine wrapK_in (w64 (by omega) (by omega)) ?_; conv => whnf))
    refine bcase_p (fun h1 => ?_) (fun h1 => ?_) <;> conv => whnf
    · have hki : k = i := by omega
      repeat (first | (refine bcase_f rfl ?_; conv => whnf) | (refine bcase_t rfl ?_; conv => whnf) | (refine condK_of rfl ?_; conv => whnf) | (refine condK_of (by decide) ?_; conv => whnf) | (refine condK_of (by omega) ?_; conv => whnf) | (refine wrapK_in (w64 (by omega) (by omega)) ?_; conv => whnf))
      refine roomK_le 100 100 (by show List.length _ + 1 ≤ 100; omega) (by decide) (by decide) (by decide) ?_
      conv => whnf
      repeat (first | (refine bcase_f rfl ?_; conv => whnf) | (refine bcase_t rfl ?_; conv => whnf) | (refine condK_of rfl ?_; conv => whnf) | (refine condK_of (by decide) ?_; conv => whnf) | (refine condK_of (by omega) ?_; conv => whnf) | (refine wrapK_in (w64 (by omega) (by omega)) ?_; conv => whnf))
      refine roomK_le 100 100 (by show List.length _ + 1 ≤ 100; omega) (by decide) (by decide) (by decide) ?_
      conv => whnf
      repeat (first | (refine bcase_f rfl ?_; conv => whnf) | (refine bcase_t rfl ?_; conv => whnf) | (refine condK_of rfl ?_; conv => whnf) | (refine condK_of (by decide) ?_; conv => whnf) | (refine condK_of (by omega) ?_; conv => whnf) | (refine wrapK_in (w64 (by omega) (by omega)) ?_; conv => whnf))
      exact ⟨k + 1, by omega, by omega, (le0 (le_of_cov ⟨rfl, rfl, rfl, rfl, rfl, rfl, rfl, trivial⟩ ⟨rfl, rfl, rfl, rfl, rfl, by rw [take_set_snoc hk2, List.map_append, if_pos hki]; rfl, by rw [take_set_snoc hk3, List.map_append, if_pos hki]; rfl, trivial⟩ ⟨rfl, rfl, rfl, rfl⟩))⟩
    · have hki : ¬ k = i := by omega
      repeat (first | (refine bcase_f rfl ?_; conv => whnf) | (refine bcase_t rfl ?_; conv => whnf) | (refine condK_of rfl ?_; conv => whnf) | (refine condK_of (by decide) ?_; conv => whnf) | (refine condK_of (by omega) ?_; conv => whnf) | (refine wrapK_in (w64 (by omega) (by omega)) ?_; conv => whnf))
      refine roomK_le 100 100 (by show List.length _ + 1 ≤ 100; omega) (by decide) (by decide) (by decide) ?_
      conv => whnf
      repeat (first | (refine bcase_f rfl ?_; conv => whnf) | (refine bcase_t rfl ?_; conv => whnf) | (refine condK_of rfl ?_; conv => whnf) | (refine condK_of (by decide) ?_; conv => whnf) | (refine condK_of (by omega) ?_; conv => whnf) | (refine wrapK_in (w64 (by omega) (by omega)) ?_; conv => whnf))
      refine roomK_le 100 100 (by show List.length _ + 1 ≤ 100; omega) (by decide) (by decide) (by decide) ?_
      conv => whnf
      repeat (first | (refine bcase_f rfl ?_; conv => whnf) | (refine bcase_t rfl ?_; conv => whnf) | (refine condK_of rfl ?_; conv => whnf) | (refine condK_of (by decide) ?_; conv => whnf) | (refine condK_of (by omega) ?_; conv => whnf) | (refine wrapK_in (w64 (by omega) (by omega)) ?_; conv => whnf))
      exact ⟨k + 1, by omega, by omega, (le0 (le_of_cov ⟨rfl, rfl, rfl, rfl, rfl, rfl, rfl, trivial⟩ ⟨rfl, rfl, rfl, rfl, rfl, by rw [take_set_snoc hk2, List.map_append, if_neg hki]; rfl, by rw [take_set_snoc hk3, List.map_append, if_neg hki]; rfl, trivial⟩ ⟨rfl, rfl, rfl, rfl⟩))⟩
  repeat (first | (refine bcase_f rfl ?_; conv => whnf) | (refine bcase_t rfl ?_; conv => whnf) | (refine condK_of rfl ?_; conv => whnf) | (refine condK_of (by decide) ?_; conv => whnf) | (refine condK_of (by omega) ?_; conv => whnf) | (refine wrapK_in (w64 (by omega) (by omega)) ?_; conv => whnf))
  refine ret_of rfl ?_
  have e1 : (f.fr.set i x).take k = f.fr.set i x := List.take_of_length_le (by simp; omega)
  have e2 : (f.pg.set i y).take k = f.pg.set i y := List.take_of_length_le (by simp; omega)
  rw [oneD1, e1, e2]
  rfl
end Go.Lk

set_option linter.unusedSimpArgs false
set_option linter.unusedVariables false
set_option linter.unnecessarySimpa false
namespace Go.Lk
open Go Go.Proofs Go.RowKit

theorem pgAt_cases {l : List Pg} {p : Int} : ∀ {k : Nat}, (pgAt l p k < 0 ∧ ∀ i (h : i < l.length), l[i].1 ≠ p) ∨ ∃ i : Nat, pgAt l p k = ((k + i : Nat) : Int) ∧ ∃ h : i < l.length, l[i].1 = p := by
  induction l with
  | nil => intro k; exact .inl ⟨show (-1 : Int) < 0 by decide, fun i h => absurd h (Nat.not_lt_zero _)⟩
  | cons x r ih =>
    intro k
    simp only [pgAt]
    by_cases h : x.1 = p
    · exact .inr ⟨0, by simp [h], by simp, by simpa using h⟩
    · rw [if_neg h]
      rcases ih (k := k + 1) with ⟨h1, h0⟩ | ⟨i, h1, h2, h3⟩
      · refine .inl ⟨h1, fun i hi => ?_⟩
        cases i with
        | zero => exact h
        | succ i => simpa using h0 i (by simpa using hi)
      · exact .inr ⟨i + 1, by rw [h1]; simp; omega, by simpa using h2, by simpa using h3⟩
theorem FM.fr_pg {f : FX} (h : FM f) {i : Nat} (hi : i < f.fr.length) (hp : i < f.pg.length) : f.fr[i].1 = f.pg[i].1 := by
  rcases h.place i hi hi hp with q | q
  · rw [q.1, q.2.2]; rfl
  · exact q.2.1
theorem AtF.uni {f : FX} {p : Int} {i j : Nat} (h : AtF f p i) (hj : j < f.fr.length) (e : f.fr[j].1 = p) : j = i :=
  h.right.uni hj h.hi (by rw [e]; have := h.p1; omega) (by rw [e, h.fr])
theorem rfindS_at {f : FX} {p : Int} {i : Nat} (h : AtF f p i) : rfindS f.pg p = i := by
  have hp := h.p1
  rw [rfindS, if_pos (by omega)]
  rcases pgAt_cases (l := f.pg) (p := p) (k := 0) with ⟨_, h0⟩ | ⟨j, h1, h2, h3⟩
  · exact absurd h.pg (h0 i h.hp)
  · have hj : j < f.fr.length := by rw [← h.right.len]; exact h2
    rw [h1, Nat.zero_add, h.uni hj (by rw [h.right.fr_pg hj h2]; exact h3)]
theorem rfindS_no {f : FX} {p : Int} (h : FM f) (hn : ∀ i, i < f.fr.length → ∀ h : i < f.fr.length, f.fr[i].1 ≠ p) : rfindS f.pg p < 0 := by
  unfold rfindS
  by_cases hp : 0 < p
  · rw [if_pos hp]
    rcases pgAt_cases (l := f.pg) (p := p) (k := 0) with ⟨h1, _⟩ | ⟨j, h1, h2, h3⟩
    · exact h1
    · have hj : j < f.fr.length := by rw [← h.len]; exact h2
      exact absurd ((h.fr_pg hj h2).trans h3) (hn j hj hj)
  · rw [if_neg hp]; decide

theorem turn1_ok (f : FX) (p : Int) (b : ByteArray) (now : Int) {i : Nat} (hA : AtF f p i) (hn : f.fr[i]'hA.hi |>.2.1 ≠ 2147483647) (ht : f.tb.length ≤ 1000000) (hd : f.dt.length ≤ 1000000) :
    ACall Try.prog 18 [encFS f, .int .i64 1, .int .i64 p, .str b, .int .i64 now] (.tup [encFS (withF f i (upPin (f.fr[i]'hA.hi))), .int .i64 0]) := by
  have hi := hA.hi
  have hp := hA.hp
  have hmf : (f.fr.map encF).length = f.fr.length := List.length_map ..
  have hmp : (f.pg.map encP).length = f.pg.length := List.length_map ..
  have h8 := hA.right.ck.most
  have hk := frOk_out.1 (hA.right.ck.all i hi)
  have hlen := hA.right.len
  refine acall_of Try.func18 5 rfl (by kernel_rfl) ?_
  conv => whnf
  repeat (first | (refine bcase_f rfl ?_; conv => whnf) | (refine bcase_t rfl ?_; conv => whnf) | (refine condK_of rfl ?_; conv => whnf) | (refine condK_of (by decide) ?_; conv => whnf) | (refine condK_of (by omega) ?_; conv => whnf) | (refine wrapK_in (w64 (by omega) (by omega)) ?_; conv => whnf))
  have hr := rfright_ok f ht hd
  rw [frightB_t.2 (fm_iff.2 hA.right)] at hr
  refine callX_pure hr ?_
  conv => whnf
  repeat (first | (refine bcase_f rfl ?_; conv => whnf) | (refine bcase_t rfl ?_; conv => whnf) | (refine condK_of rfl ?_; conv => whnf) | (refine condK_of (by decide) ?_; conv => whnf) | (refine condK_of (by omega) ?_; conv => whnf) | (refine wrapK_in (w64 (by omega) (by omega)) ?_; conv => whnf))
  have hr := rfind15_ok f p (by omega)
  rw [rfindS_at hA] at hr
  refine callX_pure hr ?_
  conv => whnf
  repeat (first | (refine bcase_f rfl ?_; conv => whnf) | (refine bcase_t rfl ?_; conv => whnf) | (refine condK_of rfl ?_; conv => whnf) | (refine condK_of (by decide) ?_; conv => whnf) | (refine condK_of (by omega) ?_; conv => whnf) | (refine wrapK_in (w64 (by omega) (by omega)) ?_; conv => whnf))
  refine idxK_nat (by omega) ?_
  conv => whnf
  refine getRow_of (x := encF f.fr[i]) (by simp [hi]) ?_
  conv => whnf
  repeat (first | (refine bcase_f rfl ?_; conv => whnf) | (refine bcase_t rfl ?_; conv => whnf) | (refine condK_of rfl ?_; conv => whnf) | (refine condK_of (by decide) ?_; conv => whnf) | (refine condK_of (by omega) ?_; conv => whnf) | (refine wrapK_in (w64 (by omega) (by omega)) ?_; conv => whnf))
  refine idxK_nat (by omega) ?_
  conv => whnf
  refine getRow_of (x := encP f.pg[i]) (by simp [hp]) ?_
  conv => whnf
  repeat (first | (refine bcase_f rfl ?_; conv => whnf) | (refine bcase_t rfl ?_; conv => whnf) | (refine condK_of rfl ?_; conv => whnf) | (refine condK_of (by decide) ?_; conv => whnf) | (refine condK_of (by omega) ?_; conv => whnf) | (refine wrapK_in (w64 (by omega) (by omega)) ?_; conv => whnf))
  refine bcase_p (fun g0 => ?_) (fun g0 => ?_) <;> conv => whnf
  · exact absurd g0 hn
  repeat (first | (refine bcase_f rfl ?_; conv => whnf) | (refine bcase_t rfl ?_; conv => whnf) | (refine condK_of rfl ?_; conv => whnf) | (refine condK_of (by decide) ?_; conv => whnf) | (refine condK_of (by omega) ?_; conv => whnf) | (refine wrapK_in (w64 (by omega) (by omega)) ?_; conv => whnf))
  have hw := with_ok f i (upPin f.fr[i]) f.pg[i] (by omega) (by omega)
  refine callX_pure hw ?_
  conv => whnf
  repeat (first | (refine bcase_f rfl ?_; conv => whnf) | (refine bcase_t rfl ?_; conv => whnf) | (refine condK_of rfl ?_; conv => whnf) | (refine condK_of (by decide) ?_; conv => whnf) | (refine condK_of (by omega) ?_; conv => whnf) | (refine wrapK_in (w64 (by omega) (by omega)) ?_; conv => whnf))
  refine ret_of rfl ?_
  have e : withS f i (upPin f.fr[i]) f.pg[i] = withF f i (upPin f.fr[i]) := by
    rw [withS, withF, Int.toNat_natCast, List.set_getElem_self]
  rw [e]
  rfl
theorem turn2_ok (f : FX) (p : Int) (b : ByteArray) (now : Int) {i : Nat} (hA : AtF f p i) (hn : f.fr[i]'hA.hi |>.2.1 ≠ 0) (ht : f.tb.length ≤ 1000000) (hd : f.dt.length ≤ 1000000) :
    ACall Try.prog 18 [encFS f, .int .i64 2, .int .i64 p, .str b, .int .i64 now] (.tup [encFS (withF f i (downPin (f.fr[i]'hA.hi))), .int .i64 0]) := by
  have hi := hA.hi
  have hp := hA.hp
  have hmf : (f.fr.map encF).length = f.fr.length := List.length_map ..
  have hmp : (f.pg.map encP).length = f.pg.length := List.length_map ..
  have h8 := hA.right.ck.most
  have hk := frOk_out.1 (hA.right.ck.all i hi)
  have hlen := hA.right.len
  refine acall_of Try.func18 5 rfl (by kernel_rfl) ?_
  conv => whnf
  repeat (first | (refine bcase_f rfl ?_; conv => whnf) | (refine bcase_t rfl ?_; conv => whnf) | (refine condK_of rfl ?_; conv => whnf) | (refine condK_of (by decide) ?_; conv => whnf) | (refine condK_of (by omega) ?_; conv => whnf) | (refine wrapK_in (w64 (by omega) (by omega)) ?_; conv => whnf))
  have hr := rfright_ok f ht hd
  rw [frightB_t.2 (fm_iff.2 hA.right)] at hr
  refine callX_pure hr ?_
  conv => whnf
  repeat (first | (refine bcase_f rfl ?_; conv => whnf) | (refine bcase_t rfl ?_; conv => whnf) | (refine condK_of rfl ?_; conv => whnf) | (refine condK_of (by decide) ?_; conv => whnf) | (refine condK_of (by omega) ?_; conv => whnf) | (refine wrapK_in (w64 (by omega) (by omega)) ?_; conv => whnf))
  have hr := rfind15_ok f p (by omega)
  rw [rfindS_at hA] at hr
  refine callX_pure hr ?_
  conv => whnf
  repeat (first | (refine bcase_f rfl ?_; conv => whnf) | (refine bcase_t rfl ?_; conv => whnf) | (refine condK_of rfl ?_; conv => whnf) | (refine condK_of (by decide) ?_; conv => whnf) | (refine condK_of (by omega) ?_; conv => whnf) | (refine wrapK_in (w64 (by omega) (by omega)) ?_; conv => whnf))
  refine idxK_nat (by omega) ?_
  conv => whnf
  refine getRow_of (x := encF f.fr[i]) (by simp [hi]) ?_
  conv => whnf
  repeat (first | (refine bcase_f rfl ?_; conv => whnf) | (refine bcase_t rfl ?_; conv => whnf) | (refine condK_of rfl ?_; conv => whnf) | (refine condK_of (by decide) ?_; conv => whnf) | (refine condK_of (by omega) ?_; conv => whnf) | (refine wrapK_in (w64 (by omega) (by omega)) ?_; conv => whnf))
  refine idxK_nat (by omega) ?_
  conv => whnf
  refine getRow_of (x := encP f.pg[i]) (by simp [hp]) ?_
  conv => whnf
  repeat (first | (refine bcase_f rfl ?_; conv => whnf) | (refine bcase_t rfl ?_; conv => whnf) | (refine condK_of rfl ?_; conv => whnf) | (refine condK_of (by decide) ?_; conv => whnf) | (refine condK_of (by omega) ?_; conv => whnf) | (refine wrapK_in (w64 (by omega) (by omega)) ?_; conv => whnf))
  refine bcase_p (fun g0 => ?_) (fun g0 => ?_) <;> conv => whnf
  · exact absurd g0 hn
  repeat (first | (refine bcase_f rfl ?_; conv => whnf) | (refine bcase_t rfl ?_; conv => whnf) | (refine condK_of rfl ?_; conv => whnf) | (refine condK_of (by decide) ?_; conv => whnf) | (refine condK_of (by omega) ?_; conv => whnf) | (refine wrapK_in (w64 (by omega) (by omega)) ?_; conv => whnf))
  have hw := with_ok f i (downPin f.fr[i]) f.pg[i] (by omega) (by omega)
  refine callX_pure hw ?_
  conv => whnf
  repeat (first | (refine bcase_f rfl ?_; conv => whnf) | (refine bcase_t rfl ?_; conv => whnf) | (refine condK_of rfl ?_; conv => whnf) | (refine condK_of (by decide) ?_; conv => whnf) | (refine condK_of (by omega) ?_; conv => whnf) | (refine wrapK_in (w64 (by omega) (by omega)) ?_; conv => whnf))
  refine ret_of rfl ?_
  have e : withS f i (downPin f.fr[i]) f.pg[i] = withF f i (downPin f.fr[i]) := by
    rw [withS, withF, Int.toNat_natCast, List.set_getElem_self]
  rw [e]
  rfl
end Go.Lk

