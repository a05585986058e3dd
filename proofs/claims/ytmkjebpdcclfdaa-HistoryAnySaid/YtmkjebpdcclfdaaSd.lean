/-
  slices.Insert, slices.Delete, comparators, clones, maps.
-/
import Derived.Test.YtmkjebpdcclfdaaSa
import Derived.Test.YtmkjebpdcclfdaaSc
set_option linter.unusedSectionVars false
set_option linter.unusedSimpArgs false
set_option linter.unusedVariables false
set_option linter.unnecessarySimpa false
namespace Go.Lk
open Go Go.Proofs Go.RowKit

theorem okRows_sub {sz : Nat} {l : List (List D)} (h : okRows sz l = true) (n m : Nat) : okRows sz ((l.drop n).take m) = true := by
  simp only [okRows, List.all_eq_true] at h ⊢
  intro x hx
  exact h x (List.mem_of_mem_drop (List.mem_of_mem_take hx))
theorem okRows_drop {sz : Nat} {l : List (List D)} (h : okRows sz l = true) (n : Nat) : okRows sz (l.drop n) = true := by
  simp only [okRows, List.all_eq_true] at h ⊢
  intro x hx
  exact h x (List.mem_of_mem_drop hx)
theorem okRows_take {sz : Nat} {l : List (List D)} (h : okRows sz l = true) (n : Nat) : okRows sz (l.take n) = true := by
  simp only [okRows, List.all_eq_true] at h ⊢
  intro x hx
  exact h x (List.mem_of_mem_take hx)

theorem ins_grow {α : Type} {A Z V B X Y : List α} {i m n : Nat} (hA : A.length = i) (hV : V.length = m) (hB : B.length = n - i) (hi : i ≤ n) (k : Nat) (hk : k = n + m) :
    (((A ++ Z).take i ++ (V ++ X)).take (i + m) ++ (B ++ Y)).take k = A ++ (V ++ B) := by
  have h1 : (A ++ Z).take i = A := List.take_left' hA
  have h2 : (A ++ (V ++ X)).take (i + m) = A ++ V := by rw [← List.append_assoc]; exact List.take_left' (by simp [hA, hV])
  rw [h1, h2]
  have h3 : (A ++ V ++ (B ++ Y)) = (A ++ (V ++ B)) ++ Y := by simp
  rw [h3]; exact List.take_left' (by simp [hA, hV, hB, hk]; omega)
theorem ins_in {α : Type} {R V B Y : List α} {i m n : Nat} (hR : n + m ≤ R.length) (hV : V.length = m) (hB : B.length = n - i) (hi : i ≤ n) (k : Nat) (hk : k = n + m) :
    ((R.take (i + m) ++ (B ++ Y)).take i ++ (V ++ (R.take (i + m) ++ (B ++ Y)).drop (i + m))).take k = R.take i ++ (V ++ B) := by
  have h1 : (R.take (i + m)).length = i + m := by rw [List.length_take]; omega
  have h2 : (R.take i).length = i := by rw [List.length_take]; omega
  have h3 : (R.take (i + m) ++ (B ++ Y)).take i = R.take i := by rw [List.take_append_of_le_length (by omega), List.take_take, Nat.min_eq_left (by omega)]
  have h4 : (R.take (i + m) ++ (B ++ Y)).drop (i + m) = B ++ Y := List.drop_left' h1
  rw [h3, h4]
  have h5 : R.take i ++ (V ++ (B ++ Y)) = (R.take i ++ (V ++ B)) ++ Y := by simp
  rw [h5]; exact List.take_left' (by simp [h2, hV, hB, hk]; omega)

theorem insert_ok {l vs : List (List D)} {i : Nat} (hi : i ≤ l.length) (hl : l.length ≤ 1000000) (hv0 : 0 < vs.length) (hv : vs.length ≤ 1000) (hok : okRows 3 l = true) (hp : okRows 3 vs = true) :
    WCall Try.prog 34 l 3 [.d (.int .i64 i), .own 1000000] [(1000000, .row vs 3 false)] [(1000000, .row vs 3 false)] (l.take i ++ (vs ++ l.drop i)) := by
  refine wcall_of Try.func34 3 rfl (by kernel_rfl) (by rfl) ?_
  refine ⟨fun cap hcap => ?_, fun h0 => ?_⟩
  · obtain ⟨R, hR⟩ : ∃ R, R = l ++ List.replicate (cap - l.length) (List.replicate 3 D.unk) := ⟨_, rfl⟩
    have hRl : R.length = cap := by rw [hR]; simp; omega
    have hRt : R.take l.length = l := by rw [hR]; simp
    have hRi : R.take i = l.take i := by rw [hR, List.take_append_of_le_length hi]
    rw [← hR]
    conv => whnf
    refine winK_lo (by omega) hcap ?_
    conv => whnf
    repeat (first | (refine bcase_f rfl ?_; conv => whnf) | (refine bcase_t rfl ?_; conv => whnf) | (refine condK_draw (by kernel_rfl) ?_; conv => whnf) | (refine condK_of rfl ?_; conv => whnf) | (refine condK_of (by decide) ?_; conv => whnf) | (refine condK_of (by omega) ?_; conv => whnf) | (refine wrapK_in (w64 (by omega) (by omega)) ?_; conv => whnf))
    refine bcase_p (fun hm0 => ?_) (fun hm0 => ?_) <;> conv => whnf
    · omega
    repeat (first | (refine bcase_f rfl ?_; conv => whnf) | (refine bcase_t rfl ?_; conv => whnf) | (refine condK_draw (by kernel_rfl) ?_; conv => whnf) | (refine condK_of rfl ?_; conv => whnf) | (refine condK_of (by decide) ?_; conv => whnf) | (refine condK_of (by omega) ?_; conv => whnf) | (refine wrapK_in (w64 (by omega) (by omega)) ?_; conv => whnf))
    refine bcase_p (fun hin => ?_) (fun hin => ?_) <;> conv => whnf
    · have hin' : i = l.length := by omega
      subst hin'
      repeat (first | (refine bcase_f rfl ?_; conv => whnf) | (refine bcase_t rfl ?_; conv => whnf) | (refine condK_draw (by kernel_rfl) ?_; conv => whnf) | (refine condK_of rfl ?_; conv => whnf) | (refine condK_of (by decide) ?_; conv => whnf) | (refine condK_of (by omega) ?_; conv => whnf) | (refine wrapK_in (w64 (by omega) (by omega)) ?_; conv => whnf))
      refine condK_of hp ?_
      conv => whnf
      refine ⟨fun hf => ?_, fun hf => ?_⟩
      · conv => whnf
        refine condK_of (by omega) ?_
        conv => whnf
        refine wret_win rfl rfl rfl ?_ ?_ rfl ⟨rfl, trivial⟩
        · simp; omega
        · rw [Nat.zero_add, hRt, ← List.append_assoc]
          rw [List.take_append_of_le_length (by simp)]
          rw [List.take_of_length_le (by simp)]
          simp
      · conv => whnf
        refine condK_of (by omega) ?_
        conv => whnf
        refine roomK_of (Nat.le_trans (Nat.mul_le_mul_right _ (by show l.length + vs.length ≤ 1001000; omega)) (by decide)) (by omega) ?_
        conv => whnf
        refine wret_win rfl rfl rfl ?_ ?_ rfl ⟨rfl, trivial⟩
        · simp [hRl]; omega
        · rw [List.drop_zero, hRt]
          rw [List.take_of_length_le (by simp)]
          simp
    · have hilt : i < l.length := by omega
      repeat (first | (refine bcase_f rfl ?_; conv => whnf) | (refine bcase_t rfl ?_; conv => whnf) | (refine condK_draw (by kernel_rfl) ?_; conv => whnf) | (refine condK_of rfl ?_; conv => whnf) | (refine condK_of (by decide) ?_; conv => whnf) | (refine condK_of (by omega) ?_; conv => whnf) | (refine wrapK_in (w64 (by omega) (by omega)) ?_; conv => whnf))
      refine bcase_p (fun hcp => ?_) (fun hcp => ?_) <;> conv => whnf
      · refine winK_hi (by simp; omega) ?_
        conv => whnf
        repeat (first | (refine bcase_f rfl ?_; conv => whnf) | (refine bcase_t rfl ?_; conv => whnf) | (refine condK_draw (by kernel_rfl) ?_; conv => whnf) | (refine condK_of rfl ?_; conv => whnf) | (refine condK_of (by decide) ?_; conv => whnf) | (refine condK_of (by omega) ?_; conv => whnf) | (refine wrapK_in (w64 (by omega) (by omega)) ?_; conv => whnf))
        have eN : ((l.length : Nat) : Int) + ((vs.length : Nat) : Int) - (i : Int) = ((l.length + vs.length - i : Nat) : Int) := by omega
        rw [eN]
        simp only [Int.toNat_natCast, Nat.sub_zero, Nat.zero_add]
        refine roomK_of (Nat.le_trans (Nat.mul_le_mul_right _ (by show i + (l.length + vs.length - i) ≤ 1001000; omega)) (by decide)) (by omega) ?_
        conv => whnf
        refine winK_lo (by omega) (by simp) ?_
        conv => whnf
        have em : Nat.min vs.length (i + (l.length + vs.length - i) - i) = vs.length := Nat.min_eq_left (by omega)
        rw [em, List.take_length]
        refine condK_of ⟨by simp; omega, hp⟩ ?_
        conv => whnf
        repeat (first | (refine bcase_f rfl ?_; conv => whnf) | (refine bcase_t rfl ?_; conv => whnf) | (refine condK_draw (by kernel_rfl) ?_; conv => whnf) | (refine condK_of rfl ?_; conv => whnf) | (refine condK_of (by decide) ?_; conv => whnf) | (refine condK_of (by omega) ?_; conv => whnf) | (refine wrapK_in (w64 (by omega) (by omega)) ?_; conv => whnf))
        refine winK_lo (by omega) (by simp) ?_
        conv => whnf
        refine winK_lo (by omega) hcap ?_
        conv => whnf
        refine condK_of (by omega) ?_
        conv => whnf
        have es : List.take (l.length - i) (List.drop (0 + i) R) = l.drop i := by rw [Nat.zero_add, ← List.drop_take, hRt]
        rw [es]
        have em2 : Nat.min (l.drop i).length (i + (l.length + vs.length - i) - (i + vs.length)) = (l.drop i).length := Nat.min_eq_left (by rw [List.length_drop]; omega)
        rw [em2, List.take_length]
        refine condK_of ⟨by simp; omega, okRows_drop hok i⟩ ?_
        conv => whnf
        repeat (first | (refine bcase_f rfl ?_; conv => whnf) | (refine bcase_t rfl ?_; conv => whnf) | (refine condK_draw (by kernel_rfl) ?_; conv => whnf) | (refine condK_of rfl ?_; conv => whnf) | (refine condK_of (by decide) ?_; conv => whnf) | (refine condK_of (by omega) ?_; conv => whnf) | (refine wrapK_in (w64 (by omega) (by omega)) ?_; conv => whnf))
        refine wret_win rfl rfl rfl ?_ ?_ rfl ⟨rfl, trivial⟩
        · simp; omega
        · have e0 : (R.take i).length = i := by rw [List.length_take]; omega
          have e1 : (l.take i).length = i := by rw [List.length_take]; omega
          have e2 : (l.drop i).length = l.length - i := List.length_drop ..
          simp only [List.drop_zero, Nat.zero_add, hRi]
          exact ins_grow e1 rfl e2 hi _ (by omega)
      · repeat (first | (refine bcase_f rfl ?_; conv => whnf) | (refine bcase_t rfl ?_; conv => whnf) | (refine condK_draw (by kernel_rfl) ?_; conv => whnf) | (refine condK_of rfl ?_; conv => whnf) | (refine condK_of (by decide) ?_; conv => whnf) | (refine condK_of (by omega) ?_; conv => whnf) | (refine wrapK_in (w64 (by omega) (by omega)) ?_; conv => whnf))
        refine winK_hi (by show l.length + vs.length ≤ cap; omega) ?_
        conv => whnf
        repeat (first | (refine bcase_f rfl ?_; conv => whnf) | (refine bcase_t rfl ?_; conv => whnf) | (refine condK_draw (by kernel_rfl) ?_; conv => whnf) | (refine condK_of rfl ?_; conv => whnf) | (refine condK_of (by decide) ?_; conv => whnf) | (refine condK_of (by omega) ?_; conv => whnf) | (refine wrapK_in (w64 (by omega) (by omega)) ?_; conv => whnf))
        refine winK_lo (by omega) (by show l.length + vs.length - 0 ≤ cap - 0; omega) ?_
        conv => whnf
        refine callH_ext (xcall_overlaps (t := 22) (tR := 4) tabOk Try.func39 (by kernel_rfl) (by kernel_rfl) (by kernel_rfl) (by kernel_rfl) rfl rfl rfl (by decide) (by intro e; rw [e] at hv0; exact absurd hv0 (by decide)) (by omega) (by decide)) ?_
        conv => whnf
        repeat (first | (refine bcase_f rfl ?_; conv => whnf) | (refine bcase_t rfl ?_; conv => whnf) | (refine condK_draw (by kernel_rfl) ?_; conv => whnf) | (refine condK_of rfl ?_; conv => whnf) | (refine condK_of (by decide) ?_; conv => whnf) | (refine condK_of (by omega) ?_; conv => whnf) | (refine wrapK_in (w64 (by omega) (by omega)) ?_; conv => whnf))
        refine winK_lo (by omega) (by show l.length + vs.length - 0 ≤ cap - 0; omega) ?_
        conv => whnf
        refine winK_lo (by omega) (by show l.length + vs.length - 0 ≤ cap - 0; omega) ?_
        conv => whnf
        refine condK_of (by omega) ?_
        conv => whnf
        have es : (List.take (l.length + vs.length - 0 - i) (List.drop (0 + 0 + i) R)).length = l.length + vs.length - i := by rw [List.length_take, List.length_drop]; omega
        have em : Nat.min (List.take (l.length + vs.length - 0 - i) (List.drop (0 + 0 + i) R)).length (l.length + vs.length - 0 - (i + vs.length)) = l.length - i := by rw [es]; exact (Nat.min_eq_right (by omega)).trans (by omega)
        rw [em]
        have es2 : List.take (l.length - i) (List.take (l.length + vs.length - 0 - i) (List.drop (0 + 0 + i) R)) = l.drop i := by
          rw [List.take_take, Nat.min_eq_left (by omega), show 0 + 0 + i = i by omega, ← List.drop_take, hRt]
        rw [es2]
        refine condK_of ⟨by omega, okRows_drop hok i⟩ ?_
        conv => whnf
        repeat (first | (refine bcase_f rfl ?_; conv => whnf) | (refine bcase_t rfl ?_; conv => whnf) | (refine condK_draw (by kernel_rfl) ?_; conv => whnf) | (refine condK_of rfl ?_; conv => whnf) | (refine condK_of (by decide) ?_; conv => whnf) | (refine condK_of (by omega) ?_; conv => whnf) | (refine wrapK_in (w64 (by omega) (by omega)) ?_; conv => whnf))
        refine winK_lo (by omega) (by show l.length + vs.length - 0 ≤ cap - 0; omega) ?_
        conv => whnf
        have em3 : Nat.min vs.length (l.length + vs.length - 0 - i) = vs.length := Nat.min_eq_left (by omega)
        rw [em3, List.take_length]
        refine condK_of ⟨by simp; omega, hp⟩ ?_
        conv => whnf
        repeat (first | (refine bcase_f rfl ?_; conv => whnf) | (refine bcase_t rfl ?_; conv => whnf) | (refine condK_draw (by kernel_rfl) ?_; conv => whnf) | (refine condK_of rfl ?_; conv => whnf) | (refine condK_of (by decide) ?_; conv => whnf) | (refine condK_of (by omega) ?_; conv => whnf) | (refine wrapK_in (w64 (by omega) (by omega)) ?_; conv => whnf))
        refine wret_win rfl rfl rfl ?_ ?_ rfl ⟨rfl, trivial⟩
        · simp; omega
        · have e0 : (0 : Nat) + 0 + i = i := by omega
          have e1 : (0 : Nat) + 0 + (i + vs.length) = i + vs.length := by omega
          have e2 : (l.drop i).length = l.length - i := List.length_drop ..
          rw [e0, e1, ← hRi]
          exact ins_in (n := l.length) (by omega) rfl e2 hi _ (by omega)
  · conv => whnf
    refine sliceK_lo (by rw [h0] at hi; exact hi) ?_
    conv => whnf
    have hi0 : i = 0 := by rw [h0] at hi; simpa using hi
    subst hi0
    repeat (first | (refine bcase_f rfl ?_; conv => whnf) | (refine bcase_t rfl ?_; conv => whnf) | (refine condK_draw (by kernel_rfl) ?_; conv => whnf) | (refine condK_of rfl ?_; conv => whnf) | (refine condK_of (by decide) ?_; conv => whnf) | (refine condK_of (by omega) ?_; conv => whnf) | (refine wrapK_in (w64 (by omega) (by omega)) ?_; conv => whnf))
    refine bcase_p (fun hm0 => ?_) (fun hm0 => ?_) <;> conv => whnf
    · omega
    repeat (first | (refine bcase_f rfl ?_; conv => whnf) | (refine bcase_t rfl ?_; conv => whnf) | (refine condK_draw (by kernel_rfl) ?_; conv => whnf) | (refine condK_of rfl ?_; conv => whnf) | (refine condK_of (by decide) ?_; conv => whnf) | (refine condK_of (by omega) ?_; conv => whnf) | (refine wrapK_in (w64 (by omega) (by omega)) ?_; conv => whnf))
    refine condK_of hp ?_
    conv => whnf
    refine roomK_of (Nat.le_trans (Nat.mul_le_mul_right _ (by show vs.length ≤ 1001000; omega)) (by decide)) (by omega) ?_
    conv => whnf
    subst h0
    refine wret_own rfl rfl ?_ rfl ⟨rfl, trivial⟩
    show some (Blk.row vs 3 false) = some (Blk.row ([].take 0 ++ (vs ++ [].drop 0)) 3 false)
    simp
end Go.Lk

set_option linter.unusedSimpArgs false
set_option linter.unusedVariables false
set_option linter.unnecessarySimpa false
namespace Go.Lk
open Go Go.Proofs Go.RowKit

theorem delete_ok {l : List (List D)} {i j : Nat} (hi : i < j) (hj : j ≤ l.length) (hl : l.length ≤ 1000000) (hok : okRows 3 l = true) :
    WCall Try.prog 36 l 3 [.d (.int .i64 i), .d (.int .i64 j)] [] [] (l.take i ++ l.drop j) := by
  refine wcall_of Try.func36 3 rfl (by kernel_rfl) (by rfl) ?_
  refine ⟨fun cap hcap => ?_, fun h0 => by rw [h0] at hj; simp at hj; omega⟩
  obtain ⟨R, hR⟩ : ∃ R, R = l ++ List.replicate (cap - l.length) (List.replicate 3 D.unk) := ⟨_, rfl⟩
  have hRl : R.length = cap := by rw [hR]; simp; omega
  have hRt : R.take l.length = l := by rw [hR]; simp
  have hRi : R.take i = l.take i := by rw [hR, List.take_append_of_le_length (by omega)]
  rw [← hR]
  conv => whnf
  refine condK_of ⟨(by intro e; cases e), by omega, by show (l.length : Int) ≤ cap; omega⟩ ?_
  conv => whnf
  refine winK_lohi (by omega) (by simpa using hj) ?_
  conv => whnf
  repeat (first | (refine bcase_f rfl ?_; conv => whnf) | (refine bcase_t rfl ?_; conv => whnf) | (refine condK_draw (by kernel_rfl) ?_; conv => whnf) | (refine condK_of rfl ?_; conv => whnf) | (refine condK_of (by decide) ?_; conv => whnf) | (refine condK_of (by omega) ?_; conv => whnf) | (refine wrapK_in (w64 (by omega) (by omega)) ?_; conv => whnf))
  refine bcase_p (fun hij => ?_) (fun hij => ?_) <;> conv => whnf
  · omega
  repeat (first | (refine bcase_f rfl ?_; conv => whnf) | (refine bcase_t rfl ?_; conv => whnf) | (refine condK_draw (by kernel_rfl) ?_; conv => whnf) | (refine condK_of rfl ?_; conv => whnf) | (refine condK_of (by decide) ?_; conv => whnf) | (refine condK_of (by omega) ?_; conv => whnf) | (refine wrapK_in (w64 (by omega) (by omega)) ?_; conv => whnf))
  refine winK_hi (by show i ≤ cap; omega) ?_
  conv => whnf
  refine winK_lo (by omega) (by show l.length ≤ cap; omega) ?_
  conv => whnf
  have es : List.take (l.length - j) (List.drop (0 + j) R) = l.drop j := by rw [Nat.zero_add, ← List.drop_take, hRt]
  have e2 : (l.drop j).length = l.length - j := List.length_drop ..
  rw [es]
  refine condK_of ⟨by omega, okRows_drop hok j⟩ ?_
  conv => whnf
  refine ⟨fun hf => ?_, fun hf => absurd (show i - 0 + (l.drop j).length ≤ cap - 0 by omega) hf⟩
  conv => whnf
  refine condK_of (by omega) ?_
  conv => whnf
  repeat (first | (refine bcase_f rfl ?_; conv => whnf) | (refine bcase_t rfl ?_; conv => whnf) | (refine condK_draw (by kernel_rfl) ?_; conv => whnf) | (refine condK_of rfl ?_; conv => whnf) | (refine condK_of (by decide) ?_; conv => whnf) | (refine condK_of (by omega) ?_; conv => whnf) | (refine wrapK_in (w64 (by omega) (by omega)) ?_; conv => whnf))
  refine winK_lohi (by omega) (by show l.length ≤ cap - 0; omega) ?_
  conv => whnf
  refine condK_of ⟨by simp; omega, rfl⟩ ?_
  conv => whnf
  repeat (first | (refine bcase_f rfl ?_; conv => whnf) | (refine bcase_t rfl ?_; conv => whnf) | (refine condK_draw (by kernel_rfl) ?_; conv => whnf) | (refine condK_of rfl ?_; conv => whnf) | (refine condK_of (by decide) ?_; conv => whnf) | (refine condK_of (by omega) ?_; conv => whnf) | (refine wrapK_in (w64 (by omega) (by omega)) ?_; conv => whnf))
  refine wret_win rfl rfl rfl ?_ ?_ rfl trivial
  · simp; omega
  · have e1 : (l.take i).length = i := by rw [List.length_take]; omega
    have e3 : (0 : Nat) + 0 + (i - 0) = i := by omega
    have h1 : ∀ Y : List (List D), (List.take (0 + (i - 0)) R ++ (l.drop j ++ Y)).take (0 + (i - 0 + (l.drop j).length)) = l.take i ++ l.drop j := by
      intro Y
      rw [show 0 + (i - 0) = i by omega, hRi, ← List.append_assoc]
      exact List.take_left' (by rw [List.length_append, e1]; omega)
    rw [h1]
    exact List.take_left' (by rw [List.length_append, e1]; omega)
end Go.Lk

set_option linter.unusedSimpArgs false
set_option linter.unusedVariables false
set_option linter.unnecessarySimpa false
namespace Go.Lk
open Go Go.Proofs Go.RowKit Go.Lk.St

def cmpI (a b : Int) : Int := if a < b then -1 else if b < a then 1 else 0
theorem isNaN_ok (a : Int) : ACall Try.prog 38 [.int .i64 a] (.bool false) := by
  refine acall_of Try.func38 1 rfl (by kernel_rfl) ?_
  conv => whnf
  repeat (first | (refine bcase_f rfl ?_; conv => whnf) | (refine bcase_t rfl ?_; conv => whnf) | (refine condK_draw (by kernel_rfl) ?_; conv => whnf) | (refine condK_of rfl ?_; conv => whnf) | (refine condK_of (by decide) ?_; conv => whnf) | (refine condK_of (by omega) ?_; conv => whnf) | (refine wrapK_in (w64 (by omega) (by omega)) ?_; conv => whnf))
  exact ret_of rfl (by simp)
theorem compare_ok (a b : Int) : ACall Try.prog 28 [.int .i64 a, .int .i64 b] (.int .i64 (cmpI a b)) := by
  refine acall_of Try.func28 2 rfl (by kernel_rfl) ?_
  conv => whnf
  refine callX_pure (isNaN_ok a) ?_
  conv => whnf
  repeat (first | (refine bcase_f rfl ?_; conv => whnf) | (refine bcase_t rfl ?_; conv => whnf) | (refine condK_draw (by kernel_rfl) ?_; conv => whnf) | (refine condK_of rfl ?_; conv => whnf) | (refine condK_of (by decide) ?_; conv => whnf) | (refine condK_of (by omega) ?_; conv => whnf) | (refine wrapK_in (w64 (by omega) (by omega)) ?_; conv => whnf))
  refine callX_pure (isNaN_ok b) ?_
  conv => whnf
  repeat (first | (refine bcase_f rfl ?_; conv => whnf) | (refine bcase_t rfl ?_; conv => whnf) | (refine condK_draw (by kernel_rfl) ?_; conv => whnf) | (refine condK_of rfl ?_; conv => whnf) | (refine condK_of (by decide) ?_; conv => whnf) | (refine condK_of (by omega) ?_; conv => whnf) | (refine wrapK_in (w64 (by omega) (by omega)) ?_; conv => whnf))
  refine bcase_p (fun h1 => ?_) (fun h1 => ?_) <;> conv => whnf
  · exact ret_of rfl (by simp [cmpI, h1])
  repeat (first | (refine bcase_f rfl ?_; conv => whnf) | (refine bcase_t rfl ?_; conv => whnf) | (refine condK_draw (by kernel_rfl) ?_; conv => whnf) | (refine condK_of rfl ?_; conv => whnf) | (refine condK_of (by decide) ?_; conv => whnf) | (refine condK_of (by omega) ?_; conv => whnf) | (refine wrapK_in (w64 (by omega) (by omega)) ?_; conv => whnf))
  refine bcase_p (fun h2 => ?_) (fun h2 => ?_) <;> conv => whnf
  · exact ret_of rfl (by simp [cmpI, h1, h2])
  repeat (first | (refine bcase_f rfl ?_; conv => whnf) | (refine bcase_t rfl ?_; conv => whnf) | (refine condK_draw (by kernel_rfl) ?_; conv => whnf) | (refine condK_of rfl ?_; conv => whnf) | (refine condK_of (by decide) ?_; conv => whnf) | (refine condK_of (by omega) ?_; conv => whnf) | (refine wrapK_in (w64 (by omega) (by omega)) ?_; conv => whnf))
  exact ret_of rfl (by simp [cmpI, h1, h2])
theorem or_ok (x y : Int) : ACall Try.prog 30 [.lst [[.int .i64 x], [.int .i64 y]]] (.int .i64 (if x = 0 then y else x)) := by
  refine acall_of Try.func30 1 rfl (by kernel_rfl) ?_
  conv => whnf
  refine aloop (ι := Nat) (fun k => [(3, .d (.int .i64 0)), (6, .d (.lst [[.int .i64 x], [.int .i64 y]])), (7, .d (.int .i64 2)), (8, .d (.int .i64 k))]) (fun _ => [])
    (fun k => k ≤ 2 ∧ (1 ≤ k → x = 0) ∧ (2 ≤ k → y = 0)) (fun k => 2 - k) 0 ⟨by omega, by omega, by omega⟩ (le0 (le_of_cov ⟨rfl, rfl, rfl, rfl, trivial⟩ trivial ⟨rfl, rfl, rfl, rfl⟩)) ?_
  rintro k ⟨hk, h1, h2⟩
  conv => whnf
  refine bcase_p (fun h5 => ?_) (fun h5 => ?_) <;> conv => whnf
  · obtain rfl | rfl : k = 0 ∨ k = 1 := by omega
    · refine idxK_nat (show _ < 2 by decide) ?_
      conv => whnf
      refine getRow_of (x := [.int .i64 x]) rfl ?_
      conv => whnf
      repeat (first | (refine bcase_f rfl ?_; conv => whnf) | (refine bcase_t rfl ?_; conv => whnf) | (refine condK_draw (by kernel_rfl) ?_; conv => whnf) | (refine condK_of rfl ?_; conv => whnf) | (refine condK_of (by decide) ?_; conv => whnf) | (refine condK_of (by omega) ?_; conv => whnf) | (refine wrapK_in (w64 (by omega) (by omega)) ?_; conv => whnf))
      refine bcase_n (fun g => ?_) (fun g => ?_) <;> conv => whnf
      · exact ret_of rfl (by simp [g])
      · repeat (first | (refine bcase_f rfl ?_; conv => whnf) | (refine bcase_t rfl ?_; conv => whnf) | (refine condK_draw (by kernel_rfl) ?_; conv => whnf) | (refine condK_of rfl ?_; conv => whnf) | (refine condK_of (by decide) ?_; conv => whnf) | (refine condK_of (by omega) ?_; conv => whnf) | (refine wrapK_in (w64 (by omega) (by omega)) ?_; conv => whnf))
        exact ⟨1, ⟨by omega, fun _ => g, by omega⟩, by omega, (le0 (le_of_cov ⟨rfl, rfl, rfl, rfl, trivial⟩ trivial ⟨rfl, rfl, rfl, rfl⟩))⟩
    · refine idxK_nat (show _ < 2 by decide) ?_
      conv => whnf
      refine getRow_of (x := [.int .i64 y]) rfl ?_
      conv => whnf
      repeat (first | (refine bcase_f rfl ?_; conv => whnf) | (refine bcase_t rfl ?_; conv => whnf) | (refine condK_draw (by kernel_rfl) ?_; conv => whnf) | (refine condK_of rfl ?_; conv => whnf) | (refine condK_of (by decide) ?_; conv => whnf) | (refine condK_of (by omega) ?_; conv => whnf) | (refine wrapK_in (w64 (by omega) (by omega)) ?_; conv => whnf))
      refine bcase_n (fun g => ?_) (fun g => ?_) <;> conv => whnf
      · exact ret_of rfl (by simp [h1 (by omega)])
      · repeat (first | (refine bcase_f rfl ?_; conv => whnf) | (refine bcase_t rfl ?_; conv => whnf) | (refine condK_draw (by kernel_rfl) ?_; conv => whnf) | (refine condK_of rfl ?_; conv => whnf) | (refine condK_of (by decide) ?_; conv => whnf) | (refine condK_of (by omega) ?_; conv => whnf) | (refine wrapK_in (w64 (by omega) (by omega)) ?_; conv => whnf))
        exact ⟨2, ⟨by omega, fun _ => h1 (by omega), fun _ => g⟩, by omega, (le0 (le_of_cov ⟨rfl, rfl, rfl, rfl, trivial⟩ trivial ⟨rfl, rfl, rfl, rfl⟩))⟩
  · repeat (first | (refine bcase_f rfl ?_; conv => whnf) | (refine bcase_t rfl ?_; conv => whnf) | (refine condK_draw (by kernel_rfl) ?_; conv => whnf) | (refine condK_of rfl ?_; conv => whnf) | (refine condK_of (by decide) ?_; conv => whnf) | (refine condK_of (by omega) ?_; conv => whnf) | (refine wrapK_in (w64 (by omega) (by omega)) ?_; conv => whnf))
    exact ret_of rfl (by simp [h1 (by omega), h2 (by omega)])
theorem byDone_ok (x y : Ev) : ACall Try.prog 27 [.agg (encE x), .agg (encE y)] (.int .i64 (cmpI x.done y.done)) := by
  refine acall_of Try.func27 2 rfl (by kernel_rfl) ?_
  conv => whnf
  repeat (first | (refine bcase_f rfl ?_; conv => whnf) | (refine bcase_t rfl ?_; conv => whnf) | (refine condK_draw (by kernel_rfl) ?_; conv => whnf) | (refine condK_of rfl ?_; conv => whnf) | (refine condK_of (by decide) ?_; conv => whnf) | (refine condK_of (by omega) ?_; conv => whnf) | (refine wrapK_in (w64 (by omega) (by omega)) ?_; conv => whnf))
  refine callX_pure (compare_ok x.done y.done) ?_
  conv => whnf
  repeat (first | (refine bcase_f rfl ?_; conv => whnf) | (refine bcase_t rfl ?_; conv => whnf) | (refine condK_draw (by kernel_rfl) ?_; conv => whnf) | (refine condK_of rfl ?_; conv => whnf) | (refine condK_of (by decide) ?_; conv => whnf) | (refine condK_of (by omega) ?_; conv => whnf) | (refine wrapK_in (w64 (by omega) (by omega)) ?_; conv => whnf))
  exact ret_of rfl rfl
theorem byWho_ok (x y : Ev) : ACall Try.prog 29 [.agg (encE x), .agg (encE y)] (.int .i64 (if cmpI x.who y.who = 0 then cmpI x.began y.began else cmpI x.who y.who)) := by
  refine acall_of Try.func29 2 rfl (by kernel_rfl) ?_
  conv => whnf
  repeat (first | (refine bcase_f rfl ?_; conv => whnf) | (refine bcase_t rfl ?_; conv => whnf) | (refine condK_draw (by kernel_rfl) ?_; conv => whnf) | (refine condK_of rfl ?_; conv => whnf) | (refine condK_of (by decide) ?_; conv => whnf) | (refine condK_of (by omega) ?_; conv => whnf) | (refine wrapK_in (w64 (by omega) (by omega)) ?_; conv => whnf))
  refine callX_pure (compare_ok x.who y.who) ?_
  conv => whnf
  repeat (first | (refine bcase_f rfl ?_; conv => whnf) | (refine bcase_t rfl ?_; conv => whnf) | (refine condK_draw (by kernel_rfl) ?_; conv => whnf) | (refine condK_of rfl ?_; conv => whnf) | (refine condK_of (by decide) ?_; conv => whnf) | (refine condK_of (by omega) ?_; conv => whnf) | (refine wrapK_in (w64 (by omega) (by omega)) ?_; conv => whnf))
  refine callX_pure (compare_ok x.began y.began) ?_
  conv => whnf
  repeat (first | (refine bcase_f rfl ?_; conv => whnf) | (refine bcase_t rfl ?_; conv => whnf) | (refine condK_draw (by kernel_rfl) ?_; conv => whnf) | (refine condK_of rfl ?_; conv => whnf) | (refine condK_of (by decide) ?_; conv => whnf) | (refine condK_of (by omega) ?_; conv => whnf) | (refine wrapK_in (w64 (by omega) (by omega)) ?_; conv => whnf))
  refine callX_pure (or_ok (cmpI x.who y.who) (cmpI x.began y.began)) ?_
  conv => whnf
  repeat (first | (refine bcase_f rfl ?_; conv => whnf) | (refine bcase_t rfl ?_; conv => whnf) | (refine condK_draw (by kernel_rfl) ?_; conv => whnf) | (refine condK_of rfl ?_; conv => whnf) | (refine condK_of (by decide) ?_; conv => whnf) | (refine condK_of (by omega) ?_; conv => whnf) | (refine wrapK_in (w64 (by omega) (by omega)) ?_; conv => whnf))
  exact ret_of rfl rfl
def leD (x y : Ev) : Bool := decide (x.done ≤ y.done)
def leW (x y : Ev) : Bool := decide (x.who < y.who ∨ (x.who = y.who ∧ x.began ≤ y.began))
theorem cmpD : Cmp 27 leD := by
  refine ⟨⟨fun x y => ?_, fun x y z => ?_⟩, fun x y => ⟨_, byDone_ok x y, ?_⟩⟩
  · simp only [leD, decide_eq_true_eq]; omega
  · simp only [leD, decide_eq_true_eq]; omega
  · simp only [leD, decide_eq_false_iff_not]
    by_cases a1 : x.done < y.done
    · simp [cmpI, a1] <;> omega
    · by_cases a2 : y.done < x.done
      · simp [cmpI, a1, a2] <;> omega
      · simp [cmpI, a1, a2] <;> omega
theorem cmpW : Cmp 29 leW := by
  refine ⟨⟨fun x y => ?_, fun x y z => ?_⟩, fun x y => ⟨_, byWho_ok x y, ?_⟩⟩
  · simp only [leW, decide_eq_true_eq]; omega
  · simp only [leW, decide_eq_true_eq]; omega
  · simp only [leW, decide_eq_false_iff_not, cmpI]
    by_cases a1 : x.who < y.who
    · simp [a1] <;> omega
    · by_cases a2 : y.who < x.who
      · simp [a1, a2] <;> omega
      · by_cases b1 : x.began < y.began
        · simp [a1, a2, b1] <;> omega
        · by_cases b2 : y.began < x.began
          · simp [a1, a2, b1, b2] <;> omega
          · simp [a1, a2, b1, b2] <;> omega
end Go.Lk

set_option linter.unusedSimpArgs false
set_option linter.unusedVariables false
set_option linter.unnecessarySimpa false
namespace Go.Lk
open Go Go.Proofs Go.RowKit Go.Lk.St

abbrev Pg := Int × Int × ByteArray
def encP (x : Pg) : List D := [.int .i64 x.1, .int .i64 x.2.1, .str x.2.2]
theorem encP_ok : ∀ (l : List Pg), okRows 3 (l.map encP) = true
  | [] => rfl
  | _ :: r => encP_ok r

def pgR (x : Pg) : Bool := decide (1 ≤ x.1) && (decide (x.1 ≤ 16) && (decide (1 ≤ x.2.1) && (decide (x.2.1 ≤ 2147483647) && decide (x.2.2.size ≤ 16))))
theorem pgR_out {x : Pg} : pgR x = true ↔ 1 ≤ x.1 ∧ x.1 ≤ 16 ∧ 1 ≤ x.2.1 ∧ x.2.1 ≤ 2147483647 ∧ x.2.2.size ≤ 16 := by simp [pgR]
theorem pageRight_ok (x : Pg) : ACall Try.prog 32 [.agg (encP x)] (.bool (pgR x)) := by
  refine acall_of Try.func32 1 rfl (by kernel_rfl) ?_
  conv => whnf
  repeat (first | (refine bcase_f rfl ?_; conv => whnf) | (refine bcase_t rfl ?_; conv => whnf) | (refine condK_draw (by kernel_rfl) ?_; conv => whnf) | (refine condK_of rfl ?_; conv => whnf) | (refine condK_of (by decide) ?_; conv => whnf) | (refine condK_of (by omega) ?_; conv => whnf) | (refine wrapK_in (w64 (by omega) (by omega)) ?_; conv => whnf))
  refine bcase_p (fun h1 => ?_) (fun h1 => ?_) <;> conv => whnf
  · exact ret_of rfl (congrArg D.bool (by simp [pgR]; omega))
  repeat (first | (refine bcase_f rfl ?_; conv => whnf) | (refine bcase_t rfl ?_; conv => whnf) | (refine condK_draw (by kernel_rfl) ?_; conv => whnf) | (refine condK_of rfl ?_; conv => whnf) | (refine condK_of (by decide) ?_; conv => whnf) | (refine condK_of (by omega) ?_; conv => whnf) | (refine wrapK_in (w64 (by omega) (by omega)) ?_; conv => whnf))
  refine bcase_p (fun h2 => ?_) (fun h2 => ?_) <;> conv => whnf
  · exact ret_of rfl (congrArg D.bool (by simp [pgR]; omega))
  repeat (first | (refine bcase_f rfl ?_; conv => whnf) | (refine bcase_t rfl ?_; conv => whnf) | (refine condK_draw (by kernel_rfl) ?_; conv => whnf) | (refine condK_of rfl ?_; conv => whnf) | (refine condK_of (by decide) ?_; conv => whnf) | (refine condK_of (by omega) ?_; conv => whnf) | (refine wrapK_in (w64 (by omega) (by omega)) ?_; conv => whnf))
  refine bcase_p (fun h3 => ?_) (fun h3 => ?_) <;> conv => whnf
  · exact ret_of rfl (congrArg D.bool (by simp [pgR]; omega))
  repeat (first | (refine bcase_f rfl ?_; conv => whnf) | (refine bcase_t rfl ?_; conv => whnf) | (refine condK_draw (by kernel_rfl) ?_; conv => whnf) | (refine condK_of rfl ?_; conv => whnf) | (refine condK_of (by decide) ?_; conv => whnf) | (refine condK_of (by omega) ?_; conv => whnf) | (refine wrapK_in (w64 (by omega) (by omega)) ?_; conv => whnf))
  refine bcase_p (fun h4 => ?_) (fun h4 => ?_) <;> conv => whnf
  · exact ret_of rfl (congrArg D.bool (by simp [pgR]; omega))
  repeat (first | (refine bcase_f rfl ?_; conv => whnf) | (refine bcase_t rfl ?_; conv => whnf) | (refine condK_draw (by kernel_rfl) ?_; conv => whnf) | (refine condK_of rfl ?_; conv => whnf) | (refine condK_of (by decide) ?_; conv => whnf) | (refine condK_of (by omega) ?_; conv => whnf) | (refine wrapK_in (w64 (by omega) (by omega)) ?_; conv => whnf))
  exact ret_of rfl (congrArg D.bool (by
    have e1 : decide (1 ≤ x.1) = true := by simp; omega
    have e2 : decide (x.1 ≤ 16) = true := by simp; omega
    have e3 : decide (1 ≤ x.2.1) = true := by simp; omega
    have e4 : decide (x.2.1 ≤ 2147483647) = true := by simp; omega
    rw [pgR, e1, e2, e3, e4]; simp; omega))
theorem rpageRight_ok (x : Pg) : ACall Try.prog 31 [.agg (encP x)] (.bool (pgR x)) := by
  refine acall_of Try.func31 1 rfl (by kernel_rfl) ?_
  conv => whnf
  repeat (first | (refine bcase_f rfl ?_; conv => whnf) | (refine bcase_t rfl ?_; conv => whnf) | (refine condK_draw (by kernel_rfl) ?_; conv => whnf) | (refine condK_of rfl ?_; conv => whnf) | (refine condK_of (by decide) ?_; conv => whnf) | (refine condK_of (by omega) ?_; conv => whnf) | (refine wrapK_in (w64 (by omega) (by omega)) ?_; conv => whnf))
  refine bcase_p (fun h1 => ?_) (fun h1 => ?_) <;> conv => whnf
  rotate_left
  · repeat (first | (refine bcase_f rfl ?_; conv => whnf) | (refine bcase_t rfl ?_; conv => whnf) | (refine condK_draw (by kernel_rfl) ?_; conv => whnf) | (refine condK_of rfl ?_; conv => whnf) | (refine condK_of (by decide) ?_; conv => whnf) | (refine condK_of (by omega) ?_; conv => whnf) | (refine wrapK_in (w64 (by omega) (by omega)) ?_; conv => whnf))
    exact ret_of rfl (congrArg D.bool (by simp [pgR]; omega))
  repeat (first | (refine bcase_f rfl ?_; conv => whnf) | (refine bcase_t rfl ?_; conv => whnf) | (refine condK_draw (by kernel_rfl) ?_; conv => whnf) | (refine condK_of rfl ?_; conv => whnf) | (refine condK_of (by decide) ?_; conv => whnf) | (refine condK_of (by omega) ?_; conv => whnf) | (refine wrapK_in (w64 (by omega) (by omega)) ?_; conv => whnf))
  refine bcase_p (fun h2 => ?_) (fun h2 => ?_) <;> conv => whnf
  rotate_left
  · repeat (first | (refine bcase_f rfl ?_; conv => whnf) | (refine bcase_t rfl ?_; conv => whnf) | (refine condK_draw (by kernel_rfl) ?_; conv => whnf) | (refine condK_of rfl ?_; conv => whnf) | (refine condK_of (by decide) ?_; conv => whnf) | (refine condK_of (by omega) ?_; conv => whnf) | (refine wrapK_in (w64 (by omega) (by omega)) ?_; conv => whnf))
    exact ret_of rfl (congrArg D.bool (by simp [pgR]; omega))
  repeat (first | (refine bcase_f rfl ?_; conv => whnf) | (refine bcase_t rfl ?_; conv => whnf) | (refine condK_draw (by kernel_rfl) ?_; conv => whnf) | (refine condK_of rfl ?_; conv => whnf) | (refine condK_of (by decide) ?_; conv => whnf) | (refine condK_of (by omega) ?_; conv => whnf) | (refine wrapK_in (w64 (by omega) (by omega)) ?_; conv => whnf))
  refine bcase_p (fun h3 => ?_) (fun h3 => ?_) <;> conv => whnf
  rotate_left
  · repeat (first | (refine bcase_f rfl ?_; conv => whnf) | (refine bcase_t rfl ?_; conv => whnf) | (refine condK_draw (by kernel_rfl) ?_; conv => whnf) | (refine condK_of rfl ?_; conv => whnf) | (refine condK_of (by decide) ?_; conv => whnf) | (refine condK_of (by omega) ?_; conv => whnf) | (refine wrapK_in (w64 (by omega) (by omega)) ?_; conv => whnf))
    exact ret_of rfl (congrArg D.bool (by simp [pgR]; omega))
  repeat (first | (refine bcase_f rfl ?_; conv => whnf) | (refine bcase_t rfl ?_; conv => whnf) | (refine condK_draw (by kernel_rfl) ?_; conv => whnf) | (refine condK_of rfl ?_; conv => whnf) | (refine condK_of (by decide) ?_; conv => whnf) | (refine condK_of (by omega) ?_; conv => whnf) | (refine wrapK_in (w64 (by omega) (by omega)) ?_; conv => whnf))
  refine bcase_p (fun h4 => ?_) (fun h4 => ?_) <;> conv => whnf
  rotate_left
  · repeat (first | (refine bcase_f rfl ?_; conv => whnf) | (refine bcase_t rfl ?_; conv => whnf) | (refine condK_draw (by kernel_rfl) ?_; conv => whnf) | (refine condK_of rfl ?_; conv => whnf) | (refine condK_of (by decide) ?_; conv => whnf) | (refine condK_of (by omega) ?_; conv => whnf) | (refine wrapK_in (w64 (by omega) (by omega)) ?_; conv => whnf))
    exact ret_of rfl (congrArg D.bool (by simp [pgR]; omega))
  repeat (first | (refine bcase_f rfl ?_; conv => whnf) | (refine bcase_t rfl ?_; conv => whnf) | (refine condK_draw (by kernel_rfl) ?_; conv => whnf) | (refine condK_of rfl ?_; conv => whnf) | (refine condK_of (by decide) ?_; conv => whnf) | (refine condK_of (by omega) ?_; conv => whnf) | (refine wrapK_in (w64 (by omega) (by omega)) ?_; conv => whnf))
  exact ret_of rfl (congrArg D.bool (by
    have e1 : decide (1 ≤ x.1) = true := by simp; omega
    have e2 : decide (x.1 ≤ 16) = true := by simp; omega
    have e3 : decide (1 ≤ x.2.1) = true := by simp; omega
    have e4 : decide (x.2.1 ≤ 2147483647) = true := by simp; omega
    rw [pgR, e1, e2, e3, e4]; simp; omega))

theorem cloneP_ok (l : List Pg) (hl : l.length ≤ 1000000) : OCall Try.prog 35 [.lst (l.map encP)] (l.map encP) 3 := by
  refine ocall_of Try.func35 1 rfl (by kernel_rfl) ?_
  conv => whnf
  refine nilK_of ?_
  conv => whnf
  intro r hr
  conv => whnf
  refine bcase_intro (fun h => ?_) (fun h => ?_) <;> conv => whnf
  · have := hr h
    exact ⟨2, rfl, .inr ⟨rfl, this⟩⟩
  · repeat (first | (refine bcase_f rfl ?_; conv => whnf) | (refine bcase_t rfl ?_; conv => whnf) | (refine condK_draw (by kernel_rfl) ?_; conv => whnf) | (refine condK_of rfl ?_; conv => whnf) | (refine condK_of (by decide) ?_; conv => whnf) | (refine condK_of (by omega) ?_; conv => whnf) | (refine wrapK_in (w64 (by omega) (by omega)) ?_; conv => whnf))
    refine condK_of (encP_ok l) ?_
    conv => whnf
    refine roomK_le 1000100 100 (by show 0 + List.length _ ≤ 1000100; simp; omega) (by decide) (by decide) (by decide) ?_
    conv => whnf
    exact ⟨2, rfl, .inl ⟨5, rfl, rfl⟩⟩

theorem cloneE_ok (l : List Ev) (hl : l.length ≤ 1000000) : OCall Try.prog 25 [.lst (l.map encE)] (l.map encE) 11 := by
  refine ocall_of Try.func25 1 rfl (by kernel_rfl) ?_
  conv => whnf
  refine nilK_of ?_
  conv => whnf
  intro r hr
  conv => whnf
  refine bcase_intro (fun h => ?_) (fun h => ?_) <;> conv => whnf
  · have := hr h
    exact ⟨2, rfl, .inr ⟨rfl, this⟩⟩
  · repeat (first | (refine bcase_f rfl ?_; conv => whnf) | (refine bcase_t rfl ?_; conv => whnf) | (refine condK_draw (by kernel_rfl) ?_; conv => whnf) | (refine condK_of rfl ?_; conv => whnf) | (refine condK_of (by decide) ?_; conv => whnf) | (refine condK_of (by omega) ?_; conv => whnf) | (refine wrapK_in (w64 (by omega) (by omega)) ?_; conv => whnf))
    refine condK_of (encE_ok l) ?_
    conv => whnf
    refine roomK_le 1000100 1000 (by show 0 + List.length _ ≤ 1000100; simp; omega) (by decide) (by decide) (by decide) ?_
    conv => whnf
    exact ⟨2, rfl, .inl ⟨5, rfl, rfl⟩⟩

end Go.Lk

set_option linter.unusedSimpArgs false
set_option linter.unusedVariables false
set_option linter.unnecessarySimpa false
namespace Go.Lk
open Go Go.Proofs Go.RowKit Go.Lk.St

theorem sort_ok (l : List Ev) (hl : l.length ≤ 1000000) : OCall Try.prog 15 [.lst (l.map encE)] ((srt leD l).map encE) 11 := by
  refine ocall_of Try.func15 1 rfl (by kernel_rfl) ?_
  conv => whnf
  refine callX_own (cloneE_ok l hl) ?_
  conv => whnf
  repeat (first | (refine bcase_f rfl ?_; conv => whnf) | (refine bcase_t rfl ?_; conv => whnf) | (refine condK_draw (by kernel_rfl) ?_; conv => whnf) | (refine condK_of rfl ?_; conv => whnf) | (refine condK_of (by decide) ?_; conv => whnf) | (refine condK_of (by omega) ?_; conv => whnf) | (refine wrapK_in (w64 (by omega) (by omega)) ?_; conv => whnf))
  refine callX_blk (sortStable_ok 27 leD cmpD l hl) [(1000000, 5)] rfl ⟨rfl, trivial⟩ rfl ?_
  conv => whnf
  repeat (first | (refine bcase_f rfl ?_; conv => whnf) | (refine bcase_t rfl ?_; conv => whnf) | (refine condK_draw (by kernel_rfl) ?_; conv => whnf) | (refine condK_of rfl ?_; conv => whnf) | (refine condK_of (by decide) ?_; conv => whnf) | (refine condK_of (by omega) ?_; conv => whnf) | (refine wrapK_in (w64 (by omega) (by omega)) ?_; conv => whnf))
  exact ⟨2, rfl, .inl ⟨5, rfl, rfl⟩⟩

/-! ### maps -/
structure MRight (l : List Pg) : Prop where
  one : ∀ x ∈ l, pgR x = true
  rise : ∀ i, (hi : i + 1 < l.length) → l[i].1 < l[i + 1].1
open Classical in
noncomputable def mapB (l : List Pg) : Bool := decide (MRight l)
theorem mapB_t {l : List Pg} : mapB l = true ↔ MRight l := by simp [mapB]
theorem mapB_f {l : List Pg} : mapB l = false ↔ ¬ MRight l := by simp [mapB]
/-- right as far as k -/
structure MPart (l : List Pg) (k : Nat) : Prop where
  le : k ≤ l.length
  one : ∀ i, i < k → (hi : i < l.length) → pgR l[i] = true
  rise : ∀ i, i + 1 < k → (hi : i + 1 < l.length) → l[i].1 < l[i + 1].1
theorem mpart0 (l : List Pg) : MPart l 0 := ⟨by omega, by omega, by omega⟩
theorem mpart_end {l : List Pg} {k : Nat} (h : MPart l k) (hk : ¬ k < l.length) : mapB l = true := by
  have hk : k = l.length := by have := h.le; omega
  subst hk
  refine mapB_t.2 ⟨fun x hx => ?_, fun i hi => h.rise i hi hi⟩
  obtain ⟨i, hi, rfl⟩ := List.mem_iff_getElem.1 hx
  exact h.one i hi hi
theorem mpart_step {l : List Pg} {k : Nat} (h : MPart l k) (hk : k < l.length) (h1 : pgR l[k] = true) (h2 : ∀ i, i + 1 = k → (hi : i < l.length) → l[i].1 < l[k].1) : MPart l (k + 1) := by
  refine ⟨by omega, fun i hi hi2 => ?_, fun i hi hi2 => ?_⟩
  · by_cases e : i = k
    · subst e; exact h1
    · exact h.one i (by omega) hi2
  · by_cases e : i + 1 = k
    · subst e; exact h2 i rfl (by omega)
    · exact h.rise i (by omega) hi2
theorem map_no1 {l : List Pg} {k : Nat} (hk : k < l.length) (h1 : pgR l[k] = false) : mapB l = false := mapB_f.2 fun h => by
  have := h.one l[k] (List.getElem_mem hk)
  rw [h1] at this; cases this
theorem map_no2 {l : List Pg} {i : Nat} (hi : i + 1 < l.length) (h : l[i + 1].1 ≤ l[i].1) : mapB l = false := mapB_f.2 fun hM => by
  have := hM.rise i hi; omega

theorem opsRight_ok (l : List Pg) (hl : l.length ≤ 1000000) : ACall Try.prog 22 [.agg [.lst (l.map encP)]] (.bool (mapB l)) := by
  refine acall_of Try.func22 1 rfl (by kernel_rfl) ?_
  conv => whnf
  repeat (first | (refine bcase_f rfl ?_; conv => whnf) | (refine bcase_t rfl ?_; conv => whnf) | (refine condK_draw (by kernel_rfl) ?_; conv => whnf) | (refine condK_of rfl ?_; conv => whnf) | (refine condK_of (by decide) ?_; conv => whnf) | (refine condK_of (by omega) ?_; conv => whnf) | (refine wrapK_in (w64 (by omega) (by omega)) ?_; conv => whnf))
  have hm : (l.map encP).length = l.length := List.length_map ..
  refine aloop (ι := Nat) (fun k => [(1, .ptr 1 0 0), (6, .d (.lst (l.map encP))), (7, .d (.int .i64 (l.map encP).length)), (8, .d (.int .i64 k))]) (fun _ => [(1, .box [.d (.lst (l.map encP))] false)])
    (fun k => MPart l k) (fun k => l.length - k) 0 (mpart0 l) (le0 (le_of_cov ⟨rfl, rfl, rfl, rfl, trivial⟩ ⟨rfl, trivial⟩ ⟨rfl, rfl, rfl, rfl⟩)) ?_
  intro k hk
  conv => whnf
  refine bcase_p (fun h5 => ?_) (fun h5 => ?_) <;> conv => whnf
  · have hk2 : k < l.length := by omega
    refine idxK_nat (by omega) ?_
    conv => whnf
    refine getRow_of (x := encP l[k]) (by simp [hk2]) ?_
    conv => whnf
    repeat (first | (refine bcase_f rfl ?_; conv => whnf) | (refine bcase_t rfl ?_; conv => whnf) | (refine condK_draw (by kernel_rfl) ?_; conv => whnf) | (refine condK_of rfl ?_; conv => whnf) | (refine condK_of (by decide) ?_; conv => whnf) | (refine condK_of (by omega) ?_; conv => whnf) | (refine wrapK_in (w64 (by omega) (by omega)) ?_; conv => whnf))
    refine callX_pure (pageRight_ok l[k]) ?_
    conv => whnf
    repeat (first | (refine bcase_f rfl ?_; conv => whnf) | (refine bcase_t rfl ?_; conv => whnf) | (refine condK_draw (by kernel_rfl) ?_; conv => whnf) | (refine condK_of rfl ?_; conv => whnf) | (refine condK_of (by decide) ?_; conv => whnf) | (refine condK_of (by omega) ?_; conv => whnf) | (refine wrapK_in (w64 (by omega) (by omega)) ?_; conv => whnf))
    refine bcase_intro (fun g1 => ?_) (fun g1 => ?_) <;> conv => whnf
    · exact ret_of rfl (congrArg D.bool (map_no1 hk2 (by simpa using g1)).symm)
    have g1 : pgR l[k] = true := by simpa using g1
    repeat (first | (refine bcase_f rfl ?_; conv => whnf) | (refine bcase_t rfl ?_; conv => whnf) | (refine condK_draw (by kernel_rfl) ?_; conv => whnf) | (refine condK_of rfl ?_; conv => whnf) | (refine condK_of (by decide) ?_; conv => whnf) | (refine condK_of (by omega) ?_; conv => whnf) | (refine wrapK_in (w64 (by omega) (by omega)) ?_; conv => whnf))
    refine bcase_p (fun g2 => ?_) (fun g2 => ?_) <;> conv => whnf
    · obtain ⟨j, rfl⟩ : ∃ j, k = j + 1 := ⟨k - 1, by omega⟩
      have ej : (((j + 1 : Nat) : Int)) - 1 = ((j : Nat) : Int) := by omega
      repeat (first | (refine bcase_f rfl ?_; conv => whnf) | (refine bcase_t rfl ?_; conv => whnf) | (refine condK_draw (by kernel_rfl) ?_; conv => whnf) | (refine condK_of rfl ?_; conv => whnf) | (refine condK_of (by decide) ?_; conv => whnf) | (refine condK_of (by omega) ?_; conv => whnf) | (refine wrapK_in (w64 (by omega) (by omega)) ?_; conv => whnf))
      rw [ej]
      refine idxK_nat (by omega) ?_
      conv => whnf
      refine getRow_of (x := encP l[j]) (by simp [(show j < l.length by omega)]) ?_
      conv => whnf
      repeat (first | (refine bcase_f rfl ?_; conv => whnf) | (refine bcase_t rfl ?_; conv => whnf) | (refine condK_draw (by kernel_rfl) ?_; conv => whnf) | (refine condK_of rfl ?_; conv => whnf) | (refine condK_of (by decide) ?_; conv => whnf) | (refine condK_of (by omega) ?_; conv => whnf) | (refine wrapK_in (w64 (by omega) (by omega)) ?_; conv => whnf))
      refine bcase_p (fun g3 => ?_) (fun g3 => ?_) <;> conv => whnf
      · exact ret_of rfl (congrArg D.bool (map_no2 hk2 g3).symm)
      · repeat (first | (refine bcase_f rfl ?_; conv => whnf) | (refine bcase_t rfl ?_; conv => whnf) | (refine condK_draw (by kernel_rfl) ?_; conv => whnf) | (refine condK_of rfl ?_; conv => whnf) | (refine condK_of (by decide) ?_; conv => whnf) | (refine condK_of (by omega) ?_; conv => whnf) | (refine wrapK_in (w64 (by omega) (by omega)) ?_; conv => whnf))
        exact ⟨j + 2, mpart_step hk hk2 g1 fun i hi hi2 => by
          obtain rfl : i = j := by omega
          omega, by omega, (le0 (le_of_cov ⟨rfl, rfl, rfl, rfl, trivial⟩ ⟨rfl, trivial⟩ ⟨rfl, rfl, rfl, rfl⟩))⟩
    · repeat (first | (refine bcase_f rfl ?_; conv => whnf) | (refine bcase_t rfl ?_; conv => whnf) | (refine condK_draw (by kernel_rfl) ?_; conv => whnf) | (refine condK_of rfl ?_; conv => whnf) | (refine condK_of (by decide) ?_; conv => whnf) | (refine condK_of (by omega) ?_; conv => whnf) | (refine wrapK_in (w64 (by omega) (by omega)) ?_; conv => whnf))
      exact ⟨k + 1, mpart_step hk hk2 g1 fun i hi hi2 => by omega, by omega, (le0 (le_of_cov ⟨rfl, rfl, rfl, rfl, trivial⟩ ⟨rfl, trivial⟩ ⟨rfl, rfl, rfl, rfl⟩))⟩
  · repeat (first | (refine bcase_f rfl ?_; conv => whnf) | (refine bcase_t rfl ?_; conv => whnf) | (refine condK_draw (by kernel_rfl) ?_; conv => whnf) | (refine condK_of rfl ?_; conv => whnf) | (refine condK_of (by decide) ?_; conv => whnf) | (refine condK_of (by omega) ?_; conv => whnf) | (refine wrapK_in (w64 (by omega) (by omega)) ?_; conv => whnf))
    exact ret_of rfl (congrArg D.bool (mpart_end hk (by omega)).symm)
theorem refRight_ok (l : List Pg) (hl : l.length ≤ 1000000) : ACall Try.prog 20 [.lst (l.map encP)] (.bool (mapB l)) := by
  refine acall_of Try.func20 1 rfl (by kernel_rfl) ?_
  conv => whnf
  have hm : (l.map encP).length = l.length := List.length_map ..
  refine aloop (ι := Nat) (fun k => [(0, .d (.lst (l.map encP))), (3, .d (.int .i64 k))]) (fun _ => [])
    (fun k => MPart l k) (fun k => l.length - k) 0 (mpart0 l) (le0 (le_of_cov ⟨rfl, rfl, trivial⟩ trivial ⟨rfl, rfl, rfl, rfl⟩)) ?_
  intro k hk
  conv => whnf
  refine bcase_p (fun h5 => ?_) (fun h5 => ?_) <;> conv => whnf
  · have hk2 : k < l.length := by omega
    refine idxK_nat (by omega) ?_
    conv => whnf
    refine getRow_of (x := encP l[k]) (by simp [hk2]) ?_
    conv => whnf
    repeat (first | (refine bcase_f rfl ?_; conv => whnf) | (refine bcase_t rfl ?_; conv => whnf) | (refine condK_draw (by kernel_rfl) ?_; conv => whnf) | (refine condK_of rfl ?_; conv => whnf) | (refine condK_of (by decide) ?_; conv => whnf) | (refine condK_of (by omega) ?_; conv => whnf) | (refine wrapK_in (w64 (by omega) (by omega)) ?_; conv => whnf))
    refine callX_pure (rpageRight_ok l[k]) ?_
    conv => whnf
    repeat (first | (refine bcase_f rfl ?_; conv => whnf) | (refine bcase_t rfl ?_; conv => whnf) | (refine condK_draw (by kernel_rfl) ?_; conv => whnf) | (refine condK_of rfl ?_; conv => whnf) | (refine condK_of (by decide) ?_; conv => whnf) | (refine condK_of (by omega) ?_; conv => whnf) | (refine wrapK_in (w64 (by omega) (by omega)) ?_; conv => whnf))
    refine bcase_intro (fun g1 => ?_) (fun g1 => ?_) <;> conv => whnf
    · repeat (first | (refine bcase_f rfl ?_; conv => whnf) | (refine bcase_t rfl ?_; conv => whnf) | (refine condK_draw (by kernel_rfl) ?_; conv => whnf) | (refine condK_of rfl ?_; conv => whnf) | (refine condK_of (by decide) ?_; conv => whnf) | (refine condK_of (by omega) ?_; conv => whnf) | (refine wrapK_in (w64 (by omega) (by omega)) ?_; conv => whnf))
      exact ret_of rfl (congrArg D.bool (map_no1 hk2 (by simpa using g1)).symm)
    have g1 : pgR l[k] = true := by simpa using g1
    repeat (first | (refine bcase_f rfl ?_; conv => whnf) | (refine bcase_t rfl ?_; conv => whnf) | (refine condK_draw (by kernel_rfl) ?_; conv => whnf) | (refine condK_of rfl ?_; conv => whnf) | (refine condK_of (by decide) ?_; conv => whnf) | (refine condK_of (by omega) ?_; conv => whnf) | (refine wrapK_in (w64 (by omega) (by omega)) ?_; conv => whnf))
    refine bcase_p (fun g2 => ?_) (fun g2 => ?_) <;> conv => whnf
    · obtain ⟨j, rfl⟩ : ∃ j, k = j + 1 := ⟨k - 1, by omega⟩
      have ej : (((j + 1 : Nat) : Int)) - 1 = ((j : Nat) : Int) := by omega
      refine idxK_nat (by omega) ?_
      conv => whnf
      refine getRow_of (x := encP l[j + 1]) (by simp [hk2]) ?_
      conv => whnf
      repeat (first | (refine bcase_f rfl ?_; conv => whnf) | (refine bcase_t rfl ?_; conv => whnf) | (refine condK_draw (by kernel_rfl) ?_; conv => whnf) | (refine condK_of rfl ?_; conv => whnf) | (refine condK_of (by decide) ?_; conv => whnf) | (refine condK_of (by omega) ?_; conv => whnf) | (refine wrapK_in (w64 (by omega) (by omega)) ?_; conv => whnf))
      rw [ej]
      refine idxK_nat (by omega) ?_
      conv => whnf
      refine getRow_of (x := encP l[j]) (by simp [(show j < l.length by omega)]) ?_
      conv => whnf
      repeat (first | (refine bcase_f rfl ?_; conv => whnf) | (refine bcase_t rfl ?_; conv => whnf) | (refine condK_draw (by kernel_rfl) ?_; conv => whnf) | (refine condK_of rfl ?_; conv => whnf) | (refine condK_of (by decide) ?_; conv => whnf) | (refine condK_of (by omega) ?_; conv => whnf) | (refine wrapK_in (w64 (by omega) (by omega)) ?_; conv => whnf))
      refine bcase_p (fun g3 => ?_) (fun g3 => ?_) <;> conv => whnf
      · repeat (first | (refine bcase_f rfl ?_; conv => whnf) | (refine bcase_t rfl ?_; conv => whnf) | (refine condK_draw (by kernel_rfl) ?_; conv => whnf) | (refine condK_of rfl ?_; conv => whnf) | (refine condK_of (by decide) ?_; conv => whnf) | (refine condK_of (by omega) ?_; conv => whnf) | (refine wrapK_in (w64 (by omega) (by omega)) ?_; conv => whnf))
        exact ret_of rfl (congrArg D.bool (map_no2 hk2 g3).symm)
      · repeat (first | (refine bcase_f rfl ?_; conv => whnf) | (refine bcase_t rfl ?_; conv => whnf) | (refine condK_draw (by kernel_rfl) ?_; conv => whnf) | (refine condK_of rfl ?_; conv => whnf) | (refine condK_of (by decide) ?_; conv => whnf) | (refine condK_of (by omega) ?_; conv => whnf) | (refine wrapK_in (w64 (by omega) (by omega)) ?_; conv => whnf))
        exact ⟨j + 2, mpart_step hk hk2 g1 fun i hi hi2 => by
          obtain rfl : i = j := by omega
          omega, by omega, (le0 (le_of_cov ⟨rfl, rfl, trivial⟩ trivial ⟨rfl, rfl, rfl, rfl⟩))⟩
    · repeat (first | (refine bcase_f rfl ?_; conv => whnf) | (refine bcase_t rfl ?_; conv => whnf) | (refine condK_draw (by kernel_rfl) ?_; conv => whnf) | (refine condK_of rfl ?_; conv => whnf) | (refine condK_of (by decide) ?_; conv => whnf) | (refine condK_of (by omega) ?_; conv => whnf) | (refine wrapK_in (w64 (by omega) (by omega)) ?_; conv => whnf))
      exact ⟨k + 1, mpart_step hk hk2 g1 fun i hi hi2 => by omega, by omega, (le0 (le_of_cov ⟨rfl, rfl, trivial⟩ trivial ⟨rfl, rfl, rfl, rfl⟩))⟩
  · repeat (first | (refine bcase_f rfl ?_; conv => whnf) | (refine bcase_t rfl ?_; conv => whnf) | (refine condK_draw (by kernel_rfl) ?_; conv => whnf) | (refine condK_of rfl ?_; conv => whnf) | (refine condK_of (by decide) ?_; conv => whnf) | (refine condK_of (by omega) ?_; conv => whnf) | (refine wrapK_in (w64 (by omega) (by omega)) ?_; conv => whnf))
    exact ret_of rfl (congrArg D.bool (mpart_end hk (by omega)).symm)
end Go.Lk

