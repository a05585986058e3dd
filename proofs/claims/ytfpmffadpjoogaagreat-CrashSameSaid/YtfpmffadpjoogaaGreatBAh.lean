/-
  What is proved here: what functions of the program compute, and what follows; no condition beyond each theorem's own.
-/
import Derived.Test.YtfpmffadpjoogaaGreatBAf
import Derived.Test.YtfpmffadpjoogaaGreatBAe
import Derived.Shelf.Sort.Plain
import Derived.Shelf.Slices.In.SortNone
import Derived.Test.YtfpmffadpjoogaaGreatProg
set_option linter.unusedSimpArgs false
set_option linter.unusedVariables false
set_option linter.unnecessarySimpa false
set_option linter.unusedSectionVars false
namespace Go.Lk
open Go Go.Proofs Go.RowKit Go.Lk

/-! ### the sweep -/
def clr (x : Fr) : Fr := (x.1, x.2.1, false)
def pass (l : List Fr) (a : Nat) (h : a < l.length) : List Fr := if l[a].2.1 = 0 then l.set a (clr l[a]) else l
inductive Swp : List Fr → Nat → List Fr → Nat → Prop
  | stop (l : List Fr) (a : Nat) (h : a < l.length) (h1 : l[a].2.1 = 0) (h2 : l[a].2.2 = false) : Swp l a l a
  | go (l : List Fr) (a : Nat) (h : a < l.length) (l2 : List Fr) (a2 : Nat) (hn : ¬ (l[a].2.1 = 0 ∧ l[a].2.2 = false)) (r : Swp (pass l a h) ((a + 1) % l.length) l2 a2) : Swp l a l2 a2
theorem pass_len {l : List Fr} {a : Nat} {h : a < l.length} : (pass l a h).length = l.length := by unfold pass; split <;> simp
theorem pass_get {l : List Fr} {a i : Nat} {h : a < l.length} (hi : i < l.length) : ((pass l a h)[i]'(by rw [pass_len]; exact hi)).1 = l[i].1 ∧ ((pass l a h)[i]'(by rw [pass_len]; exact hi)).2.1 = l[i].2.1 := by
  unfold pass
  split
  · rw [List.getElem_set]
    split
    · rename_i e; subst e; exact ⟨rfl, rfl⟩
    · exact ⟨rfl, rfl⟩
  · exact ⟨rfl, rfl⟩
def used0 (l : List Fr) : Nat := l.countP fun x => decide (x.2.1 = 0) && x.2.2
def wayL (n a b : Nat) : Nat := (b + n - a) % n
def mSw (j : Nat) (l : List Fr) (a : Nat) : Nat := used0 l * l.length + wayL l.length a j
theorem used_set {l : List Fr} {a : Nat} (h : a < l.length) (h1 : l[a].2.1 = 0) (h2 : l[a].2.2 = true) : used0 (l.set a (clr l[a])) + 1 = used0 l := by
  have hp : 0 < used0 l := List.countP_pos_iff.2 ⟨l[a], List.getElem_mem h, by simp [h1, h2]⟩
  unfold used0 at *
  rw [List.countP_set h]
  simp only [h1, h2, clr, decide_true, Bool.and_self, if_true, Bool.and_false, Bool.false_eq_true, if_false]
  omega
theorem way_next {n a b : Nat} (ha : a < n) (hb : b < n) (hne : a ≠ b) : wayL n ((a + 1) % n) b < wayL n a b := by
  unfold wayL
  by_cases h : a < b
  · rw [Nat.mod_eq_of_lt (show a + 1 < n by omega), show b + n - a = (b - a) + n by omega, show b + n - (a + 1) = (b - a - 1) + n by omega, Nat.add_mod_right, Nat.add_mod_right, Nat.mod_eq_of_lt (by omega), Nat.mod_eq_of_lt (by omega)]
    omega
  · by_cases e : a + 1 = n
    · rw [e, Nat.mod_self, Nat.sub_zero, Nat.add_mod_right, Nat.mod_eq_of_lt hb, Nat.mod_eq_of_lt (by omega)]
      omega
    · rw [Nat.mod_eq_of_lt (show a + 1 < n by omega), Nat.mod_eq_of_lt (by omega), Nat.mod_eq_of_lt (by omega)]
      omega
theorem way_lt {n a b : Nat} (hn : 0 < n) : wayL n a b < n := Nat.mod_lt _ hn
theorem mSw_dec {j : Nat} {l : List Fr} {a : Nat} (ha : a < l.length) (hj : j < l.length) (lj : l[j].2.1 = 0) (hn : ¬ (l[a].2.1 = 0 ∧ l[a].2.2 = false)) : mSw j (pass l a ha) ((a + 1) % l.length) < mSw j l a := by
  unfold mSw
  rw [pass_len]
  by_cases h1 : l[a].2.1 = 0
  · have h2 : l[a].2.2 = true := by cases e : l[a].2.2 with | true => rfl | false => exact absurd ⟨h1, e⟩ hn
    have hu := used_set ha h1 h2
    rw [show pass l a ha = l.set a (clr l[a]) from if_pos h1]
    have hw := way_lt (n := l.length) (a := (a + 1) % l.length) (b := j) (by omega)
    rw [← hu, Nat.succ_mul]
    omega
  · rw [show pass l a ha = l from if_neg h1]
    have hne : a ≠ j := fun e => by subst e; exact h1 lj
    have := way_next ha hj hne
    omega
theorem swp_ex {j : Nat} : ∀ (n : Nat) {l : List Fr} {a : Nat} (ha : a < l.length) (hj : j < l.length), l[j].2.1 = 0 → mSw j l a < n → ∃ l2 a2, Swp l a l2 a2
  | 0, _, _, _, _, _, h => absurd h (Nat.not_lt_zero _)
  | n + 1, l, a, ha, hj, lj, h => by
    by_cases hs : l[a].2.1 = 0 ∧ l[a].2.2 = false
    · exact ⟨l, a, .stop l a ha hs.1 hs.2⟩
    · have hd := mSw_dec ha hj lj hs
      obtain ⟨l2, a2, r⟩ := swp_ex n (l := pass l a ha) (a := (a + 1) % l.length) (by rw [pass_len]; exact Nat.mod_lt _ (by omega)) (by rw [pass_len]; exact hj) (by rw [(pass_get hj).2]; exact lj) (by omega)
      exact ⟨l2, a2, .go l a ha l2 a2 hs r⟩
/-- what a sweep leaves alone -/
theorem Swp.out {l l2 : List Fr} {a a2 : Nat} (h : Swp l a l2 a2) : l2.length = l.length ∧ a2 < l.length ∧ (∀ i (hi : i < l.length) (hi2 : i < l2.length), l2[i].1 = l[i].1 ∧ l2[i].2.1 = l[i].2.1) ∧ ∃ h2 : a2 < l2.length, l2[a2].2.1 = 0 := by
  induction h with
  | stop l a h h1 h2 => exact ⟨rfl, h, fun i _ _ => ⟨rfl, rfl⟩, h, h1⟩
  | go l a h l2 a2 hn r ih =>
    obtain ⟨e1, e2, e3, e4⟩ := ih
    rw [pass_len] at e1 e2
    refine ⟨e1, e2, fun i hi hi2 => ?_, e4⟩
    have h1 := e3 i (by rw [pass_len]; exact hi) hi2
    have h2 := pass_get (h := h) hi
    exact ⟨h1.1.trans h2.1, h1.2.trans h2.2⟩

theorem looseAt_lt {l : List Fr} : ∀ {k : Nat}, looseAt l k < 0 ∨ ∃ i : Nat, looseAt l k = ((k + i : Nat) : Int) ∧ ∃ h : i < l.length, l[i].2.1 = 0 := by
  induction l with
  | nil => intro k; exact .inl (show (-1 : Int) < 0 by decide)
  | cons p r ih =>
    intro k
    simp only [looseAt]
    by_cases h : p.2.1 = 0
    · exact .inr ⟨0, by simp [h], by simp, by simpa using h⟩
    · rw [if_neg h]
      rcases ih (k := k + 1) with h1 | ⟨i, h1, h2, h3⟩
      · exact .inl h1
      · exact .inr ⟨i + 1, by rw [h1]; simp; omega, by simpa using h2, by simpa using h3⟩
theorem looseAt_no {l : List Fr} : ∀ {k : Nat}, looseAt l k < 0 → ∀ i (h : i < l.length), l[i].2.1 ≠ 0 := by
  induction l with
  | nil => intro k _ i h; exact absurd h (Nat.not_lt_zero _)
  | cons p r ih =>
    intro k hl i h
    simp only [looseAt] at hl
    by_cases e : p.2.1 = 0
    · rw [if_pos e] at hl; omega
    · rw [if_neg e] at hl
      cases i with
      | zero => simpa using e
      | succ i => simpa using ih hl i (by simpa using h)

theorem sweep_no (l : List Fr) (h : Int) (hn : clockB l h = false ∨ looseAt l 0 < 0) (hl : l.length ≤ 1000000) : ACall Tryz.prog 170 [encC l h] (.tup [encC l h, .int .i64 0, .bool false]) := by
  refine acall_of Tryz.func170 1 rfl (by kernel_rfl) ?_
  conv => whnf
  repeat ((first | refine bF ?_ | refine bT ?_ | refine dK (by kernel_rfl) ?_ | refine cK rfl ?_ | refine cK (by first | decide | omega) ?_ | refine wK (by omega) (by omega) ?_); conv => whnf)
  refine callX_pure (clockRight_ok l h) ?_
  conv => whnf
  refine bcase_intro (fun h1 => ?_) (fun h1 => ?_) <;> conv => whnf
  · repeat ((first | refine bF ?_ | refine bT ?_ | refine dK (by kernel_rfl) ?_ | refine cK rfl ?_ | refine cK (by first | decide | omega) ?_ | refine wK (by omega) (by omega) ?_); conv => whnf)
    exact ret_of rfl rfl
  repeat ((first | refine bF ?_ | refine bT ?_ | refine dK (by kernel_rfl) ?_ | refine cK rfl ?_ | refine cK (by first | decide | omega) ?_ | refine wK (by omega) (by omega) ?_); conv => whnf)
  refine callX_pure (containsFunc_ok l hl) ?_
  conv => whnf
  refine bcase_intro (fun h2 => ?_) (fun h2 => ?_) <;> conv => whnf
  · repeat ((first | refine bF ?_ | refine bT ?_ | refine dK (by kernel_rfl) ?_ | refine cK rfl ?_ | refine cK (by first | decide | omega) ?_ | refine wK (by omega) (by omega) ?_); conv => whnf)
    exact ret_of rfl rfl
  · exfalso
    simp at h1 h2
    rcases hn with hn | hn
    · rw [h1] at hn; cases hn
    · omega
theorem sweep_yes (l : List Fr) (h : Nat) (hR : CRight l h) {l2 : List Fr} {a2 : Nat} (hS : Swp l h l2 a2) : ACall Tryz.prog 170 [encC l h] (.tup [encC l2 (((a2 + 1) % l.length : Nat) : Int), .int .i64 a2, .bool true]) := by
  refine acall_of Tryz.func170 1 rfl (by kernel_rfl) ?_
  conv => whnf
  have hl1 := hR.one
  have hl8 := hR.most
  have hh := hR.h1
  repeat ((first | refine bF ?_ | refine bT ?_ | refine dK (by kernel_rfl) ?_ | refine cK rfl ?_ | refine cK (by first | decide | omega) ?_ | refine wK (by omega) (by omega) ?_); conv => whnf)
  refine callX_pure (clockRight_ok l h) ?_
  conv => whnf
  refine bcase_f (by simp [clockB_t.2 hR]) ?_
  conv => whnf
  repeat ((first | refine bF ?_ | refine bT ?_ | refine dK (by kernel_rfl) ?_ | refine cK rfl ?_ | refine cK (by first | decide | omega) ?_ | refine wK (by omega) (by omega) ?_); conv => whnf)
  have hj : ∃ j, ∃ hj : j < l.length, l[j].2.1 = 0 := by
    obtain ⟨e1, e2, e3, h2, e4⟩ := hS.out
    have := e3 a2 e2 h2
    exact ⟨a2, e2, by rw [← this.2]; exact e4⟩
  obtain ⟨j, hj, lj⟩ := hj
  refine callX_pure (containsFunc_ok l (by omega)) ?_
  conv => whnf
  have hlo : ¬ looseAt l 0 < 0 := fun e => looseAt_no e j hj lj
  refine bcase_f (by simp; omega) ?_
  conv => whnf
  repeat ((first | refine bF ?_ | refine bT ?_ | refine dK (by kernel_rfl) ?_ | refine cK rfl ?_ | refine cK (by first | decide | omega) ?_ | refine wK (by omega) (by omega) ?_); conv => whnf)
  refine callX_own (cloneF_ok l (by omega)) ?_
  conv => whnf
  repeat ((first | refine bF ?_ | refine bT ?_ | refine dK (by kernel_rfl) ?_ | refine cK rfl ?_ | refine cK (by first | decide | omega) ?_ | refine wK (by omega) (by omega) ?_); conv => whnf)
  refine aloop (ι := List Fr × Nat) (fun s => [(1, .ptr 1 0 0), (2, .ptr 2 0 0), (5, .d (.fn 179 [])), (6, .d (.int .i64 s.2))]) (fun s => [(1, .box [.own 19, .d (.int .i64 h)] false), (2, .box [.nil, .d (.int .i64 0)] false), (19, .row (s.1.map encF) 3 false)])
    (fun s => s.1.length = l.length ∧ s.2 < l.length ∧ Swp s.1 s.2 l2 a2 ∧ ∃ hj : j < s.1.length, s.1[j].2.1 = 0) (fun s => mSw j s.1 s.2) (l, h) ⟨rfl, by simp only []; omega, hS, hj, lj⟩ (le0 (le_of_cov ⟨rfl, rfl, rfl, rfl, trivial⟩ ⟨rfl, rfl, rfl, trivial⟩ ⟨rfl, rfl, rfl, rfl⟩)) ?_
  rintro ⟨l', a⟩ ⟨el, ha, hS, hj', lj'⟩
  simp only at el ha hS hj' lj' ⊢
  have ha' : a < l'.length := by omega
  have hm : (l'.map encF).length = l'.length := List.length_map ..
  conv => whnf
  repeat ((first | refine bF ?_ | refine bT ?_ | refine dK (by kernel_rfl) ?_ | refine cK rfl ?_ | refine cK (by first | decide | omega) ?_ | refine wK (by omega) (by omega) ?_); conv => whnf)
  refine idxK_nat (by omega) ?_
  conv => whnf
  refine getRow_of (x := encF l'[a]) (by simp [ha']) ?_
  conv => whnf
  repeat ((first | refine bF ?_ | refine bT ?_ | refine dK (by kernel_rfl) ?_ | refine cK rfl ?_ | refine cK (by first | decide | omega) ?_ | refine wK (by omega) (by omega) ?_); conv => whnf)
  refine callX_pure (loose_ok l'[a]) ?_
  conv => whnf
  have hmod : (((a : Int) + 1) % (l'.map encF).length : Int) = (((a + 1) % l'.length : Nat) : Int) := by rw [hm]; norm_cast
  refine bcase_n (fun h1 => ?_) (fun h1 => ?_) <;> conv => whnf
  · have hns : ¬ (l'[a].2.1 = 0 ∧ l'[a].2.2 = false) := fun e => h1 e.1
    have hp : pass l' a ha' = l' := if_neg h1
    have hr : Swp l' ((a + 1) % l'.length) l2 a2 := by
      cases hS with
      | stop _ _ h e1 e2 => exact absurd e1 h1
      | go _ _ h _ _ hn r => rw [hp] at r; exact r
    have hd := mSw_dec ha' hj' lj' hns
    rw [hp] at hd
    repeat ((first | refine bF ?_ | refine bT ?_ | refine dK (by kernel_rfl) ?_ | refine cK rfl ?_ | refine cK (by first | decide | omega) ?_ | refine wK (by omega) (by omega) ?_); conv => whnf)
    refine idxK_nat (by omega) ?_
    conv => whnf
    refine getRow_of (x := encF l'[a]) (by simp [ha']) ?_
    conv => whnf
    repeat ((first | refine bF ?_ | refine bT ?_ | refine dK (by kernel_rfl) ?_ | refine cK rfl ?_ | refine cK (by first | decide | omega) ?_ | refine wK (by omega) (by omega) ?_); conv => whnf)
    refine callX_pure (loose_ok l'[a]) ?_
    conv => whnf
    refine bcase_f (by simp [h1]) ?_
    conv => whnf
    repeat ((first | refine bF ?_ | refine bT ?_ | refine dK (by kernel_rfl) ?_ | refine cK rfl ?_ | refine cK (by first | decide | omega) ?_ | refine wK (by omega) (by omega) ?_); conv => whnf)
    refine divK_rem (by omega) (by omega) ?_
    conv => whnf
    rw [hmod]
    repeat ((first | refine bF ?_ | refine bT ?_ | refine dK (by kernel_rfl) ?_ | refine cK rfl ?_ | refine cK (by first | decide | omega) ?_ | refine wK (by omega) (by omega) ?_); conv => whnf)
    exact ⟨(l', (a + 1) % l'.length), ⟨el, by simp only []; rw [← el]; exact Nat.mod_lt _ (by omega), hr, hj', lj'⟩, hd, le0 (le_of_cov ⟨rfl, rfl, rfl, rfl, trivial⟩ ⟨rfl, rfl, rfl, trivial⟩ ⟨rfl, rfl, rfl, rfl⟩)⟩
  · repeat ((first | refine bF ?_ | refine bT ?_ | refine dK (by kernel_rfl) ?_ | refine cK rfl ?_ | refine cK (by first | decide | omega) ?_ | refine wK (by omega) (by omega) ?_); conv => whnf)
    refine idxK_nat (by omega) ?_
    conv => whnf
    refine getRow_of (x := encF l'[a]) (by simp [ha']) ?_
    conv => whnf
    repeat ((first | refine bF ?_ | refine bT ?_ | refine dK (by kernel_rfl) ?_ | refine cK rfl ?_ | refine cK (by first | decide | omega) ?_ | refine wK (by omega) (by omega) ?_); conv => whnf)
    refine bcase_intro (fun h2 => ?_) (fun h2 => ?_) <;> conv => whnf
    · have hns : ¬ (l'[a].2.1 = 0 ∧ l'[a].2.2 = false) := fun e => by rw [h2] at e; cases e.2
      have hp : pass l' a ha' = l'.set a (clr l'[a]) := if_pos h1
      have hr : Swp (l'.set a (clr l'[a])) ((a + 1) % l'.length) l2 a2 := by
        cases hS with
        | stop _ _ h e1 e2 => rw [h2] at e2; cases e2
        | go _ _ h _ _ hn r => rw [hp] at r; exact r
      have hd := mSw_dec ha' hj' lj' hns
      have hg := pass_get (h := ha') hj'
      have hm2 : ((l'.map encF).set a (encF (clr l'[a]))).length = l'.length := by rw [List.length_set, hm]
      repeat ((first | refine bF ?_ | refine bT ?_ | refine dK (by kernel_rfl) ?_ | refine cK rfl ?_ | refine cK (by first | decide | omega) ?_ | refine wK (by omega) (by omega) ?_); conv => whnf)
      refine idxK_nat (by omega) ?_
      conv => whnf
      refine getRow_of (x := encF l'[a]) (by simp [ha']) ?_
      conv => whnf
      repeat ((first | refine bF ?_ | refine bT ?_ | refine dK (by kernel_rfl) ?_ | refine cK rfl ?_ | refine cK (by first | decide | omega) ?_ | refine wK (by omega) (by omega) ?_); conv => whnf)
      refine callX_pure (loose_ok l'[a]) ?_
      conv => whnf
      refine bcase_t (by simp [h1]) ?_
      conv => whnf
      repeat ((first | refine bF ?_ | refine bT ?_ | refine dK (by kernel_rfl) ?_ | refine cK rfl ?_ | refine cK (by first | decide | omega) ?_ | refine wK (by omega) (by omega) ?_); conv => whnf)
      refine idxK_nat (by omega) ?_
      conv => whnf
      refine getRow_of (x := encF l'[a]) (by simp [ha']) ?_
      conv => whnf
      repeat ((first | refine bF ?_ | refine bT ?_ | refine dK (by kernel_rfl) ?_ | refine cK rfl ?_ | refine cK (by first | decide | omega) ?_ | refine wK (by omega) (by omega) ?_); conv => whnf)
      refine divK_rem (by show ((List.set _ _ _).length : Int) ≠ 0; rw [List.length_set]; omega) (by omega) ?_
      conv => whnf
      repeat ((first | refine bF ?_ | refine bT ?_ | refine dK (by kernel_rfl) ?_ | refine cK rfl ?_ | refine cK (by first | decide | omega) ?_ | refine wK (by omega) (by omega) ?_); conv => whnf)
      refine ⟨(l'.set a (clr l'[a]), (a + 1) % l'.length), ⟨by simp only []; rw [List.length_set]; exact el, by simp only []; rw [← el]; exact Nat.mod_lt _ (by omega), hr, by rw [List.length_set]; exact hj', ?_⟩, by simp only []; rw [hp] at hd; exact hd, le0 (le_of_cov ⟨rfl, rfl, rfl, by
        show AV.d (.int .i64 (((a : Int) + 1) % ((List.set (l'.map encF) a _).length : Int))) = AV.d (.int .i64 (((a + 1) % l'.length : Nat) : Int)); rw [List.length_set, hmod], trivial⟩ ⟨rfl, rfl, by
        show some (Blk.row ((l'.map encF).set a (encF (clr l'[a]))) 3 false) = _; rw [List.map_set], trivial⟩ ⟨rfl, rfl, rfl, rfl⟩)⟩
      have hg2 := hg.2
      simp only [hp] at hg2
      rw [hg2]; exact lj'
    · have hst : l' = l2 ∧ a = a2 := by
        cases hS with
        | stop _ _ h e1 e2 => exact ⟨rfl, rfl⟩
        | go _ _ h _ _ hn r => exact absurd ⟨h1, h2⟩ hn
      obtain ⟨rfl, rfl⟩ := hst
      repeat ((first | refine bF ?_ | refine bT ?_ | refine dK (by kernel_rfl) ?_ | refine cK rfl ?_ | refine cK (by first | decide | omega) ?_ | refine wK (by omega) (by omega) ?_); conv => whnf)
      refine divK_rem (by omega) (by omega) ?_
      conv => whnf
      rw [hmod, el]
      repeat ((first | refine bF ?_ | refine bT ?_ | refine dK (by kernel_rfl) ?_ | refine cK rfl ?_ | refine cK (by first | decide | omega) ?_ | refine wK (by omega) (by omega) ?_); conv => whnf)
      exact ret_of rfl rfl
end Go.Lk

namespace Go.Lk.Dt
open Go Go.Proofs Go.RowKit Go.Lk
def pageB (n : Int) : Bool := decide (1 ≤ n) && decide (n ≤ 16)
def timeB (n : Int) : Bool := decide (0 ≤ n) && decide (n ≤ 2147483647)
theorem isPage_ok (n : Int) : ACall Tryz.prog 100 [.int .i64 n] (.bool (pageB n)) := by
  refine acall_of Tryz.func100 1 rfl (by kernel_rfl) ?_
  conv => whnf
  refine bcase_p (fun h => ?_) (fun h => ?_) <;> conv => whnf
  · exact ret_of rfl (by simp [pageB, h])
  · exact ret_of rfl (by simp [pageB, h])
theorem isTime_ok (n : Int) : ACall Tryz.prog 101 [.int .i64 n] (.bool (timeB n)) := by
  refine acall_of Tryz.func101 1 rfl (by kernel_rfl) ?_
  conv => whnf
  refine bcase_p (fun h => ?_) (fun h => ?_) <;> conv => whnf
  · exact ret_of rfl (by simp [timeB, h])
  · exact ret_of rfl (by simp [timeB, h])

def placeG (l : List (Int × Int)) (n : Int) (k : Nat) : Int :=
  match l with
  | [] => -1
  | p :: r => if p.1 = n then (k : Int) else placeG r n (k + 1)

theorem place_ok (l : List (Int × Int)) (n : Int) (hl : l.length ≤ 1000000) : ACall Tryz.prog 102 [encIs l, .int .i64 n] (.int .i64 (placeG l n 0)) := by
  refine acall_of Tryz.func102 2 rfl (by kernel_rfl) ?_
  conv => whnf
  refine aloop (ι := Nat) (fun k => [(1, .d (.int .i64 n)), (7, .d (encIs l)), (8, .d (.int .i64 (l.map encI).length)), (9, .d (.int .i64 k))]) (fun _ => [])
    (fun k => k ≤ l.length ∧ placeG (l.drop k) n k = placeG l n 0) (fun k => l.length - k) 0 ⟨Nat.zero_le _, rfl⟩ (le0 (le_of_cov ⟨rfl, rfl, rfl, rfl, trivial⟩ trivial ⟨rfl, rfl, rfl, rfl⟩)) ?_
  rintro k ⟨hk, hR⟩
  conv => whnf
  refine bcase_p (fun h => ?_) (fun h => ?_) <;> conv => whnf
  · have hk2 : k < l.length := by simpa using h
    refine idxK_nat (by simpa using hk2) ?_
    conv => whnf
    refine getRow_of (x := encI l[k]) (by simp [hk2]) ?_
    conv => whnf
    refine condK_of rfl ?_
    conv => whnf
    refine condK_of rfl ?_
    conv => whnf
    rw [drop_cons hk2, placeG] at hR
    refine bcase_p (fun h2 => ?_) (fun h2 => ?_) <;> conv => whnf
    · rw [if_pos h2] at hR
      exact ret_of rfl (by rw [← hR]; rfl)
    · rw [if_neg h2] at hR
      refine wrapK_in (w64 (by omega) (by omega)) ?_
      conv => whnf
      exact ⟨k + 1, ⟨by omega, hR⟩, by omega, le0 (le_of_cov ⟨rfl, rfl, rfl, rfl, trivial⟩ trivial ⟨rfl, rfl, rfl, rfl⟩)⟩
  · have : k = l.length := by simp at h; omega
    subst this
    simp [placeG] at hR
    exact ret_of rfl (by rw [← hR]; rfl)

def okAt (l : List (Int × Int)) (i : Nat) : Bool :=
  match l[i]? with
  | none => true
  | some p => pageB p.1 && timeB p.2 && !(decide (0 ≤ placeG (l.take i) p.1 0)) && !(decide (0 < i) && decide (p.2 < (l[i-1]?.getD (0,0)).2))
def rightB (l : List (Int × Int)) : Bool := decide (l.length ≤ 16) && (List.range l.length).all (okAt l)
theorem rightB_no {l : List (Int × Int)} {k : Nat} (hk : k < l.length) (h : okAt l k = false) : rightB l = false := by
  unfold rightB
  have : (List.range l.length).all (okAt l) = false := by
    rw [List.all_eq_false]
    exact ⟨k, by simpa using hk, by simp [h]⟩
  rw [this]; simp

theorem right_ok (l : List (Int × Int)) (hl : l.length ≤ 1000000) : ACall Tryz.prog 60 [encIs l] (.bool (rightB l)) := by
  refine acall_of Tryz.func60 1 rfl (by kernel_rfl) ?_
  conv => whnf
  refine bcase_p (fun h0 => ?_) (fun h0 => ?_) <;> conv => whnf
  · simp at h0
    exact ret_of rfl (by simp [rightB]; omega)
  have hlen : l.length ≤ 16 := by simp at h0; omega
  refine aloop (ι := Nat) (fun k => [(0, .d (encIs l)), (8, .d (encIs l)), (9, .d (.int .i64 (l.map encI).length)), (10, .d (.int .i64 k))]) (fun _ => [])
    (fun k => k ≤ l.length ∧ ∀ j, j < k → okAt l j = true) (fun k => l.length - k) 0 ⟨Nat.zero_le _, fun j h => absurd h (Nat.not_lt_zero _)⟩ (le0 (le_of_cov ⟨rfl, rfl, rfl, rfl, trivial⟩ trivial ⟨rfl, rfl, rfl, rfl⟩)) ?_
  rintro k ⟨hk, hR⟩
  conv => whnf
  refine bcase_p (fun h => ?_) (fun h => ?_) <;> conv => whnf
  · have hk2 : k < l.length := by simpa using h
    have hat : okAt l k = (pageB l[k].1 && timeB l[k].2 && !(decide (0 ≤ placeG (l.take k) l[k].1 0)) && !(decide (0 < k) && decide (l[k].2 < (l[k-1]?.getD (0,0)).2))) := by simp [okAt, hk2]
    refine idxK_nat (by simpa using hk2) ?_
    conv => whnf
    refine getRow_of (x := encI l[k]) (by simp [hk2]) ?_
    conv => whnf
    refine condK_of rfl ?_
    conv => whnf
    refine condK_of rfl ?_
    conv => whnf
    refine callX_pure (isPage_ok _) ?_
    conv => whnf
    refine bcase_intro (fun h1 => ?_) (fun h1 => ?_) <;> conv => whnf
    · simp at h1
      exact ret_of rfl (congrArg D.bool (rightB_no hk2 (by rw [hat, h1]; rfl)).symm)
    refine condK_of rfl ?_
    conv => whnf
    refine callX_pure (isTime_ok _) ?_
    conv => whnf
    refine bcase_intro (fun h2 => ?_) (fun h2 => ?_) <;> conv => whnf
    · simp at h2
      exact ret_of rfl (congrArg D.bool (rightB_no hk2 (by rw [hat, h2]; simp)).symm)
    simp at h1 h2
    refine condK_of (fun e he => encI_len he) ?_
    conv => whnf
    refine sliceK_hi (by simpa using Nat.le_of_lt hk2) ?_
    conv => whnf
    refine condK_of rfl ?_
    conv => whnf
    refine callX_pure (d := .int .i64 (placeG (l.take k) l[k].1 0)) (by simpa [encIs, List.map_take] using place_ok (l.take k) l[k].1 (by simp; omega)) ?_
    conv => whnf
    refine condK_of rfl ?_
    conv => whnf
    refine bcase_p (fun h3 => ?_) (fun h3 => ?_) <;> conv => whnf
    · exact ret_of rfl (congrArg D.bool (rightB_no hk2 (by rw [hat]; simp [h3])).symm)
    refine bcase_p (fun h4 => ?_) (fun h4 => ?_) <;> conv => whnf
    · repeat ((first | refine bF ?_ | refine bT ?_ | refine dK (by kernel_rfl) ?_ | refine cK rfl ?_ | refine cK (by first | decide | omega) ?_ | refine wK (by omega) (by omega) ?_); conv => whnf)
      refine idxK_int (by omega) (by simp; omega) ?_
      conv => whnf
      refine getRow_of (x := encI l[k-1]) (by rw [show ((k:Int) - 1).toNat = k - 1 by omega]; simp [show k - 1 < l.length by omega]) ?_
      conv => whnf
      repeat ((first | refine bF ?_ | refine bT ?_ | refine dK (by kernel_rfl) ?_ | refine cK rfl ?_ | refine cK (by first | decide | omega) ?_ | refine wK (by omega) (by omega) ?_); conv => whnf)
      refine bcase_p (fun h5 => ?_) (fun h5 => ?_) <;> conv => whnf
      · refine ret_of rfl ?_
        rw [rightB_no hk2 (by rw [hat]; simp [show k - 1 < l.length by omega, h5]; intros; omega)]
        rfl
      repeat ((first | refine bF ?_ | refine bT ?_ | refine dK (by kernel_rfl) ?_ | refine cK rfl ?_ | refine cK (by first | decide | omega) ?_ | refine wK (by omega) (by omega) ?_); conv => whnf)
      have hok : okAt l k = true := by
        have : k - 1 < l.length := by omega
        simp at h3
        rw [hat]; simp [h1, h2, h3, this]; right; omega
      exact ⟨k + 1, ⟨by omega, fun j hj => (Nat.lt_succ_iff_lt_or_eq.1 hj).elim (hR j) (fun e => e ▸ hok)⟩, by omega, le0 (le_of_cov ⟨rfl, rfl, rfl, rfl, trivial⟩ trivial ⟨rfl, rfl, rfl, rfl⟩)⟩
    · repeat ((first | refine bF ?_ | refine bT ?_ | refine dK (by kernel_rfl) ?_ | refine cK rfl ?_ | refine cK (by first | decide | omega) ?_ | refine wK (by omega) (by omega) ?_); conv => whnf)
      have hok : okAt l k = true := by
        have hk0 : decide (0 < k) = false := by simp; omega
        simp at h3
        rw [hat, h1, h2, hk0]; simp [h3]
      exact ⟨k + 1, ⟨by omega, fun j hj => (Nat.lt_succ_iff_lt_or_eq.1 hj).elim (hR j) (fun e => e ▸ hok)⟩, by omega, le0 (le_of_cov ⟨rfl, rfl, rfl, rfl, trivial⟩ trivial ⟨rfl, rfl, rfl, rfl⟩)⟩
  · have : k = l.length := by simp at h; omega
    subst this
    refine ret_of rfl ?_
    have : (List.range l.length).all (okAt l) = true := by
      rw [List.all_eq_true]
      exact fun x hx => hR x (by simpa using hx)
    simp [rightB, hlen]
    simpa using this
end Go.Lk.Dt

namespace Go.Lk.Dt
open Go Go.Proofs Go.RowKit Go.Lk

theorem rightB_out {l : List (Int × Int)} (h : rightB l = true) : l.length ≤ 16 ∧ ∀ k (hk : k < l.length), okAt l k = true ∧ 1 ≤ l[k].1 ∧ l[k].1 ≤ 16 ∧ 0 ≤ l[k].2 ∧ l[k].2 ≤ 2147483647 := by
  simp only [rightB, Bool.and_eq_true, decide_eq_true_eq, List.all_eq_true, List.mem_range] at h
  refine ⟨h.1, fun k hk => ⟨h.2 k hk, ?_⟩⟩
  have := h.2 k hk
  simp [okAt, hk, pageB, timeB] at this
  omega

def dueF (now age : Int) (it : Int × Int) : Option Int := if age ≤ now - it.2 then some it.1 else none
def dueG (l : List (Int × Int)) (now age : Int) : List Int := if age < 0 ∨ now < 0 ∨ rightB l = false then [] else l.filterMap (dueF now age)

/-! since -/
theorem placeG_lt {l : List (Int × Int)} {n : Int} : ∀ {k : Nat}, placeG l n k < 0 ∨ ∃ i : Nat, placeG l n k = ((k + i : Nat) : Int) ∧ ∃ h : i < l.length, l[i].1 = n := by
  induction l with
  | nil => intro k; exact .inl (show (-1 : Int) < 0 by decide)
  | cons p r ih =>
    intro k
    simp only [placeG]
    by_cases h : p.1 = n
    · exact .inr ⟨0, by simp [h], by simp, by simpa using h⟩
    · rw [if_neg h]
      rcases ih (k := k + 1) with h1 | ⟨i, h1, h2, h3⟩
      · exact .inl h1
      · exact .inr ⟨i + 1, by rw [h1]; simp; omega, by simpa using h2, by simpa using h3⟩

def sinceG (l : List (Int × Int)) (n : Int) : Int × Bool :=
  if rightB l = false ∨ placeG l n 0 < 0 then (0, false) else ((l[(placeG l n 0).toNat]?.getD (0, 0)).2, true)
theorem since_ok (l : List (Int × Int)) (n : Int) (hl : l.length ≤ 1000000) : ACall Tryz.prog 84 [encIs l, .int .i64 n] (.tup [.int .i64 (sinceG l n).1, .bool (sinceG l n).2]) := by
  refine acall_of Tryz.func84 2 rfl (by kernel_rfl) ?_
  conv => whnf
  refine callX_pure (right_ok l hl) ?_
  conv => whnf
  refine bcase_intro (fun h => ?_) (fun h => ?_) <;> conv => whnf
  · simp at h
    exact ret_of rfl (by simp [sinceG, h]; rfl)
  refine callX_pure (place_ok l n hl) ?_
  conv => whnf
  refine bcase_p (fun h1 => ?_) (fun h1 => ?_) <;> conv => whnf
  · exact ret_of rfl (by simp [sinceG, h1]; rfl)
  simp at h
  obtain h2 | ⟨i, h2, h3, h4⟩ := placeG_lt (l := l) (n := n) (k := 0)
  · exact absurd h2 h1
  rw [Nat.zero_add] at h2
  refine idxK_int (by omega) (by rw [h2]; simp; omega) ?_
  conv => whnf
  refine getRow_of (x := encI l[i]) (by rw [h2]; simp [h3]) ?_
  conv => whnf
  repeat ((first | refine bF ?_ | refine bT ?_ | refine dK (by kernel_rfl) ?_ | refine cK rfl ?_ | refine cK (by first | decide | omega) ?_ | refine wK (by omega) (by omega) ?_); conv => whnf)
  exact ret_of rfl (by simp [sinceG, h, h2, h3, show ¬ ((i : Int) < 0) by omega]; rfl)

end Go.Lk.Dt

namespace Go.Lk.Dt
open Go Go.Proofs Go.RowKit Go.Lk

def lateB (l : List (Int × Int)) (t : Int) : Bool := decide (0 < l.length) && decide (t < (l[l.length - 1]?.getD (0, 0)).2)
def markG (l : List (Int × Int)) (p t : Int) : List (Int × Int) × Int :=
  if rightB l = false ∨ pageB p = false ∨ timeB t = false then (l, 1)
  else if lateB l t = true then (l, 1)
  else if 0 ≤ placeG l p 0 then (l, 0) else (l ++ [(p, t)], 0)

theorem mark_ok (l : List (Int × Int)) (p t : Int) (hl : l.length ≤ 1000000) : ACall Tryz.prog 133 [encIs l, .int .i64 p, .int .i64 t] (.tup [encIs (markG l p t).1, .int .i64 (markG l p t).2]) := by
  refine acall_of Tryz.func133 3 rfl (by kernel_rfl) ?_
  conv => whnf
  refine callX_pure (right_ok l hl) ?_
  conv => whnf
  refine bcase_intro (fun h1 => ?_) (fun h1 => ?_) <;> conv => whnf
  · simp at h1
    exact ret_of rfl (by simp [markG, h1]; rfl)
  simp at h1
  refine callX_pure (isPage_ok p) ?_
  conv => whnf
  refine bcase_intro (fun h2 => ?_) (fun h2 => ?_) <;> conv => whnf
  · simp at h2
    exact ret_of rfl (by simp [markG, h2]; rfl)
  simp at h2
  refine callX_pure (isTime_ok t) ?_
  conv => whnf
  refine bcase_intro (fun h3 => ?_) (fun h3 => ?_) <;> conv => whnf
  · simp at h3
    exact ret_of rfl (by simp [markG, h3]; rfl)
  simp at h3
  obtain ⟨hlen, hR⟩ := rightB_out h1
  have hm : (l.map encI).length = l.length := List.length_map ..
  refine bcase_p (fun h4 => ?_) (fun h4 => ?_) <;> conv => whnf
  · simp at h4
    repeat ((first | refine bF ?_ | refine bT ?_ | refine dK (by kernel_rfl) ?_ | refine cK rfl ?_ | refine cK (by first | decide | omega) ?_ | refine wK (by omega) (by omega) ?_); conv => whnf)
    refine idxK_int (by omega) (by omega) ?_
    conv => whnf
    refine getRow_of (x := encI l[l.length - 1]) (by rw [show (((l.map encI).length : Int) - 1).toNat = l.length - 1 by omega]; simp [show l.length - 1 < l.length by omega]) ?_
    conv => whnf
    repeat ((first | refine bF ?_ | refine bT ?_ | refine dK (by kernel_rfl) ?_ | refine cK rfl ?_ | refine cK (by first | decide | omega) ?_ | refine wK (by omega) (by omega) ?_); conv => whnf)
    refine bcase_p (fun h5 => ?_) (fun h5 => ?_) <;> conv => whnf
    · have : lateB l t = true := by simp [lateB, show l.length - 1 < l.length by omega, h4, h5]
      exact ret_of rfl (by simp [markG, this, h1, h2, h3]; rfl)
    have h6 : lateB l t = false := by simp [lateB, show l.length - 1 < l.length by omega]; omega
    refine callX_pure (place_ok l p hl) ?_
    conv => whnf
    refine bcase_p (fun h7 => ?_) (fun h7 => ?_) <;> conv => whnf
    · exact ret_of rfl (by simp [markG, h6, h1, h2, h3, h7]; rfl)
    repeat ((first | refine bF ?_ | refine bT ?_ | refine dK (by kernel_rfl) ?_ | refine cK rfl ?_ | refine cK (by first | decide | omega) ?_ | refine wK (by omega) (by omega) ?_); conv => whnf)
    refine roomK_le 1000100 100 (by omega) (by decide) (by decide) (by decide) ?_
    conv => whnf
    refine condK_of (encI_ok l) ?_
    conv => whnf
    refine roomK_le 1000100 100 (by show 0 + List.length _ ≤ 1000100; omega) (by decide) (by decide) (by decide) ?_
    conv => whnf
    repeat ((first | refine bF ?_ | refine bT ?_ | refine dK (by kernel_rfl) ?_ | refine cK rfl ?_ | refine cK (by first | decide | omega) ?_ | refine wK (by omega) (by omega) ?_); conv => whnf)
    refine roomK_le 1000100 100 (by show List.length _ + 1 ≤ 1000100; simp; omega) (by decide) (by decide) (by decide) ?_
    conv => whnf
    exact ret_of rfl (by simp [markG, h6, h1, h2, h3, h7, encIs]; rfl)
  · simp at h4
    have h6 : lateB l t = false := by simp [lateB, h4]
    refine callX_pure (place_ok l p hl) ?_
    conv => whnf
    refine bcase_p (fun h7 => ?_) (fun h7 => ?_) <;> conv => whnf
    · exact ret_of rfl (by simp [markG, h6, h1, h2, h3, h7]; rfl)
    repeat ((first | refine bF ?_ | refine bT ?_ | refine dK (by kernel_rfl) ?_ | refine cK rfl ?_ | refine cK (by first | decide | omega) ?_ | refine wK (by omega) (by omega) ?_); conv => whnf)
    refine roomK_le 1000100 100 (by omega) (by decide) (by decide) (by decide) ?_
    conv => whnf
    refine condK_of (encI_ok l) ?_
    conv => whnf
    refine roomK_le 1000100 100 (by show 0 + List.length _ ≤ 1000100; omega) (by decide) (by decide) (by decide) ?_
    conv => whnf
    repeat ((first | refine bF ?_ | refine bT ?_ | refine dK (by kernel_rfl) ?_ | refine cK rfl ?_ | refine cK (by first | decide | omega) ?_ | refine wK (by omega) (by omega) ?_); conv => whnf)
    refine roomK_le 1000100 100 (by show List.length _ + 1 ≤ 1000100; simp; omega) (by decide) (by decide) (by decide) ?_
    conv => whnf
    exact ret_of rfl (by simp [markG, h6, h1, h2, h3, h7, encIs]; rfl)
end Go.Lk.Dt

namespace Go.Lk.Dt
open Go Go.Proofs Go.RowKit Go.Lk

theorem erase_snoc {α : Type} {l : List α} {i : Nat} {x : α} : (l ++ [x]).eraseIdx i = if i = l.length then l else l.eraseIdx i ++ [x] := by
  by_cases h : i = l.length
  · subst h; simp [List.eraseIdx_append_of_length_le]
  · rw [if_neg h]
    by_cases h2 : i < l.length
    · rw [List.eraseIdx_append_of_lt_length h2]
    · rw [List.eraseIdx_of_length_le (by simp; omega), List.eraseIdx_of_length_le (by omega)]

def cleanG (l : List (Int × Int)) (p : Int) : List (Int × Int) × Int :=
  if rightB l = false then (l, 1) else if placeG l p 0 < 0 then (l, 3) else (l.eraseIdx (placeG l p 0).toNat, 0)

theorem clean_ok (l : List (Int × Int)) (p : Int) (hl : l.length ≤ 1000000) : ACall Tryz.prog 151 [encIs l, .int .i64 p] (.tup [encIs (cleanG l p).1, .int .i64 (cleanG l p).2]) := by
  refine acall_of Tryz.func151 2 rfl (by kernel_rfl) ?_
  conv => whnf
  refine callX_pure (right_ok l hl) ?_
  conv => whnf
  refine bcase_intro (fun h1 => ?_) (fun h1 => ?_) <;> conv => whnf
  · simp at h1
    exact ret_of rfl (by simp [cleanG, h1]; rfl)
  simp at h1
  refine callX_pure (place_ok l p hl) ?_
  conv => whnf
  refine bcase_p (fun h2 => ?_) (fun h2 => ?_) <;> conv => whnf
  · exact ret_of rfl (by simp [cleanG, h1, h2]; rfl)
  obtain h3 | ⟨i, h3, h4, h5⟩ := placeG_lt (l := l) (n := p) (k := 0)
  · exact absurd h3 h2
  rw [Nat.zero_add] at h3
  have hm : (l.map encI).length = l.length := List.length_map ..
  obtain ⟨hlen, hR⟩ := rightB_out h1
  have hc : cleanG l p = (l.eraseIdx i, 0) := by simp [cleanG, h1, h3]
  rw [hc]
  refine aloop (ι := Nat) (fun k => [(6, .d (.int .i64 i)), (7, .own 33), (20, .d (encIs l)), (21, .d (.int .i64 (l.map encI).length)), (22, .d (.int .i64 k))]) (fun k => [(33, .row (((l.take k).eraseIdx i).map encI) 2 false)])
    (fun k => k ≤ l.length) (fun k => l.length - k) 0 (Nat.zero_le _) (le1 (.row 7 33 2) ⟨rfl, rfl⟩ (le_of_cov ⟨by rw [← h3]; rfl, rfl, rfl, rfl, rfl, trivial⟩ ⟨rfl, trivial⟩ ⟨rfl, rfl, rfl, rfl⟩)) ?_
  intro k hk
  conv => whnf
  refine bcase_p (fun h => ?_) (fun h => ?_) <;> conv => whnf
  · have hk2 : k < l.length := by simpa using h
    refine idxK_nat (by simpa using hk2) ?_
    conv => whnf
    refine getRow_of (x := encI l[k]) (by simp [hk2]) ?_
    conv => whnf
    repeat ((first | refine bF ?_ | refine bT ?_ | refine dK (by kernel_rfl) ?_ | refine cK rfl ?_ | refine cK (by first | decide | omega) ?_ | refine wK (by omega) (by omega) ?_); conv => whnf)
    have hmin : min k l.length = k := by omega
    refine bcase_n (fun h6 => ?_) (fun h6 => ?_) <;> conv => whnf
    · repeat ((first | refine bF ?_ | refine bT ?_ | refine dK (by kernel_rfl) ?_ | refine cK rfl ?_ | refine cK (by first | decide | omega) ?_ | refine wK (by omega) (by omega) ?_); conv => whnf)
      refine roomK_le 1000100 100 (by show List.length _ + 1 ≤ 1000100; have := List.length_eraseIdx_le (l.take k) i; simp at this ⊢; omega) (by decide) (by decide) (by decide) ?_
      conv => whnf
      repeat ((first | refine bF ?_ | refine bT ?_ | refine dK (by kernel_rfl) ?_ | refine cK rfl ?_ | refine cK (by first | decide | omega) ?_ | refine wK (by omega) (by omega) ?_); conv => whnf)
      exact ⟨k + 1, by omega, by omega, le0 (le_of_cov ⟨rfl, rfl, rfl, rfl, rfl, trivial⟩ ⟨by
        rw [take_snoc hk2, erase_snoc, if_neg (by simp [hmin]; omega), List.map_append]; rfl, trivial⟩ ⟨rfl, rfl, rfl, rfl⟩)⟩
    · repeat ((first | refine bF ?_ | refine bT ?_ | refine dK (by kernel_rfl) ?_ | refine cK rfl ?_ | refine cK (by first | decide | omega) ?_ | refine wK (by omega) (by omega) ?_); conv => whnf)
      exact ⟨k + 1, by omega, by omega, le0 (le_of_cov ⟨rfl, rfl, rfl, rfl, rfl, trivial⟩ ⟨by
        rw [take_snoc hk2, erase_snoc, if_pos (by simp [hmin]; omega), List.eraseIdx_of_length_le (by simp [hmin]; omega)]; rfl, trivial⟩ ⟨rfl, rfl, rfl, rfl⟩)⟩
  · have : k = l.length := by simp at h; omega
    subst this
    exact ret_of rfl (by rw [List.take_length]; rfl)

def thereB (l : List (Int × Int)) (p : Nat) : Bool := l.any fun x => x.1 == (p : Int)
def cellB (b : Bool) : AV := if b then .tt else .d (.bool false)
def thereA (l : List (Int × Int)) : List AV := (List.range 17).map fun p => cellB (thereB l p)
def lastG (l : List (Int × Int)) (k : Nat) : Int := if k = 0 then 0 else (l[k-1]?.getD (0, 0)).2
theorem killC_cellB (b : Nat) : ∀ (f : Nat → Bool) (r : List Nat), killB.cells b (r.map fun p => cellB (f p)) = r.map fun p => cellB (f p)
  | _, [] => rfl
  | f, x :: r => by
    simp only [List.map_cons, killB.cells, killC_cellB b f r]
    congr 1
    unfold cellB; cases f x <;> rfl
theorem killC_there (b : Nat) (l : List (Int × Int)) : killB.cells b (thereA l) = thereA l := killC_cellB b _ _
theorem thereB_place {l : List (Int × Int)} {p : Nat} : ∀ {k : Nat}, thereB l p = true ↔ 0 ≤ placeG l p k := by
  induction l with
  | nil => intro k; exact ⟨fun h => (by cases h), fun h => absurd h (show ¬ (0 ≤ (-1 : Int)) by decide)⟩
  | cons q r ih =>
    intro k
    have h := ih (k := k + 1)
    simp only [thereB, List.any_cons, placeG] at h ⊢
    by_cases e : q.1 = p
    · simp [e]
    · rw [if_neg e, ← h]; simp [e]
theorem there_set {l : List (Int × Int)} {x : Int × Int} {n : Nat} (hx : x.1 = n) : (thereA l).set n .tt = thereA (l ++ [x]) := by
  apply List.ext_getElem (by simp [thereA])
  intro i h1 h2
  simp only [thereA, List.getElem_set, List.getElem_map, List.getElem_range, thereB, List.any_append, List.any_cons, List.any_nil, Bool.or_false]
  by_cases e : n = i
  · subst e; simp [hx, cellB]
  · rw [if_neg e]
    have : (x.1 == (i : Int)) = false := by rw [hx]; simp; omega
    rw [this, Bool.or_false]

end Go.Lk.Dt

namespace Go.Lk.Dt
open Go Go.Proofs Go.RowKit Go.Lk

theorem pig : ∀ (n : Nat) (l : List Nat), l.Nodup → (∀ x ∈ l, x < n) → l.length ≤ n
  | 0, [], _, _ => Nat.le_refl _
  | 0, x :: r, _, h => absurd (h x (List.mem_cons_self ..)) (Nat.not_lt_zero _)
  | n + 1, l, hn, h => by
    by_cases hm : n ∈ l
    · have := pig n (l.erase n) (hn.erase n) fun x hx => by
        have := (hn.mem_erase_iff).1 hx
        have := h x this.2
        omega
      rw [List.length_erase_of_mem hm] at this
      omega
    · have := pig n l hn fun x hx => by
        have := h x hx
        have : x ≠ n := fun e => hm (e ▸ hx)
        omega
      omega

theorem okAt_app {l : List (Int × Int)} {x : Int × Int} {i : Nat} (h : i < l.length) : okAt (l ++ [x]) i = okAt l i := by
  unfold okAt
  rw [List.getElem?_append_left h, List.take_append_of_le_length (Nat.le_of_lt h)]
  cases i with
  | zero => simp
  | succ i => rw [List.getElem?_append_left (by omega)]
theorem okAt_last {l : List (Int × Int)} {x : Int × Int} : okAt (l ++ [x]) l.length = (pageB x.1 && timeB x.2 && !(decide (0 ≤ placeG l x.1 0)) && !(lateB l x.2)) := by
  unfold okAt lateB
  rw [List.getElem?_append_right (Nat.le_refl _)]
  simp only [Nat.sub_self, List.getElem?_cons_zero, List.take_left']
  congr 2
  by_cases h : 0 < l.length
  · rw [List.getElem?_append_left (by omega)]
  · simp [h]
theorem rightB_snoc {l : List (Int × Int)} {x : Int × Int} : rightB (l ++ [x]) = true ↔ rightB l = true ∧ l.length < 16 ∧ pageB x.1 = true ∧ timeB x.2 = true ∧ placeG l x.1 0 < 0 ∧ lateB l x.2 = false := by
  simp only [rightB, Bool.and_eq_true, decide_eq_true_eq, List.all_eq_true, List.mem_range, List.length_append, List.length_cons, List.length_nil]
  constructor
  · rintro ⟨h1, h2⟩
    have h3 := h2 l.length (by omega)
    rw [okAt_last] at h3
    simp at h3
    refine ⟨⟨by omega, fun i hi => ?_⟩, by omega, h3.1.1.1, h3.1.1.2, h3.1.2, h3.2⟩
    rw [← okAt_app hi]
    exact h2 i (by omega)
  · rintro ⟨⟨h1, h2⟩, h3, h4, h5, h6, h7⟩
    refine ⟨by omega, fun i hi => ?_⟩
    by_cases e : i < l.length
    · rw [okAt_app e]; exact h2 i e
    · obtain rfl : i = l.length := by omega
      rw [okAt_last]; simp [h4, h5, h6, h7]
theorem rightB_nil : rightB [] = true := rfl

theorem placeG_mem {l : List (Int × Int)} {n : Int} : ∀ {k : Nat}, 0 ≤ placeG l n k ↔ ∃ x ∈ l, x.1 = n := by
  induction l with
  | nil => intro k; exact ⟨fun h => absurd h (show ¬ (0 ≤ (-1 : Int)) by decide), fun ⟨x, h, _⟩ => by cases h⟩
  | cons p r ih =>
    intro k
    simp only [placeG]
    by_cases h : p.1 = n
    · rw [if_pos h]; exact ⟨fun _ => ⟨p, List.mem_cons_self .., h⟩, fun _ => by omega⟩
    · rw [if_neg h, ih]
      constructor
      · rintro ⟨x, h1, h2⟩; exact ⟨x, List.mem_cons_of_mem _ h1, h2⟩
      · rintro ⟨x, h1, h2⟩
        rcases List.mem_cons.1 h1 with rfl | h1
        · exact absurd h2 h
        · exact ⟨x, h1, h2⟩

/-- induction from the right -/
theorem snocRec {α : Type} {motive : List α → Prop} (h0 : motive []) (h1 : ∀ l x, motive l → motive (l ++ [x])) (l : List α) : motive l := by
  have : ∀ n (l : List α), l.length = n → motive l := by
    intro n
    induction n with
    | zero => intro l h; rw [List.length_eq_zero_iff.1 h]; exact h0
    | succ n ih =>
      intro l h
      have hne : l ≠ [] := fun e => by subst e; cases h
      rw [← List.dropLast_concat_getLast hne]
      exact h1 _ _ (ih _ (by simp [h]))
  exact this _ l rfl

theorem rightB_nodup {l : List (Int × Int)} : rightB l = true → (l.map fun x => x.1.toNat).Nodup ∧ ∀ x ∈ l, 1 ≤ x.1 ∧ x.1 ≤ 16 := by
  refine snocRec (motive := fun l => rightB l = true → (l.map fun x => x.1.toNat).Nodup ∧ ∀ x ∈ l, 1 ≤ x.1 ∧ x.1 ≤ 16) (fun _ => ⟨List.nodup_nil, fun x h => by cases h⟩) (fun l x ih h => ?_) l
  obtain ⟨h1, h2, h3, h4, h5, h6⟩ := rightB_snoc.1 h
  obtain ⟨g1, g2⟩ := ih h1
  have hx : 1 ≤ x.1 ∧ x.1 ≤ 16 := by simpa [pageB] using h3
  refine ⟨?_, fun y hy => ?_⟩
  · rw [List.map_append, List.nodup_append]
    refine ⟨g1, by simp, fun a ha b hb e => ?_⟩
    simp only [List.map_cons, List.map_nil, List.mem_singleton] at hb
    subst hb e
    obtain ⟨y, hy, e⟩ := List.mem_map.1 ha
    have := g2 y hy
    have : 0 ≤ placeG l x.1 0 := placeG_mem.2 ⟨y, hy, by omega⟩
    omega
  · rcases List.mem_append.1 hy with hy | hy
    · exact g2 y hy
    · rw [List.mem_singleton.1 hy]; exact hx

/-- with a page that isn't there, there is room -/
theorem right_room {l : List (Int × Int)} {p : Int} (h : rightB l = true) (hp : pageB p = true) (hn : placeG l p 0 < 0) : l.length < 16 := by
  obtain ⟨h1, h2⟩ := rightB_nodup h
  have hp' : 1 ≤ p ∧ p ≤ 16 := by simpa [pageB] using hp
  have := pig 16 ((p.toNat - 1) :: l.map fun x => x.1.toNat - 1) (by
    rw [List.nodup_cons]
    refine ⟨fun hm => ?_, ?_⟩
    · obtain ⟨y, hy, e⟩ := List.mem_map.1 hm
      have := h2 y hy
      have : 0 ≤ placeG l p 0 := placeG_mem.2 ⟨y, hy, by omega⟩
      omega
    · rw [show (l.map fun x => x.1.toNat - 1) = (l.map fun x => x.1.toNat).map (· - 1) by simp]
      refine List.pairwise_map.2 (h1.imp_of_mem fun {a b} ha hb e => ?_)
      obtain ⟨y, hy, rfl⟩ := List.mem_map.1 ha
      obtain ⟨z, hz, rfl⟩ := List.mem_map.1 hb
      have := h2 y hy
      have := h2 z hz
      omega) (by
    intro x hx
    rcases List.mem_cons.1 hx with rfl | hx
    · omega
    · obtain ⟨y, hy, rfl⟩ := List.mem_map.1 hx
      have := h2 y hy
      omega)
  simp at this
  omega

/-- what a mark does -/
theorem mark_right {l : List (Int × Int)} {p t : Int} (h : (markG l p t).2 = 0) : rightB l = true ∧ pageB p = true ∧ timeB t = true ∧ lateB l t = false ∧
    ((0 ≤ placeG l p 0 ∧ (markG l p t).1 = l) ∨ (placeG l p 0 < 0 ∧ (markG l p t).1 = l ++ [(p, t)])) := by
  unfold markG at h ⊢
  by_cases h1 : rightB l = false ∨ pageB p = false ∨ timeB t = false
  · rw [if_pos h1] at h; cases h
  · rw [if_neg h1] at h ⊢
    by_cases h2 : lateB l t = true
    · rw [if_pos h2] at h; cases h
    · rw [if_neg h2] at h ⊢
      simp at h1 h2
      refine ⟨h1.1, h1.2.1, h1.2.2, h2, ?_⟩
      by_cases h3 : 0 ≤ placeG l p 0
      · rw [if_pos h3]; exact .inl ⟨h3, rfl⟩
      · rw [if_neg h3]; exact .inr ⟨by omega, rfl⟩
theorem mark_keeps {l : List (Int × Int)} {p t : Int} (h : (markG l p t).2 = 0) : rightB (markG l p t).1 = true := by
  obtain ⟨h1, h2, h3, h4, h5 | h5⟩ := mark_right h
  · rw [h5.2]; exact h1
  · rw [h5.2]; exact rightB_snoc.2 ⟨h1, right_room h1 h2 h5.1, h2, h3, h5.1, h4⟩
theorem mark_ok2 {l : List (Int × Int)} {p t : Int} (h1 : rightB l = true) (h2 : pageB p = true) (h3 : timeB t = true) (h4 : lateB l t = false) : (markG l p t).2 = 0 := by
  unfold markG
  rw [if_neg (by simp [h1, h2, h3]), if_neg (by simp [h4])]
  split <;> rfl
theorem placeG_app {l : List (Int × Int)} {x : Int × Int} {n : Int} : ∀ {k : Nat}, placeG l n k < 0 → placeG (l ++ [x]) n k = if x.1 = n then ((k + l.length : Nat) : Int) else -1 := by
  induction l with
  | nil => intro k _; simp only [List.nil_append, placeG, List.length_nil, Nat.add_zero]
  | cons p r ih =>
    intro k h
    simp only [placeG, List.cons_append] at h ⊢
    by_cases e : p.1 = n
    · rw [if_pos e] at h; omega
    · rw [if_neg e] at h ⊢
      rw [ih h]
      simp only [List.length_cons]
      split
      · omega
      · rfl
end Go.Lk.Dt

namespace Go.Lk.Dt
open Go Go.Proofs Go.RowKit Go.Lk

theorem mark_same {l : List (Int × Int)} {p t : Int} (h : (markG l p t).2 ≠ 0 ∨ 0 ≤ placeG l p 0) : (markG l p t).1 = l := by
  unfold markG at h ⊢
  by_cases h1 : rightB l = false ∨ pageB p = false ∨ timeB t = false
  · rw [if_pos h1]
  · rw [if_neg h1] at h ⊢
    by_cases h2 : lateB l t = true
    · rw [if_pos h2]
    · rw [if_neg h2] at h ⊢
      by_cases h3 : 0 ≤ placeG l p 0
      · rw [if_pos h3]
      · rw [if_neg h3] at h
        rcases h with h | h
        · exact absurd rfl h
        · exact absurd h h3
theorem mark_len {l : List (Int × Int)} {p t : Int} : (markG l p t).1.length ≤ l.length + 1 := by
  unfold markG
  split
  · simp
  · split
    · simp
    · split <;> simp
theorem clean_snoc {l : List (Int × Int)} {p t : Int} (h : rightB (l ++ [(p, t)]) = true) (hn : placeG l p 0 < 0) : cleanG (l ++ [(p, t)]) p = (l, 0) := by
  unfold cleanG
  rw [if_neg (by simp [h]), placeG_app hn, if_pos rfl, if_neg (by omega), Nat.zero_add]
  rw [erase_snoc, if_pos (by simp)]

end Go.Lk.Dt

namespace Go.Lk.Dt
open Go Go.Proofs Go.RowKit Go.Lk

def RightP (l : List (Int × Int)) : Prop := l.length ≤ 16 ∧ (∀ x ∈ l, pageB x.1 = true ∧ timeB x.2 = true) ∧ l.Pairwise (fun a b => a.1 ≠ b.1) ∧ l.Pairwise (fun a b => a.2 ≤ b.2)
theorem late_le {l : List (Int × Int)} {t : Int} (hs : l.Pairwise (fun a b => a.2 ≤ b.2)) : lateB l t = false ↔ ∀ a ∈ l, a.2 ≤ t := by
  constructor
  · intro h a ha
    obtain ⟨i, hi, rfl⟩ := List.mem_iff_getElem.1 ha
    have hp : 0 < l.length := by omega
    simp [lateB, show l.length - 1 < l.length by omega] at h
    have h := h hp
    by_cases e : i = l.length - 1
    · subst e; exact h
    · have := List.pairwise_iff_getElem.1 hs i (l.length - 1) hi (by omega) (by omega)
      omega
  · intro h
    simp [lateB]
    intro hp
    rw [List.getElem?_eq_getElem (show l.length - 1 < l.length by omega)]
    exact h _ (List.getElem_mem _)
theorem rightB_iff {l : List (Int × Int)} : rightB l = true ↔ RightP l := by
  refine snocRec (motive := fun l => rightB l = true ↔ RightP l) ⟨fun _ => ⟨by simp, fun x h => (by cases h), .nil, .nil⟩, fun _ => rfl⟩ (fun l x ih => ?_) l
  rw [rightB_snoc, ih]
  unfold RightP
  simp only [List.length_append, List.length_cons, List.length_nil, List.mem_append, List.mem_singleton, List.pairwise_append]
  constructor
  · rintro ⟨⟨h1, h2, h3, h4⟩, h5, h6, h7, h8, h9⟩
    refine ⟨by omega, fun y hy => ?_, ⟨h3, by simp, fun a ha b hb e => ?_⟩, ⟨h4, by simp, fun a ha b hb => ?_⟩⟩
    · rcases hy with hy | rfl
      · exact h2 y hy
      · exact ⟨h6, h7⟩
    · subst hb
      have : 0 ≤ placeG l b.1 0 := placeG_mem.2 ⟨a, ha, e⟩
      omega
    · subst hb; exact (late_le h4).1 h9 a ha
  · rintro ⟨h1, h2, ⟨h3, _, h4⟩, ⟨h5, _, h6⟩⟩
    refine ⟨⟨by omega, fun y hy => h2 y (.inl hy), h3, h5⟩, by omega, (h2 x (.inr rfl)).1, (h2 x (.inr rfl)).2, ?_, (late_le h5).2 fun a ha => h6 a ha x rfl⟩
    by_cases h : 0 ≤ placeG l x.1 0
    · obtain ⟨y, hy, e⟩ := placeG_mem.1 h
      exact absurd e (h4 y hy x rfl)
    · omega

/-- what is due is a beginning -/
theorem pre_of_sorted {T : Int} : ∀ {l : List (Int × Int)}, l.Pairwise (fun a b => a.2 ≤ b.2) → ∃ m, m ≤ l.length ∧ (l.filterMap fun it => if it.2 ≤ T then some it.1 else none) = (l.take m).map (·.1) ∧ ∀ i (h : i < l.length), i < m ↔ l[i].2 ≤ T
  | [], _ => ⟨0, by simp, rfl, fun i h => absurd h (Nat.not_lt_zero _)⟩
  | p :: r, hs => by
    obtain ⟨h1, h2⟩ := List.pairwise_cons.1 hs
    by_cases e : p.2 ≤ T
    · obtain ⟨m, k1, k2, k3⟩ := pre_of_sorted (T := T) h2
      refine ⟨m + 1, by simp; omega, by simp [e, k2], fun i h => ?_⟩
      cases i with
      | zero => simp [e]
      | succ i => simpa using k3 i (by simpa using h)
    · refine ⟨0, by simp, ?_, fun i h => ?_⟩
      · rw [List.take_zero, List.map_nil, List.filterMap_eq_nil_iff]
        intro x hx
        rcases List.mem_cons.1 hx with rfl | hx
        · simp [e]
        · have := h1 x hx; simp; omega
      · cases i with
        | zero => simp; omega
        | succ i =>
          have := h1 _ (List.getElem_mem (show i < r.length by simpa using h))
          simp; omega
theorem due_pre {l : List (Int × Int)} {now age : Int} (hr : rightB l = true) (ha : 0 ≤ age) (hn : 0 ≤ now) :
    ∃ m, m ≤ l.length ∧ dueG l now age = (l.take m).map (·.1) ∧ ∀ i (h : i < l.length), i < m ↔ l[i].2 ≤ now - age := by
  obtain ⟨m, h1, h2, h3⟩ := pre_of_sorted (T := now - age) (rightB_iff.1 hr).2.2.2
  refine ⟨m, h1, ?_, h3⟩
  rw [dueG, if_neg (by simp [hr]; omega), ← h2]
  congr 1
  funext x
  simp only [dueF]
  by_cases e : age ≤ now - x.2
  · rw [if_pos e, if_pos (by omega)]
  · rw [if_neg e, if_neg (by omega)]

/-- since when, by what the list has -/
theorem since_yes {l : List (Int × Int)} {p t : Int} (hr : rightB l = true) (h : (p, t) ∈ l) : sinceG l p = (t, true) := by
  have hp : 0 ≤ placeG l p 0 := placeG_mem.2 ⟨_, h, rfl⟩
  obtain h4 | ⟨i, h4, h5, h6⟩ := placeG_lt (l := l) (n := p) (k := 0)
  · omega
  rw [Nat.zero_add] at h4
  have hi : l[i] = (p, t) := by
    obtain ⟨j, hj, e⟩ := List.mem_iff_getElem.1 h
    have hn := List.pairwise_iff_getElem.1 (rightB_iff.1 hr).2.2.1
    by_cases e1 : i = j
    · subst e1; exact e
    · rcases Nat.lt_or_gt_of_ne e1 with h7 | h7
      · exact absurd (by rw [h6, e]) (hn i j h5 hj h7)
      · exact absurd (by rw [h6, e]) (hn j i hj h5 h7)
  simp [sinceG, hr, h4, h5, hi]
theorem since_no {l : List (Int × Int)} {p : Int} (h : ∀ t, (p, t) ∉ l) : sinceG l p = (0, false) := by
  have : placeG l p 0 < 0 := by
    by_cases e : 0 ≤ placeG l p 0
    · obtain ⟨⟨a, b⟩, hy, rfl⟩ := placeG_mem.1 e
      exact absurd hy (h b)
    · omega
  simp [sinceG, this]
theorem place_no {l : List (Int × Int)} {p : Int} (h : ∀ t, (p, t) ∉ l) : placeG l p 0 < 0 := by
  by_cases e : 0 ≤ placeG l p 0
  · obtain ⟨⟨a, b⟩, hy, rfl⟩ := placeG_mem.1 e
    exact absurd hy (h b)
  · omega
theorem place_yes {l : List (Int × Int)} {p t : Int} (h : (p, t) ∈ l) : 0 ≤ placeG l p 0 := placeG_mem.2 ⟨_, h, rfl⟩

theorem erase_filter {p : Int} : ∀ {l : List (Int × Int)} {i : Nat} (h : i < l.length), l.Pairwise (fun a b => a.1 ≠ b.1) → l[i].1 = p → l.eraseIdx i = l.filter (fun x => x.1 != p)
  | a :: r, 0, _, hn, e => by
    obtain ⟨h1, h2⟩ := List.pairwise_cons.1 hn
    have e : a.1 = p := e
    rw [List.eraseIdx_cons_zero, List.filter_cons_of_neg (by simp [e])]
    exact (List.filter_eq_self.2 fun x hx => by have := h1 x hx; rw [e] at this; simp; exact fun e' => this e'.symm).symm
  | a :: r, i + 1, h, hn, e => by
    obtain ⟨h1, h2⟩ := List.pairwise_cons.1 hn
    have hi : i < r.length := by simpa using h
    have e : r[i].1 = p := by simpa using e
    have := h1 _ (List.getElem_mem hi)
    rw [e] at this
    rw [List.eraseIdx_cons_succ, erase_filter hi h2 e, List.filter_cons_of_pos (by simpa using this)]
theorem right_filter {l : List (Int × Int)} (hr : rightB l = true) (f : Int × Int → Bool) : rightB (l.filter f) = true := by
  obtain ⟨h1, h2, h3, h4⟩ := rightB_iff.1 hr
  refine rightB_iff.2 ⟨Nat.le_trans (List.length_filter_le _ _) h1, fun x hx => h2 x (List.mem_filter.1 hx).1, h3.filter f, h4.filter f⟩
/-- what a clean does, of right items -/
theorem clean_right {l : List (Int × Int)} {p : Int} (hr : rightB l = true) : cleanG l p = if 0 ≤ placeG l p 0 then (l.filter (fun x => x.1 != p), 0) else (l, 3) := by
  unfold cleanG
  rw [if_neg (by simp [hr])]
  by_cases h : 0 ≤ placeG l p 0
  · obtain h4 | ⟨i, h4, h5, h6⟩ := placeG_lt (l := l) (n := p) (k := 0)
    · omega
    rw [Nat.zero_add] at h4
    rw [if_neg (by omega), if_pos h, h4, Int.toNat_natCast, erase_filter h5 (rightB_iff.1 hr).2.2.1 h6]
  · rw [if_pos (by omega), if_neg h]
end Go.Lk.Dt

namespace Go.Lk.Tb
open Go Go.Proofs Go.RowKit Go.Lk
abbrev Slots := List (Int × Int)
def encS (x : Int × Int) : D := .agg (encI x)
def encT (l : Slots) : D := .agg [encIs l]
def freeB (x : Int × Int) : Bool := decide (x.1 = 0) && decide (x.2 = 0)
def fitsB (p f : Int) : Bool := decide (1 ≤ p) && (decide (p ≤ 2147483647) && (decide (0 ≤ f) && decide (f ≤ 2147483647)))

theorem free_ok (x : Int × Int) : ACall Tryz.prog 96 [encS x] (.bool (freeB x)) := by
  refine acall_of Tryz.func96 1 rfl (by kernel_rfl) ?_
  conv => whnf
  repeat ((first | refine bF ?_ | refine bT ?_ | refine dK (by kernel_rfl) ?_ | refine cK rfl ?_ | refine cK (by first | decide | omega) ?_ | refine wK (by omega) (by omega) ?_); conv => whnf)
  refine bcase_p (fun h => ?_) (fun h => ?_) <;> conv => whnf
  · repeat ((first | refine bF ?_ | refine bT ?_ | refine dK (by kernel_rfl) ?_ | refine cK rfl ?_ | refine cK (by first | decide | omega) ?_ | refine wK (by omega) (by omega) ?_); conv => whnf)
    exact ret_of rfl (by simp [freeB, h])
  · repeat ((first | refine bF ?_ | refine bT ?_ | refine dK (by kernel_rfl) ?_ | refine cK rfl ?_ | refine cK (by first | decide | omega) ?_ | refine wK (by omega) (by omega) ?_); conv => whnf)
    exact ret_of rfl (by simp [freeB, h])
theorem fits_ok (p f : Int) : ACall Tryz.prog 97 [.int .i64 p, .int .i64 f] (.bool (fitsB p f)) := by
  refine acall_of Tryz.func97 2 rfl (by kernel_rfl) ?_
  conv => whnf
  refine bcase_p (fun h => ?_) (fun h => ?_) <;> conv => whnf
  · refine bcase_p (fun h2 => ?_) (fun h2 => ?_) <;> conv => whnf
    · refine bcase_p (fun h3 => ?_) (fun h3 => ?_) <;> conv => whnf
      · exact ret_of rfl (by simp [fitsB, h, h2, h3])
      · exact ret_of rfl (by simp [fitsB, h, h2, h3])
    · repeat ((first | refine bF ?_ | refine bT ?_ | refine dK (by kernel_rfl) ?_ | refine cK rfl ?_ | refine cK (by first | decide | omega) ?_ | refine wK (by omega) (by omega) ?_); conv => whnf)
      exact ret_of rfl (by simp [fitsB, h, h2])
  · repeat ((first | refine bF ?_ | refine bT ?_ | refine dK (by kernel_rfl) ?_ | refine cK rfl ?_ | refine cK (by first | decide | omega) ?_ | refine wK (by omega) (by omega) ?_); conv => whnf)
    exact ret_of rfl (by simp [fitsB, h])
theorem home_ok (n : Int) (h : 0 ≤ n) : ACall Tryz.prog 98 [.int .i64 n] (.int .i64 (n % 16)) := by
  refine acall_of Tryz.func98 1 rfl (by kernel_rfl) ?_
  conv => whnf
  refine divK_rem (by decide) h ?_
  conv => whnf
  exact ret_of rfl rfl
theorem behind_ok (n : Int) (h : 0 ≤ n) (h1 : n ≤ 100) : ACall Tryz.prog 99 [.int .i64 n] (.int .i64 ((n + 1) % 16)) := by
  refine acall_of Tryz.func99 1 rfl (by kernel_rfl) ?_
  conv => whnf
  repeat ((first | refine bF ?_ | refine bT ?_ | refine dK (by kernel_rfl) ?_ | refine cK rfl ?_ | refine cK (by first | decide | omega) ?_ | refine wK (by omega) (by omega) ?_); conv => whnf)
  refine divK_rem (by decide) (by omega) ?_
  conv => whnf
  exact ret_of rfl rfl
theorem way_ok (a b : Int) (h : 0 ≤ a) (h1 : a ≤ 15) (h2 : 0 ≤ b) (h3 : b ≤ 15) : ACall Tryz.prog 172 [.int .i64 a, .int .i64 b] (.int .i64 ((b - a + 16) % 16)) := by
  refine acall_of Tryz.func172 2 rfl (by kernel_rfl) ?_
  conv => whnf
  repeat ((first | refine bF ?_ | refine bT ?_ | refine dK (by kernel_rfl) ?_ | refine cK rfl ?_ | refine cK (by first | decide | omega) ?_ | refine wK (by omega) (by omega) ?_); conv => whnf)
  refine divK_rem (by decide) (by omega) ?_
  conv => whnf
  exact ret_of rfl rfl

theorem clone_ok (l : Slots) (hl : l.length ≤ 1000000) : OCall Tryz.prog 171 [encIs l] (l.map encI) 2 := by
  refine ocall_of Tryz.func171 1 rfl (by kernel_rfl) ?_
  conv => whnf
  refine nilK_of ?_
  conv => whnf
  intro r hr
  conv => whnf
  refine bcase_intro (fun h => ?_) (fun h => ?_) <;> conv => whnf
  · have := hr h
    exact ⟨2, rfl, .inr ⟨rfl, this⟩⟩
  · repeat ((first | refine bF ?_ | refine bT ?_ | refine dK (by kernel_rfl) ?_ | refine cK rfl ?_ | refine cK (by first | decide | omega) ?_ | refine wK (by omega) (by omega) ?_); conv => whnf)
    refine condK_of (encI_ok l) ?_
    conv => whnf
    refine roomK_le 1000100 100 (by show 0 + List.length _ ≤ 1000100; simp; omega) (by decide) (by decide) (by decide) ?_
    conv => whnf
    exact ⟨2, rfl, .inl ⟨5, rfl, rfl⟩⟩

theorem new_ok : ACall Tryz.prog 94 [] (encT (List.replicate 16 (0, 0))) := by
  refine acall_of Tryz.func94 0 rfl (by kernel_rfl) ?_
  conv => whnf
  repeat ((first | refine bF ?_ | refine bT ?_ | refine dK (by kernel_rfl) ?_ | refine cK rfl ?_ | refine cK (by first | decide | omega) ?_ | refine wK (by omega) (by omega) ?_); conv => whnf)
  refine roomK_le 100 100 (by decide) (by decide) (by decide) (by decide) ?_
  conv => whnf
  repeat ((first | refine bF ?_ | refine bT ?_ | refine dK (by kernel_rfl) ?_ | refine cK rfl ?_ | refine cK (by first | decide | omega) ?_ | refine wK (by omega) (by omega) ?_); conv => whnf)
  exact ret_of rfl rfl

def placeG (l : Slots) (n : Int) (k : Nat) : Int :=
  match l with
  | [] => -1
  | p :: r => if p.1 = n then (k : Int) else placeG r n (k + 1)
def placeT (l : Slots) (p : Int) : Int × Bool := if p < 1 ∨ placeG l p 0 < 0 then (0, false) else (placeG l p 0, true)
theorem place_ok (l : Slots) (n : Int) (hl : l.length ≤ 1000000) : ACall Tryz.prog 103 [encT l, .int .i64 n] (.tup [.int .i64 (placeT l n).1, .bool (placeT l n).2]) := by
  refine acall_of Tryz.func103 2 rfl (by kernel_rfl) ?_
  conv => whnf
  refine bcase_p (fun h0 => ?_) (fun h0 => ?_) <;> conv => whnf
  · exact ret_of rfl (by simp [placeT, h0]; rfl)
  repeat ((first | refine bF ?_ | refine bT ?_ | refine dK (by kernel_rfl) ?_ | refine cK rfl ?_ | refine cK (by first | decide | omega) ?_ | refine wK (by omega) (by omega) ?_); conv => whnf)
  refine aloop (ι := Nat) (fun k => [(1, .d (.int .i64 n)), (11, .d (encIs l)), (12, .d (.int .i64 (l.map encI).length)), (13, .d (.int .i64 k))]) (fun _ => [])
    (fun k => k ≤ l.length ∧ placeG (l.drop k) n k = placeG l n 0) (fun k => l.length - k) 0 ⟨Nat.zero_le _, rfl⟩ (le0 (le_of_cov ⟨rfl, rfl, rfl, rfl, trivial⟩ trivial ⟨rfl, rfl, rfl, rfl⟩)) ?_
  rintro k ⟨hk, hR⟩
  conv => whnf
  refine bcase_p (fun h => ?_) (fun h => ?_) <;> conv => whnf
  · have hk2 : k < l.length := by simpa using h
    refine idxK_nat (by simpa using hk2) ?_
    conv => whnf
    refine getRow_of (x := encI l[k]) (by simp [hk2]) ?_
    conv => whnf
    repeat ((first | refine bF ?_ | refine bT ?_ | refine dK (by kernel_rfl) ?_ | refine cK rfl ?_ | refine cK (by first | decide | omega) ?_ | refine wK (by omega) (by omega) ?_); conv => whnf)
    rw [drop_cons hk2, placeG] at hR
    refine bcase_p (fun h2 => ?_) (fun h2 => ?_) <;> conv => whnf
    · rw [if_pos h2] at hR
      refine ret_of rfl ?_
      have : placeT l n = ((k : Int), true) := by rw [placeT, ← hR, if_neg (by omega)]
      rw [this]; rfl
    · rw [if_neg h2] at hR
      repeat ((first | refine bF ?_ | refine bT ?_ | refine dK (by kernel_rfl) ?_ | refine cK rfl ?_ | refine cK (by first | decide | omega) ?_ | refine wK (by omega) (by omega) ?_); conv => whnf)
      exact ⟨k + 1, ⟨by omega, hR⟩, by omega, le0 (le_of_cov ⟨rfl, rfl, rfl, rfl, trivial⟩ trivial ⟨rfl, rfl, rfl, rfl⟩)⟩
  · have : k = l.length := by simp at h; omega
    subst this
    simp [placeG] at hR
    refine ret_of rfl ?_
    have : placeT l n = (0, false) := by rw [placeT, ← hR, if_pos (by omega)]
    rw [this]; rfl

/-! ### what is a table -/
def at' (l : Slots) (i : Nat) : Int × Int := l[i]?.getD (0, 0)
theorem at_eq {l : Slots} {i : Nat} (h : i < l.length) : at' l i = l[i] := by simp [at', h]
def homeN (p : Int) : Nat := (p % 16).toNat
def wayN (a b : Nat) : Nat := (b + 16 - a) % 16
def SlotP (x : Int × Int) : Prop := freeB x = true ∨ fitsB x.1 x.2 = true
def PlaceP (l : Slots) (i : Nat) : Prop := freeB (at' l i) = true ∨ ((∀ j, j < i → (at' l j).1 ≠ (at' l i).1) ∧ ∀ d, d < wayN (homeN (at' l i).1) i → freeB (at' l ((homeN (at' l i).1 + d) % 16)) = false)
structure RT (l : Slots) : Prop where
  len : l.length = 16
  slots : ∀ i, i < 16 → SlotP (at' l i)
  places : ∀ i, i < 16 → PlaceP l i
open Classical in
noncomputable def rightB (l : Slots) : Bool := decide (RT l)
theorem rightB_t {l : Slots} : rightB l = true ↔ RT l := by simp [rightB]
theorem rightB_f {l : Slots} : rightB l = false ↔ ¬ RT l := by simp [rightB]
theorem fits_out {p f : Int} : fitsB p f = true ↔ 1 ≤ p ∧ p ≤ 2147483647 ∧ 0 ≤ f ∧ f ≤ 2147483647 := by simp [fitsB]
theorem free_out {x : Int × Int} : freeB x = true ↔ x.1 = 0 ∧ x.2 = 0 := by simp [freeB]

theorem right_ok (l : Slots) (hl : l.length ≤ 1000000) : ACall Tryz.prog 59 [encT l] (.bool (rightB l)) := by
  refine acall_of Tryz.func59 1 rfl (by kernel_rfl) ?_
  conv => whnf
  have hm : (l.map encI).length = l.length := List.length_map ..
  repeat ((first | refine bF ?_ | refine bT ?_ | refine dK (by kernel_rfl) ?_ | refine cK rfl ?_ | refine cK (by first | decide | omega) ?_ | refine wK (by omega) (by omega) ?_); conv => whnf)
  refine bcase_n (fun h0 => ?_) (fun h0 => ?_) <;> conv => whnf
  · exact ret_of rfl (congrArg D.bool (rightB_f.2 fun h => h0 (by rw [hm, h.len]; rfl)).symm)
  have hlen : l.length = 16 := by omega
  repeat ((first | refine bF ?_ | refine bT ?_ | refine dK (by kernel_rfl) ?_ | refine cK rfl ?_ | refine cK (by first | decide | omega) ?_ | refine wK (by omega) (by omega) ?_); conv => whnf)
  refine aloop (ι := Nat) (fun k => [(1, .ptr 1 0 0), (15, .d (encIs l)), (16, .d (.int .i64 (l.map encI).length)), (17, .d (.int .i64 k))]) (fun _ => [(1, .box [.d (encIs l)] false)])
    (fun k => k ≤ 16 ∧ ∀ j, j < k → SlotP (at' l j)) (fun k => 16 - k) 0 ⟨Nat.zero_le _, fun j h => absurd h (Nat.not_lt_zero _)⟩ (le0 (le_of_cov ⟨rfl, rfl, rfl, rfl, trivial⟩ ⟨rfl, trivial⟩ ⟨rfl, rfl, rfl, rfl⟩)) ?_
  rintro k ⟨hk, hR⟩
  conv => whnf
  refine bcase_p (fun h => ?_) (fun h => ?_) <;> conv => whnf
  · have hk2 : k < l.length := by omega
    have hat := at_eq hk2
    have hlast (hs : SlotP l[k]) : ∀ j, j < k + 1 → SlotP (at' l j) := fun j hj => (Nat.lt_succ_iff_lt_or_eq.1 hj).elim (hR j) (fun e => by subst e; rw [hat]; exact hs)
    refine idxK_nat (by omega) ?_
    conv => whnf
    refine getRow_of (x := encI l[k]) (by simp [hk2]) ?_
    conv => whnf
    repeat ((first | refine bF ?_ | refine bT ?_ | refine dK (by kernel_rfl) ?_ | refine cK rfl ?_ | refine cK (by first | decide | omega) ?_ | refine wK (by omega) (by omega) ?_); conv => whnf)
    refine callX_pure (free_ok l[k]) ?_
    conv => whnf
    refine bcase_intro (fun h1 => ?_) (fun h1 => ?_) <;> conv => whnf
    · repeat ((first | refine bF ?_ | refine bT ?_ | refine dK (by kernel_rfl) ?_ | refine cK rfl ?_ | refine cK (by first | decide | omega) ?_ | refine wK (by omega) (by omega) ?_); conv => whnf)
      refine callX_pure (fits_ok _ _) ?_
      conv => whnf
      refine bcase_intro (fun h2 => ?_) (fun h2 => ?_) <;> conv => whnf
      · refine ret_of rfl (congrArg D.bool (rightB_f.2 fun h => ?_).symm)
        have := h.slots k (by omega)
        rw [hat] at this
        simp [SlotP] at this h1 h2
        rw [h1, h2] at this
        simp at this
      · repeat ((first | refine bF ?_ | refine bT ?_ | refine dK (by kernel_rfl) ?_ | refine cK rfl ?_ | refine cK (by first | decide | omega) ?_ | refine wK (by omega) (by omega) ?_); conv => whnf)
        simp at h2
        exact ⟨k + 1, ⟨by omega, hlast (.inr h2)⟩, by omega, le0 (le_of_cov ⟨rfl, rfl, rfl, rfl, trivial⟩ ⟨rfl, trivial⟩ ⟨rfl, rfl, rfl, rfl⟩)⟩
    · repeat ((first | refine bF ?_ | refine bT ?_ | refine dK (by kernel_rfl) ?_ | refine cK rfl ?_ | refine cK (by first | decide | omega) ?_ | refine wK (by omega) (by omega) ?_); conv => whnf)
      simp at h1
      exact ⟨k + 1, ⟨by omega, hlast (.inl h1)⟩, by omega, le0 (le_of_cov ⟨rfl, rfl, rfl, rfl, trivial⟩ ⟨rfl, trivial⟩ ⟨rfl, rfl, rfl, rfl⟩)⟩
  have hS : ∀ j, j < 16 → SlotP (at' l j) := fun j hj => hR j (by omega)
  clear hR hk h
  repeat ((first | refine bF ?_ | refine bT ?_ | refine dK (by kernel_rfl) ?_ | refine cK rfl ?_ | refine cK (by first | decide | omega) ?_ | refine wK (by omega) (by omega) ?_); conv => whnf)
  refine aloop (ι := Nat) (fun k => [(1, .ptr 1 0 0), (34, .d (encIs l)), (35, .d (.int .i64 (l.map encI).length)), (36, .d (.int .i64 k))]) (fun _ => [(1, .box [.d (encIs l)] false)])
    (fun k => k ≤ 16 ∧ ∀ j, j < k → PlaceP l j) (fun k => 16 - k) 0 ⟨Nat.zero_le _, fun j h => absurd h (Nat.not_lt_zero _)⟩ (le0 (le_of_cov ⟨rfl, rfl, rfl, rfl, trivial⟩ ⟨rfl, trivial⟩ ⟨rfl, rfl, rfl, rfl⟩)) ?_
  rintro k ⟨hk, hR⟩
  conv => whnf
  refine bcase_p (fun h => ?_) (fun h => ?_) <;> conv => whnf
  · have hk2 : k < l.length := by omega
    have hat := at_eq hk2
    have hlast (hs : PlaceP l k) : ∀ j, j < k + 1 → PlaceP l j := fun j hj => (Nat.lt_succ_iff_lt_or_eq.1 hj).elim (hR j) (fun e => by subst e; exact hs)
    have hsl := hS k (by omega)
    refine idxK_nat (by omega) ?_
    conv => whnf
    refine getRow_of (x := encI l[k]) (by simp [hk2]) ?_
    conv => whnf
    repeat ((first | refine bF ?_ | refine bT ?_ | refine dK (by kernel_rfl) ?_ | refine cK rfl ?_ | refine cK (by first | decide | omega) ?_ | refine wK (by omega) (by omega) ?_); conv => whnf)
    refine callX_pure (free_ok l[k]) ?_
    conv => whnf
    refine bcase_intro (fun h1 => ?_) (fun h1 => ?_) <;> conv => whnf
    · repeat ((first | refine bF ?_ | refine bT ?_ | refine dK (by kernel_rfl) ?_ | refine cK rfl ?_ | refine cK (by first | decide | omega) ?_ | refine wK (by omega) (by omega) ?_); conv => whnf)
      exact ⟨k + 1, ⟨by omega, hlast (.inl (by rw [hat]; exact h1))⟩, by omega, le0 (le_of_cov ⟨rfl, rfl, rfl, rfl, trivial⟩ ⟨rfl, trivial⟩ ⟨rfl, rfl, rfl, rfl⟩)⟩
    have hfit : 1 ≤ l[k].1 := by
      rcases hsl with h2 | h2
      · rw [hat, h1] at h2; cases h2
      · rw [hat] at h2; exact (fits_out.1 h2).1
    repeat ((first | refine bF ?_ | refine bT ?_ | refine dK (by kernel_rfl) ?_ | refine cK rfl ?_ | refine cK (by first | decide | omega) ?_ | refine wK (by omega) (by omega) ?_); conv => whnf)
    refine condK_of (fun e he => encI_len he) ?_
    conv => whnf
    refine sliceK_hi (by omega) ?_
    conv => whnf
    repeat ((first | refine bF ?_ | refine bT ?_ | refine dK (by kernel_rfl) ?_ | refine cK rfl ?_ | refine cK (by first | decide | omega) ?_ | refine wK (by omega) (by omega) ?_); conv => whnf)
    have hlt : (List.drop 0 (List.take k (l.map encI))).length = k := by simp; omega
    refine aloop (ι := Nat) (fun q => [(1, .ptr 1 0 0), (5, .d (.int .i64 k)), (6, .ptr 6 0 0), (34, .d (encIs l)), (35, .d (.int .i64 (l.map encI).length)), (36, .d (.int .i64 k)), (46, .d (.lst (List.drop 0 (List.take k (l.map encI))))), (47, .d (.int .i64 (List.drop 0 (List.take k (l.map encI))).length)), (48, .d (.int .i64 q))]) (fun _ => [(1, .box [.d (encIs l)] false), (6, .box [.d (.int .i64 l[k].1), .d (.int .i64 l[k].2)] false)])
      (fun q => q ≤ k ∧ ∀ j, j < q → (at' l j).1 ≠ (at' l k).1) (fun q => k - q) 0 ⟨Nat.zero_le _, fun j h => absurd h (Nat.not_lt_zero _)⟩ (le0 (le_of_cov ⟨rfl, rfl, rfl, rfl, rfl, rfl, rfl, rfl, rfl, trivial⟩ ⟨rfl, rfl, trivial⟩ ⟨rfl, rfl, rfl, rfl⟩)) ?_
    rintro q ⟨hq, hQ⟩
    conv => whnf
    refine bcase_p (fun h2 => ?_) (fun h2 => ?_) <;> conv => whnf
    · have hq2 : q < k := by omega
      have hq3 : q < l.length := by omega
      refine idxK_nat (by omega) ?_
      conv => whnf
      refine getRow_of (x := encI l[q]) (by rw [List.drop_zero, List.getElem?_take_of_lt hq2, List.getElem?_map, List.getElem?_eq_getElem hq3]; rfl) ?_
      conv => whnf
      repeat ((first | refine bF ?_ | refine bT ?_ | refine dK (by kernel_rfl) ?_ | refine cK rfl ?_ | refine cK (by first | decide | omega) ?_ | refine wK (by omega) (by omega) ?_); conv => whnf)
      refine bcase_p (fun h3 => ?_) (fun h3 => ?_) <;> conv => whnf
      · refine ret_of rfl (congrArg D.bool (rightB_f.2 fun h => ?_).symm)
        rcases h.places k (by omega) with h4 | ⟨h4, _⟩
        · rw [hat, h1] at h4; cases h4
        · exact h4 q hq2 (by rw [at_eq hq3, hat, h3])
      · repeat ((first | refine bF ?_ | refine bT ?_ | refine dK (by kernel_rfl) ?_ | refine cK rfl ?_ | refine cK (by first | decide | omega) ?_ | refine wK (by omega) (by omega) ?_); conv => whnf)
        exact ⟨q + 1, ⟨by omega, fun j hj => (Nat.lt_succ_iff_lt_or_eq.1 hj).elim (hQ j) (fun e => by subst e; rw [at_eq hq3, hat]; exact h3)⟩, by omega, le0 (le_of_cov ⟨rfl, rfl, rfl, rfl, rfl, rfl, rfl, rfl, rfl, trivial⟩ ⟨rfl, rfl, trivial⟩ ⟨rfl, rfl, rfl, rfl⟩)⟩
    have hQk : ∀ j, j < k → (at' l j).1 ≠ (at' l k).1 := fun j hj => hQ j (by omega)
    clear hQ hq h2
    repeat ((first | refine bF ?_ | refine bT ?_ | refine dK (by kernel_rfl) ?_ | refine cK rfl ?_ | refine cK (by first | decide | omega) ?_ | refine wK (by omega) (by omega) ?_); conv => whnf)
    refine callX_pure (home_ok l[k].1 (by omega)) ?_
    conv => whnf
    have hhm : ((homeN l[k].1 : Nat) : Int) = l[k].1 % 16 := by simp [homeN]; omega
    have hh16 : homeN l[k].1 < 16 := by simp [homeN]; omega
    refine aloop (ι := Nat) (fun d => [(1, .ptr 1 0 0), (5, .d (.int .i64 k)), (9, .d (.int .i64 (((homeN l[k].1 + d) % 16 : Nat) : Int))), (34, .d (encIs l)), (35, .d (.int .i64 (l.map encI).length)), (36, .d (.int .i64 k))]) (fun _ => [(1, .box [.d (encIs l)] false)])
      (fun d => d ≤ wayN (homeN l[k].1) k ∧ ∀ d', d' < d → freeB (at' l ((homeN l[k].1 + d') % 16)) = false) (fun d => 16 - d) 0 ⟨Nat.zero_le _, fun j h => absurd h (Nat.not_lt_zero _)⟩ (le0 (le_of_cov ⟨rfl, rfl, by
        show _ = AV.d (.int .i64 (((homeN l[k].1 + 0) % 16 : Nat) : Int)); rw [show (((homeN l[k].1 + 0) % 16 : Nat) : Int) = l[k].1 % 16 by omega]; rfl, rfl, rfl, rfl, trivial⟩ ⟨rfl, trivial⟩ ⟨rfl, rfl, rfl, rfl⟩)) ?_
    rintro d ⟨hd, hD⟩
    conv => whnf
    have hw16 : wayN (homeN l[k].1) k < 16 := by simp [wayN]; omega
    refine bcase_n (fun h2 => ?_) (fun h2 => ?_) <;> conv => whnf
    · have hd2 : d < wayN (homeN l[k].1) k := by
        by_cases e : d = wayN (homeN l[k].1) k
        · exfalso; apply h2; rw [e]; simp only [wayN]; omega
        · omega
      have hj : (homeN l[k].1 + d) % 16 < l.length := by omega
      repeat ((first | refine bF ?_ | refine bT ?_ | refine dK (by kernel_rfl) ?_ | refine cK rfl ?_ | refine cK (by first | decide | omega) ?_ | refine wK (by omega) (by omega) ?_); conv => whnf)
      refine idxK_nat (by omega) ?_
      conv => whnf
      refine getRow_of (x := encI l[(homeN l[k].1 + d) % 16]) (by simp [hj]) ?_
      conv => whnf
      repeat ((first | refine bF ?_ | refine bT ?_ | refine dK (by kernel_rfl) ?_ | refine cK rfl ?_ | refine cK (by first | decide | omega) ?_ | refine wK (by omega) (by omega) ?_); conv => whnf)
      refine callX_pure (free_ok l[(homeN l[k].1 + d) % 16]) ?_
      conv => whnf
      refine bcase_intro (fun h3 => ?_) (fun h3 => ?_) <;> conv => whnf
      · refine ret_of rfl (congrArg D.bool (rightB_f.2 fun h => ?_).symm)
        rcases h.places k (by omega) with h4 | ⟨_, h4⟩
        · rw [hat, h1] at h4; cases h4
        · rw [hat] at h4
          have := h4 d hd2
          rw [at_eq hj, h3] at this
          cases this
      · refine callX_pure (behind_ok (((homeN l[k].1 + d) % 16 : Nat) : Int) (by omega) (by omega)) ?_
        conv => whnf
        exact ⟨d + 1, ⟨by omega, fun j hj' => (Nat.lt_succ_iff_lt_or_eq.1 hj').elim (hD j) (fun e => by subst e; rw [at_eq hj]; exact h3)⟩, by omega, le0 (le_of_cov ⟨rfl, rfl, by
          show _ = AV.d (.int .i64 (((homeN l[k].1 + (d + 1)) % 16 : Nat) : Int))
          rw [show (((homeN l[k].1 + (d + 1)) % 16 : Nat) : Int) = ((((homeN l[k].1 + d) % 16 : Nat) : Int) + 1) % 16 by omega]; rfl, rfl, rfl, rfl, trivial⟩ ⟨rfl, trivial⟩ ⟨rfl, rfl, rfl, rfl⟩)⟩
    · have hd3 : d = wayN (homeN l[k].1) k := by simp only [wayN] at hd hw16 ⊢; omega
      repeat ((first | refine bF ?_ | refine bT ?_ | refine dK (by kernel_rfl) ?_ | refine cK rfl ?_ | refine cK (by first | decide | omega) ?_ | refine wK (by omega) (by omega) ?_); conv => whnf)
      refine ⟨k + 1, ⟨by omega, hlast (.inr ⟨hQk, ?_⟩)⟩, by omega, le0 (le_of_cov ⟨rfl, rfl, rfl, rfl, trivial⟩ ⟨rfl, trivial⟩ ⟨rfl, rfl, rfl, rfl⟩)⟩
      rw [hat, ← hd3]; exact hD
  exact ret_of rfl (congrArg D.bool (rightB_t.2 ⟨hlen, hS, fun j hj => hR j (by omega)⟩).symm)
end Go.Lk.Tb

namespace Go.Lk.Tb
open Go Go.Proofs Go.RowKit Go.Lk

theorem placeG_lt {l : Slots} {n : Int} : ∀ {k : Nat}, placeG l n k < 0 ∨ ∃ i : Nat, placeG l n k = ((k + i : Nat) : Int) ∧ ∃ h : i < l.length, l[i].1 = n := by
  induction l with
  | nil => intro k; exact .inl (show (-1 : Int) < 0 by decide)
  | cons p r ih =>
    intro k
    simp only [placeG]
    by_cases h : p.1 = n
    · exact .inr ⟨0, by simp [h], by simp, by simpa using h⟩
    · rw [if_neg h]
      rcases ih (k := k + 1) with h1 | ⟨i, h1, h2, h3⟩
      · exact .inl h1
      · exact .inr ⟨i + 1, by rw [h1]; simp; omega, by simpa using h2, by simpa using h3⟩

def ffree (l : Slots) (h d : Nat) : Nat → Option Nat
  | 0 => none
  | n + 1 => if freeB (at' l ((h + d) % 16)) = true then some ((h + d) % 16) else ffree l h (d + 1) n
noncomputable def putS (l : Slots) (p f : Int) : Slots × Int :=
  if rightB l = false ∨ fitsB p f = false then (l, 1) else if (placeT l p).2 = true then (l, 4) else match ffree l (homeN p) 0 16 with
    | some i => (l.set i (p, f), 0)
    | none => (l, 7)

theorem set_enc (l : Slots) (i : Nat) (x : Int × Int) : (l.map encI).set i (encI x) = (l.set i x).map encI := by rw [List.map_set]

theorem put_ok (l : Slots) (p f : Int) (hl : l.length ≤ 1000000) : ACall Tryz.prog 149 [encT l, .int .i64 p, .int .i64 f] (.tup [encT (putS l p f).1, .int .i64 (putS l p f).2]) := by
  refine acall_of Tryz.func149 3 rfl (by kernel_rfl) ?_
  conv => whnf
  repeat ((first | refine bF ?_ | refine bT ?_ | refine dK (by kernel_rfl) ?_ | refine cK rfl ?_ | refine cK (by first | decide | omega) ?_ | refine wK (by omega) (by omega) ?_); conv => whnf)
  refine callX_pure (right_ok l hl) ?_
  conv => whnf
  refine bcase_intro (fun h1 => ?_) (fun h1 => ?_) <;> conv => whnf
  · repeat ((first | refine bF ?_ | refine bT ?_ | refine dK (by kernel_rfl) ?_ | refine cK rfl ?_ | refine cK (by first | decide | omega) ?_ | refine wK (by omega) (by omega) ?_); conv => whnf)
    simp at h1
    exact ret_of rfl (by simp [putS, h1]; rfl)
  simp at h1
  refine callX_pure (fits_ok p f) ?_
  conv => whnf
  refine bcase_intro (fun h2 => ?_) (fun h2 => ?_) <;> conv => whnf
  · repeat ((first | refine bF ?_ | refine bT ?_ | refine dK (by kernel_rfl) ?_ | refine cK rfl ?_ | refine cK (by first | decide | omega) ?_ | refine wK (by omega) (by omega) ?_); conv => whnf)
    simp at h2
    exact ret_of rfl (by simp [putS, h2]; rfl)
  simp at h2
  repeat ((first | refine bF ?_ | refine bT ?_ | refine dK (by kernel_rfl) ?_ | refine cK rfl ?_ | refine cK (by first | decide | omega) ?_ | refine wK (by omega) (by omega) ?_); conv => whnf)
  refine callX_pure (place_ok l p hl) ?_
  conv => whnf
  refine bcase_intro (fun h3 => ?_) (fun h3 => ?_) <;> conv => whnf
  · repeat ((first | refine bF ?_ | refine bT ?_ | refine dK (by kernel_rfl) ?_ | refine cK rfl ?_ | refine cK (by first | decide | omega) ?_ | refine wK (by omega) (by omega) ?_); conv => whnf)
    exact ret_of rfl (by simp [putS, h1, h2, h3]; rfl)
  have hp := fits_out.1 h2
  have hlen := (rightB_t.1 h1).len
  have hm : (l.map encI).length = l.length := List.length_map ..
  have hhm : ((homeN p : Nat) : Int) = p % 16 := by simp [homeN]; omega
  have hh16 : homeN p < 16 := by simp [homeN]; omega
  refine callX_pure (home_ok p (by omega)) ?_
  conv => whnf
  refine aloop (ι := Nat) (fun d => [(1, .d (.int .i64 p)), (2, .d (.int .i64 f)), (3, .ptr 3 0 0), (6, .ptr 6 0 0), (10, .d (.int .i64 (((homeN p + d) % 16 : Nat) : Int))), (32, .d (.int .i64 d))]) (fun _ => [(3, .box [.d (encIs l)] false), (6, .box [.nil] false)])
    (fun d => d ≤ 16 ∧ ffree l (homeN p) d (16 - d) = ffree l (homeN p) 0 16) (fun d => 16 - d) 0 ⟨Nat.zero_le _, rfl⟩ (le0 (le_of_cov ⟨rfl, rfl, rfl, rfl, by
      show AV.d (.int .i64 (p % 16)) = AV.d (.int .i64 (((homeN p + 0) % 16 : Nat) : Int)); rw [show (((homeN p + 0) % 16 : Nat) : Int) = p % 16 by omega], rfl, trivial⟩ ⟨rfl, rfl, trivial⟩ ⟨rfl, rfl, rfl, rfl⟩)) ?_
  rintro d ⟨hd, hD⟩
  conv => whnf
  refine bcase_p (fun h => ?_) (fun h => ?_) <;> conv => whnf
  · have hj : (homeN p + d) % 16 < l.length := by omega
    rw [show 16 - d = (16 - (d + 1)) + 1 by omega, ffree, at_eq hj] at hD
    repeat ((first | refine bF ?_ | refine bT ?_ | refine dK (by kernel_rfl) ?_ | refine cK rfl ?_ | refine cK (by first | decide | omega) ?_ | refine wK (by omega) (by omega) ?_); conv => whnf)
    refine idxK_nat (by omega) ?_
    conv => whnf
    refine getRow_of (x := encI l[(homeN p + d) % 16]) (by simp [hj]) ?_
    conv => whnf
    repeat ((first | refine bF ?_ | refine bT ?_ | refine dK (by kernel_rfl) ?_ | refine cK rfl ?_ | refine cK (by first | decide | omega) ?_ | refine wK (by omega) (by omega) ?_); conv => whnf)
    refine callX_pure (free_ok l[(homeN p + d) % 16]) ?_
    conv => whnf
    refine bcase_intro (fun h4 => ?_) (fun h4 => ?_) <;> conv => whnf
    · rw [if_pos h4] at hD
      have hput : putS l p f = (l.set ((homeN p + d) % 16) (p, f), 0) := by simp [putS, h1, h2, h3, ← hD]
      rw [hput]
      repeat ((first | refine bF ?_ | refine bT ?_ | refine dK (by kernel_rfl) ?_ | refine cK rfl ?_ | refine cK (by first | decide | omega) ?_ | refine wK (by omega) (by omega) ?_); conv => whnf)
      refine callX_own (clone_ok l hl) ?_
      conv => whnf
      refine idxK_nat (by omega) ?_
      conv => whnf
      refine getRow_of (x := encI l[(homeN p + d) % 16]) (by simp [hj]) ?_
      conv => whnf
      repeat ((first | refine bF ?_ | refine bT ?_ | refine dK (by kernel_rfl) ?_ | refine cK rfl ?_ | refine cK (by first | decide | omega) ?_ | refine wK (by omega) (by omega) ?_); conv => whnf)
      refine ret_of rfl ?_
      show D.tup [.agg [.lst ((l.map encI).set _ (encI (p, f)))], .int .i64 0] = _
      rw [set_enc]; rfl
    · rw [if_neg (by simp [h4])] at hD
      refine callX_pure (behind_ok (((homeN p + d) % 16 : Nat) : Int) (by omega) (by omega)) ?_
      conv => whnf
      repeat ((first | refine bF ?_ | refine bT ?_ | refine dK (by kernel_rfl) ?_ | refine cK rfl ?_ | refine cK (by first | decide | omega) ?_ | refine wK (by omega) (by omega) ?_); conv => whnf)
      exact ⟨d + 1, ⟨by omega, hD⟩, by omega, le0 (le_of_cov ⟨rfl, rfl, rfl, rfl, by
        show _ = AV.d (.int .i64 (((homeN p + (d + 1)) % 16 : Nat) : Int))
        rw [show (((homeN p + (d + 1)) % 16 : Nat) : Int) = ((((homeN p + d) % 16 : Nat) : Int) + 1) % 16 by omega]; rfl, rfl, trivial⟩ ⟨rfl, rfl, trivial⟩ ⟨rfl, rfl, rfl, rfl⟩)⟩
  · have hd2 : d = 16 := by omega
    subst hd2
    have hput : putS l p f = (l, 7) := by
      simp only [putS, h1, h2, h3, ← hD]; rfl
    rw [hput]
    repeat ((first | refine bF ?_ | refine bT ?_ | refine dK (by kernel_rfl) ?_ | refine cK rfl ?_ | refine cK (by first | decide | omega) ?_ | refine wK (by omega) (by omega) ?_); conv => whnf)
    exact ret_of rfl rfl
end Go.Lk.Tb

namespace Go.Lk.Tb
open Go Go.Proofs Go.RowKit Go.Lk

def delG (l : Slots) (hole i : Nat) : Nat → Slots
  | 0 => l
  | n + 1 => if freeB (at' l ((i + 1) % 16)) = true then l
    else if wayN (homeN (at' l ((i + 1) % 16)).1) hole < wayN (homeN (at' l ((i + 1) % 16)).1) ((i + 1) % 16) then delG ((l.set hole (at' l ((i + 1) % 16))).set ((i + 1) % 16) (0, 0)) ((i + 1) % 16) ((i + 1) % 16) n
    else delG l hole ((i + 1) % 16) n
noncomputable def delS (l : Slots) (p : Int) : Slots × Int :=
  if rightB l = false then (l, 1) else if (placeT l p).2 = false then (l, 3) else (delG (l.set (placeT l p).1.toNat (0, 0)) (placeT l p).1.toNat (placeT l p).1.toNat 15, 0)

theorem way_eq {a b : Nat} (ha : a < 16) (hb : b < 16) : ((b : Int) - (a : Int) + 16) % 16 = ((wayN a b : Nat) : Int) := by simp only [wayN]; omega
theorem placeT_t {l : Slots} {p : Int} (h : (placeT l p).2 = true) : ∃ i : Nat, (placeT l p).1 = i ∧ ∃ h : i < l.length, l[i].1 = p := by
  unfold placeT at h ⊢
  by_cases e : p < 1 ∨ placeG l p 0 < 0
  · rw [if_pos e] at h; cases h
  · rw [if_neg e]
    obtain h4 | ⟨i, h4, h5, h6⟩ := placeG_lt (l := l) (n := p) (k := 0)
    · exact absurd (.inr h4) e
    · exact ⟨i, by simpa using h4, h5, h6⟩
theorem slot_zero : SlotP (0, 0) := .inl rfl

theorem del_ok (l : Slots) (p : Int) (hl : l.length ≤ 1000000) : ACall Tryz.prog 150 [encT l, .int .i64 p] (.tup [encT (delS l p).1, .int .i64 (delS l p).2]) := by
  refine acall_of Tryz.func150 2 rfl (by kernel_rfl) ?_
  conv => whnf
  repeat ((first | refine bF ?_ | refine bT ?_ | refine dK (by kernel_rfl) ?_ | refine cK rfl ?_ | refine cK (by first | decide | omega) ?_ | refine wK (by omega) (by omega) ?_); conv => whnf)
  refine callX_pure (right_ok l hl) ?_
  conv => whnf
  refine bcase_intro (fun h1 => ?_) (fun h1 => ?_) <;> conv => whnf
  · repeat ((first | refine bF ?_ | refine bT ?_ | refine dK (by kernel_rfl) ?_ | refine cK rfl ?_ | refine cK (by first | decide | omega) ?_ | refine wK (by omega) (by omega) ?_); conv => whnf)
    simp at h1
    exact ret_of rfl (by simp [delS, h1]; rfl)
  simp at h1
  repeat ((first | refine bF ?_ | refine bT ?_ | refine dK (by kernel_rfl) ?_ | refine cK rfl ?_ | refine cK (by first | decide | omega) ?_ | refine wK (by omega) (by omega) ?_); conv => whnf)
  refine callX_pure (place_ok l p hl) ?_
  conv => whnf
  refine bcase_intro (fun h3 => ?_) (fun h3 => ?_) <;> conv => whnf
  · repeat ((first | refine bF ?_ | refine bT ?_ | refine dK (by kernel_rfl) ?_ | refine cK rfl ?_ | refine cK (by first | decide | omega) ?_ | refine wK (by omega) (by omega) ?_); conv => whnf)
    simp at h3
    exact ret_of rfl (by simp [delS, h1, h3]; rfl)
  simp at h3
  have hR := rightB_t.1 h1
  have hlen := hR.len
  have hm : (l.map encI).length = l.length := List.length_map ..
  obtain ⟨a, ha, ha2, ha3⟩ := placeT_t h3
  have hdel : delS l p = (delG (l.set a (0, 0)) a a 15, 0) := by simp [delS, h1, h3, ha]
  rw [hdel, ha]
  repeat ((first | refine bF ?_ | refine bT ?_ | refine dK (by kernel_rfl) ?_ | refine cK rfl ?_ | refine cK (by first | decide | omega) ?_ | refine wK (by omega) (by omega) ?_); conv => whnf)
  refine callX_own (clone_ok l hl) ?_
  conv => whnf
  repeat ((first | refine bF ?_ | refine bT ?_ | refine dK (by kernel_rfl) ?_ | refine cK rfl ?_ | refine cK (by first | decide | omega) ?_ | refine wK (by omega) (by omega) ?_); conv => whnf)
  refine idxK_nat (by omega) ?_
  conv => whnf
  refine getRow_of (x := encI l[a]) (by simp [ha2]) ?_
  conv => whnf
  refine aloop (ι := Nat × Slots × Nat × Nat) (fun s => [(4, .ptr 4 0 0), (6, .d (.int .i64 s.2.2.1)), (8, .own 26), (9, .d (.int .i64 s.2.2.2)), (32, .d (.int .i64 s.1))]) (fun s => [(4, .box [.nil] false), (26, .row (s.2.1.map encI) 2 false)])
    (fun s => s.1 ≤ 15 ∧ s.2.1.length = 16 ∧ s.2.2.1 < 16 ∧ s.2.2.2 < 16 ∧ (∀ j, j < 16 → SlotP (at' s.2.1 j)) ∧ delG s.2.1 s.2.2.1 s.2.2.2 (15 - s.1) = delG (l.set a (0, 0)) a a 15) (fun s => 15 - s.1) (0, l.set a (0, 0), a, a)
    ⟨Nat.zero_le _, by simp [hlen], by simp only []; omega, by simp only []; omega, fun j hj => ?_, rfl⟩ (le0 (le_of_cov ⟨rfl, rfl, rfl, rfl, rfl, trivial⟩ ⟨rfl, by
      show some (Blk.row ((l.map encI).set a (encI (0, 0))) 2 false) = _; rw [set_enc], trivial⟩ ⟨rfl, rfl, rfl, rfl⟩)) ?_
  · show SlotP (at' (l.set a (0, 0)) j)
    unfold at'
    rw [List.getElem?_set]
    split
    · first | exact slot_zero | (split <;> exact slot_zero)
    · exact hR.slots j hj
  rintro ⟨n, l', h, i⟩ ⟨hn, hlen', hh, hi, hS, hD⟩
  simp only at hn hlen' hh hi hS hD ⊢
  have hm' : (l'.map encI).length = l'.length := List.length_map ..
  conv => whnf
  refine bcase_p (fun hlt => ?_) (fun hlt => ?_) <;> conv => whnf
  · rw [show 15 - n = (15 - (n + 1)) + 1 by omega, delG] at hD
    have hj16 : (i + 1) % 16 < 16 := by omega
    have hj : (i + 1) % 16 < l'.length := by omega
    generalize hij : (i + 1) % 16 = i' at hD hj hj16
    have hcast : ((i : Int) + 1) % 16 = (i' : Int) := by omega
    rw [at_eq hj] at hD
    refine callX_pure (d := .int .i64 (i' : Int)) (by rw [← hcast]; exact behind_ok (i : Int) (by omega) (by omega)) ?_
    conv => whnf
    repeat ((first | refine bF ?_ | refine bT ?_ | refine dK (by kernel_rfl) ?_ | refine cK rfl ?_ | refine cK (by first | decide | omega) ?_ | refine wK (by omega) (by omega) ?_); conv => whnf)
    refine idxK_nat (by omega) ?_
    conv => whnf
    refine getRow_of (x := encI l'[i']) (by simp [hj]) ?_
    conv => whnf
    repeat ((first | refine bF ?_ | refine bT ?_ | refine dK (by kernel_rfl) ?_ | refine cK rfl ?_ | refine cK (by first | decide | omega) ?_ | refine wK (by omega) (by omega) ?_); conv => whnf)
    refine callX_pure (free_ok l'[i']) ?_
    conv => whnf
    refine bcase_intro (fun h4 => ?_) (fun h4 => ?_) <;> conv => whnf
    · rw [if_pos h4] at hD
      rw [← hD]
      repeat ((first | refine bF ?_ | refine bT ?_ | refine dK (by kernel_rfl) ?_ | refine cK rfl ?_ | refine cK (by first | decide | omega) ?_ | refine wK (by omega) (by omega) ?_); conv => whnf)
      exact ret_of rfl rfl
    rw [if_neg (by simp [h4])] at hD
    have hp1 : 1 ≤ l'[i'].1 := by
      rcases hS i' hj16 with h2 | h2
      · rw [at_eq hj, h4] at h2; cases h2
      · rw [at_eq hj] at h2; exact (fits_out.1 h2).1
    have hhm : ((homeN l'[i'].1 : Nat) : Int) = l'[i'].1 % 16 := by simp [homeN]; omega
    have hh16 : homeN l'[i'].1 < 16 := by simp [homeN]; omega
    repeat ((first | refine bF ?_ | refine bT ?_ | refine dK (by kernel_rfl) ?_ | refine cK rfl ?_ | refine cK (by first | decide | omega) ?_ | refine wK (by omega) (by omega) ?_); conv => whnf)
    refine idxK_nat (by omega) ?_
    conv => whnf
    refine getRow_of (x := encI l'[i']) (by simp [hj]) ?_
    conv => whnf
    repeat ((first | refine bF ?_ | refine bT ?_ | refine dK (by kernel_rfl) ?_ | refine cK rfl ?_ | refine cK (by first | decide | omega) ?_ | refine wK (by omega) (by omega) ?_); conv => whnf)
    refine callX_pure (d := .int .i64 ((homeN l'[i'].1 : Nat) : Int)) (by rw [hhm]; exact home_ok l'[i'].1 (by omega)) ?_
    conv => whnf
    repeat ((first | refine bF ?_ | refine bT ?_ | refine dK (by kernel_rfl) ?_ | refine cK rfl ?_ | refine cK (by first | decide | omega) ?_ | refine wK (by omega) (by omega) ?_); conv => whnf)
    refine callX_pure (d := .int .i64 ((wayN (homeN l'[i'].1) h : Nat) : Int)) (by rw [← way_eq hh16 hh]; exact way_ok _ _ (by omega) (by omega) (by omega) (by omega)) ?_
    conv => whnf
    repeat ((first | refine bF ?_ | refine bT ?_ | refine dK (by kernel_rfl) ?_ | refine cK rfl ?_ | refine cK (by first | decide | omega) ?_ | refine wK (by omega) (by omega) ?_); conv => whnf)
    refine callX_pure (d := .int .i64 ((wayN (homeN l'[i'].1) i' : Nat) : Int)) (by rw [← way_eq hh16 hj16]; exact way_ok _ _ (by omega) (by omega) (by omega) (by omega)) ?_
    conv => whnf
    refine bcase_p (fun h5 => ?_) (fun h5 => ?_) <;> conv => whnf
    · rw [if_pos (by omega)] at hD
      repeat ((first | refine bF ?_ | refine bT ?_ | refine dK (by kernel_rfl) ?_ | refine cK rfl ?_ | refine cK (by first | decide | omega) ?_ | refine wK (by omega) (by omega) ?_); conv => whnf)
      refine idxK_nat (by omega) ?_
      conv => whnf
      refine getRow_of (x := encI l'[i']) (by simp [hj]) ?_
      conv => whnf
      repeat ((first | refine bF ?_ | refine bT ?_ | refine dK (by kernel_rfl) ?_ | refine cK rfl ?_ | refine cK (by first | decide | omega) ?_ | refine wK (by omega) (by omega) ?_); conv => whnf)
      refine idxK_nat (by omega) ?_
      conv => whnf
      refine getRow_of (x := encI (at' l' h)) (by simp [at', show h < l'.length by omega]) ?_
      conv => whnf
      repeat ((first | refine bF ?_ | refine bT ?_ | refine dK (by kernel_rfl) ?_ | refine cK rfl ?_ | refine cK (by first | decide | omega) ?_ | refine wK (by omega) (by omega) ?_); conv => whnf)
      refine idxK_nat (by rw [List.length_set]; omega) ?_
      conv => whnf
      refine getRow_of (x := encI (at' (l'.set h l'[i']) i')) ?_ ?_
      · show ((l'.map encI).set h (encI l'[i']))[i']? = _
        rw [set_enc, List.getElem?_map, at', List.getElem?_eq_getElem (by simpa using hj)]; rfl
      conv => whnf
      repeat ((first | refine bF ?_ | refine bT ?_ | refine dK (by kernel_rfl) ?_ | refine cK rfl ?_ | refine cK (by first | decide | omega) ?_ | refine wK (by omega) (by omega) ?_); conv => whnf)
      refine ⟨(n + 1, (l'.set h l'[i']).set i' (0, 0), i', i'), ⟨by simp only []; omega, by simpa using hlen', hj16, hj16, fun j hj' => ?_, hD⟩, by simp only []; omega, le0 (le_of_cov ⟨rfl, rfl, rfl, rfl, rfl, trivial⟩ ⟨rfl, by
        show some (Blk.row (((l'.map encI).set h (encI l'[i'])).set i' (encI (0, 0))) 2 false) = _; rw [set_enc, set_enc], trivial⟩ ⟨rfl, rfl, rfl, rfl⟩)⟩
      unfold at'
      simp only []
      rw [List.getElem?_set]
      split
      · first | exact slot_zero | (split <;> exact slot_zero)
      · rw [List.getElem?_set]
        have h6 := hS i' hj16
        rw [at_eq hj] at h6
        split
        · first | exact h6 | (split; exact h6; exact slot_zero)
        · exact hS j hj'
    · rw [if_neg (by omega)] at hD
      repeat ((first | refine bF ?_ | refine bT ?_ | refine dK (by kernel_rfl) ?_ | refine cK rfl ?_ | refine cK (by first | decide | omega) ?_ | refine wK (by omega) (by omega) ?_); conv => whnf)
      exact ⟨(n + 1, l', h, i'), ⟨by simp only []; omega, hlen', hh, hj16, hS, hD⟩, by simp only []; omega, le0 (le_of_cov ⟨rfl, rfl, rfl, rfl, rfl, trivial⟩ ⟨rfl, rfl, trivial⟩ ⟨rfl, rfl, rfl, rfl⟩)⟩
  · have : n = 15 := by omega
    subst this
    replace hD : l' = delG (l.set a (0, 0)) a a 15 := hD
    rw [← hD]
    repeat ((first | refine bF ?_ | refine bT ?_ | refine dK (by kernel_rfl) ?_ | refine cK rfl ?_ | refine cK (by first | decide | omega) ?_ | refine wK (by omega) (by omega) ?_); conv => whnf)
    exact ret_of rfl rfl
end Go.Lk.Tb

namespace Go.Lk
open Go Go.Proofs Go.RowKit Go.Shelf Go.Sort

/-- the library's sort of ints, as a step on a row of the caller's -/
def sortI (l : List Int) : List Int := l.mergeSort fun x y => decide (x ≤ y)
theorem enc1_flat (zs : List Int) (i : Nat) (d : D) (h : (zs.map enc1)[i]? = some [d]) : ∃ z, zs[i]? = some z ∧ d = .int .i64 z := by
  rw [List.getElem?_map] at h
  cases hz : zs[i]? with
  | none => simp [hz] at h
  | some z =>
    simp [hz, enc1] at h
    exact ⟨z, rfl, h.symm⟩

theorem rowAt_ints {M : Mem} {cs : Array Value} {zs : List Int} (h : RowAt M cs (zs.map enc1) 1) {j : Nat} (hj : j < zs.length) : cs[j]? = some (.int .i64 zs[j]) := by
  obtain ⟨v, hv, hd⟩ := h.den j 0 (enc1 zs[j]) (.int .i64 zs[j]) (by simp [hj]) rfl
  rw [Nat.mul_one, Nat.add_zero] at hv
  cases hd
  exact hv

theorem sort_ecall {P : Program} {ρ : Ren} (Ly : Lays.n189 P ρ) (hok : FnOk P (ρ.f 189)) (hnone : ∀ (p : Option Addr) (cap : Nat) (w : World), Calls P (ρ.f 189) #[.slice p 0 cap] w fun e w' => e = .returned (.tuple #[]) ∧ w' = w)
    {hp : Nat → Option Blk} {b : Nat} {zs : List Int} (hb : hp b = some (.row (zs.map enc1) 1 false)) (hz : zs.length < 4611686018427387904) :
    ECall P (ρ.f 189) [.own b] hp ⟨.tup [], [(b, .row ((sortI zs).map enc1) 1 false)], none⟩ := by
  refine ⟨hok, fun own M ι w vs ho ha hh hvs => ?_⟩
  obtain ⟨v, rfl⟩ : ∃ v, vs = #[v] := by
    have := hvs.1
    simp at this
    exact Array.size_eq_one_iff.1 this
  have hv : DenA M ι (.own b) v := hvs.2 0 _ v rfl rfl
  have hlen : (sortI zs).length = zs.length := List.length_mergeSort ..
  have hne : hp b ≠ none := by rw [hb]; simp
  cases hv with
  | own _ L cap hL hn hc =>
    obtain ⟨ho1, cs, Ty, q1, q2, q3, q4, q5, q6, q7⟩ := hh.at_ b _ L hb hL
    rw [List.length_map] at q4
    have q7' := q7.2 rfl
    have hH : Holds (Value.int .i64) w L.blk 0 zs.toArray := by
      intro j hj
      have hj : j < zs.length := by simpa using hj
      rw [Nat.zero_add]
      refine ⟨?_, ?_⟩
      · rw [cell_of_heap q1, rowAt_ints q6 hj, getElem!_pos zs.toArray j (by simpa using hj)]
        simp
      · simp [World.frozen?, q1]
    have hblk : L.blk < w.heap.size := (Array.getElem?_eq_some_iff.1 q1).1
    rw [← q4]
    refine (Any.slices_Sort_int Ly L.blk 0 cap zs w hH hblk hz).mono fun e w' hq => ?_
    obtain ⟨rfl, n, os, rfl⟩ := hq
    have hsame : ∀ c, c ≠ L.blk → c < w.heap.size → (grow (putRow (Value.int .i64) (Sort.ahead w n) L.blk 0 (sortI zs).toArray) os).heap[c]? = w.heap[c]? := by
      intro c hc hlt
      simp only [grow, putRow, mapBlock, Sort.ahead]
      rw [Array.getElem?_append_left (by simpa using hlt), Array.getElem?_modify, if_neg (fun e => hc e.symm)]
    have hat : (grow (putRow (Value.int .i64) (Sort.ahead w n) L.blk 0 (sortI zs).toArray) os).heap[L.blk]? = some (.cells (putCells (Value.int .i64) 0 (sortI zs).toArray cs) Ty (0, 0)) := by
      simp only [grow, putRow, mapBlock, Sort.ahead]
      rw [Array.getElem?_append_left (by simpa using hblk), Array.getElem?_modify, if_pos rfl, q1]
      rfl
    refine ⟨_, M, ι, rfl, ⟨rfl, rfl, rfl, by simp [grow, putRow, mapBlock, Sort.ahead], fun c hc => ?_⟩, .refl M, ?_, .refl _ _, ?_, fun _ _ => rfl, .tup [] #[] rfl fun i x v h => by simp at h⟩
    · by_cases hlt : c < w.heap.size
      · exact hsame c (fun e => hc (e ▸ ho1)) hlt
      · exact absurd (ho c (by omega)) hc
    · intro b' o v hM
      have hne' : b' ≠ L.blk := fun e => by rw [e, q7' o] at hM; cases hM
      have := ha b' o v hM
      unfold World.cell? at this ⊢
      have hlt : b' < w.heap.size := by
        cases hx : w.heap[b']? with
        | none => rw [hx] at this; simp at this
        | some x => exact (Array.getElem?_eq_some_iff.1 hx).1
      rw [show (zs.mergeSort fun x y => decide (x ≤ y)) = sortI zs from rfl, hsame b' hne' hlt]
      exact this
    · refine hh.set b _ hne (.refl M) (fun e => by rw [hL] at e; cases e) (fun L' hL' => ?_) (fun b' L' hbb hL' => ?_)
      · rw [hL] at hL'
        cases hL'
        refine ⟨_, Ty, hat, by simp [putCells, q2], q3, by simp [hlen, q4], by simpa [hlen] using q5, ⟨fun i e h => ?_, fun i j e d h1 h2 => ?_⟩, fun h => (by cases h), fun _ => q7'⟩
        · rw [List.getElem?_map] at h
          cases hx : (sortI zs)[i]? with
          | none => simp [hx] at h
          | some x => simp [hx] at h; subst h; rfl
        · rw [List.getElem?_map] at h1
          cases hx : (sortI zs)[i]? with
          | none => simp [hx] at h1
          | some x =>
            simp [hx] at h1
            subst h1
            cases j with
            | succ j => simp [enc1] at h2
            | zero =>
              simp [enc1] at h2
              subst h2
              obtain ⟨hi, hx'⟩ := List.getElem?_eq_some_iff.1 hx
              have hics : i < cs.size := by
                have : zs.length * 1 ≤ L.size := by simpa using q5
                omega
              refine ⟨.int .i64 x, ?_, .int _ _⟩
              rw [Nat.mul_one, Nat.add_zero]
              simp only [putCells, Array.getElem?_mapIdx]
              rw [Array.getElem?_eq_getElem hics]
              simp only [Option.map_some, Option.some.injEq]
              rw [if_pos ⟨Nat.zero_le _, by simpa using hi⟩, Nat.sub_zero, getElem!_pos (sortI zs).toArray i (by simpa using hi)]
              simp [hx']
      · have hne' : L'.blk ≠ L.blk := fun e => hbb (hh.inj b' b L' L hL' hL e)
        have hlt := hh.lt hL'
        exact ⟨hsame _ hne' hlt, fun B' hB' hfr o => hh.closed hL' B' hB' hfr o⟩
  | ownE _ a0 hL =>
    obtain ⟨sz2, fr2, e0⟩ := hh.virt b hL
    rw [hb] at e0
    have hzs : zs = [] := by
      cases zs with
      | nil => rfl
      | cons z r => cases e0
    subst hzs
    refine (hnone a0 0 w).mono fun e w' hq => ?_
    obtain ⟨rfl, rfl⟩ := hq
    refine ⟨_, M, ι, rfl, .refl _ _, .refl M, ha, .refl _ _, ?_, fun _ _ => rfl, .tup [] #[] rfl fun i x v h => by simp at h⟩
    have : (⟨.tup [], [(b, .row ((sortI []).map enc1) 1 false)], none⟩ : Eff).hp hp = hp := by
      rw [show sortI [] = [] by simp [sortI]]
      show upd hp b (some (.row [] 1 false)) = hp
      funext c
      by_cases e : c = b
      · subst e; rw [upd_same, hb]; rfl
      · rw [upd_other _ _ e]
    rw [this]; exact hh
  | ownL _ _ hL => exact absurd ((hh.dom b).2 hL) hne
end Go.Lk

namespace Go.Lk
open Go Go.Proofs Go.Shelf
def sortRen : Ren :=
{
  f := fun x =>
    match x with
    | 189 => 104
    | 125 => 136
    | 257 => 135
    | 128 => 166
    | 129 => 167
    | 294 => 157
    | 295 => 158
    | 296 => 159
    | 297 => 160
    | 298 => 161
    | 299 => 162
    | 216 => 163
    | 300 => 164
    | 301 => 165
    | 328 => 173
    | 329 => 174
    | 330 => 175
    | 331 => 176
    | 332 => 177
    | 215 => 178
    | 343 => 181
    | n => n,
  t := fun x =>
    match x with
    | 28 => 86
    | 3 => 3
    | 46 => 175
    | 0 => 0
    | 51 => 210
    | 53 => 213
    | 4 => 4
    | 183 => 232
    | 182 => 231
    | 131 => 130
    | 5 => 5
    | 9 => 9
    | 218 => 246
    | 222 => 250
    | 228 => 254
    | 229 => 255
    | n => n,
  g := fun x =>
    x }

theorem sortLays : Lays.n189 Tryz.prog sortRen :=
{ mixed := by kernel_rfl,
  f125 :=
    Eq.trans Tryz.func136 (congrArg some (by kernel_rfl)),
  f128 :=
    Eq.trans Tryz.func166 (congrArg some (by kernel_rfl)),
  f129 :=
    Eq.trans Tryz.func167 (congrArg some (by kernel_rfl)),
  f189 :=
    Eq.trans Tryz.func104 (congrArg some (by kernel_rfl)),
  f215 :=
    Eq.trans Tryz.func178 (congrArg some (by kernel_rfl)),
  f216 :=
    Eq.trans Tryz.func163 (congrArg some (by kernel_rfl)),
  f257 :=
    Eq.trans Tryz.func135 (congrArg some (by kernel_rfl)),
  f294 :=
    Eq.trans Tryz.func157 (congrArg some (by kernel_rfl)),
  f295 :=
    Eq.trans Tryz.func158 (congrArg some (by kernel_rfl)),
  f296 :=
    Eq.trans Tryz.func159 (congrArg some (by kernel_rfl)),
  f297 :=
    Eq.trans Tryz.func160 (congrArg some (by kernel_rfl)),
  f298 :=
    Eq.trans Tryz.func161 (congrArg some (by kernel_rfl)),
  f299 :=
    Eq.trans Tryz.func162 (congrArg some (by kernel_rfl)),
  f300 :=
    Eq.trans Tryz.func164 (congrArg some (by kernel_rfl)),
  f301 :=
    Eq.trans Tryz.func165 (congrArg some (by kernel_rfl)),
  f328 :=
    Eq.trans Tryz.func173 (congrArg some (by kernel_rfl)),
  f329 :=
    Eq.trans Tryz.func174 (congrArg some (by kernel_rfl)),
  f330 :=
    Eq.trans Tryz.func175 (congrArg some (by kernel_rfl)),
  f331 :=
    Eq.trans Tryz.func176 (congrArg some (by kernel_rfl)),
  f332 :=
    Eq.trans Tryz.func177 (congrArg some (by kernel_rfl)),
  f343 :=
    Eq.trans Tryz.func181 (congrArg some (by kernel_rfl)),
  t0 := Tryz.underlying0, a0 := Tryz.isAgg0, z0 := Tryz.sizeOf0,
  v0 := Tryz.zeroValue0, t3 := Tryz.underlying3, a3 := Tryz.isAgg3,
  z3 := Tryz.sizeOf3, v3 := Tryz.zeroValue3, t4 := Tryz.underlying4,
  a4 := Tryz.isAgg4, z4 := Tryz.sizeOf4, v4 := Tryz.zeroValue4,
  t5 := Tryz.underlying5, a5 := Tryz.isAgg5, z5 := Tryz.sizeOf5,
  v5 := Tryz.zeroValue5, t9 := Tryz.underlying9, a9 := Tryz.isAgg9,
  z9 := Tryz.sizeOf9, v9 := Tryz.zeroValue9, t28 := Tryz.underlying86,
  a28 := Tryz.isAgg86, z28 := Tryz.sizeOf86, v28 := Tryz.zeroValue86,
  t46 := Tryz.underlying175, a46 := Tryz.isAgg175, z46 := Tryz.sizeOf175,
  v46 := Tryz.zeroValue175, t51 := Tryz.underlying210, a51 := Tryz.isAgg210,
  z51 := Tryz.sizeOf210, v51 := Tryz.zeroValue210, t53 := Tryz.underlying213,
  a53 := Tryz.isAgg213, z53 := Tryz.sizeOf213, v53 := Tryz.zeroValue213,
  t131 := Tryz.underlying130, a131 := Tryz.isAgg130, z131 := Tryz.sizeOf130,
  v131 := Tryz.zeroValue130, t182 := Tryz.underlying231, a182 := Tryz.isAgg231,
  z182 := Tryz.sizeOf231, v182 := Tryz.zeroValue231, t183 := Tryz.underlying232,
  a183 := Tryz.isAgg232, z183 := Tryz.sizeOf232, v183 := Tryz.zeroValue232,
  t218 := Tryz.underlying246, a218 := Tryz.isAgg246, z218 := Tryz.sizeOf246,
  v218 := Tryz.zeroValue246, t222 := Tryz.underlying250, a222 := Tryz.isAgg250,
  z222 := Tryz.sizeOf250, v222 := Tryz.zeroValue250, t228 := Tryz.underlying254,
  a228 := Tryz.isAgg254, z228 := Tryz.sizeOf254, v228 := Tryz.zeroValue254,
  t229 := Tryz.underlying255, a229 := Tryz.isAgg255, z229 := Tryz.sizeOf255,
  v229 := Tryz.zeroValue255 }

theorem sort_ok {hp : Nat → Option Blk} {b : Nat} {zs : List Int} (hb : hp b = some (.row (zs.map enc1) 1 false)) (hz : zs.length < 4611686018427387904) :
    ECall Tryz.prog 104 [.own b] hp ⟨.tup [], [(b, .row ((sortI zs).map enc1) 1 false)], none⟩ :=
  sort_ecall sortLays ⟨Tryz.f104, Tryz.func104, rfl, by kernel_rfl⟩ (fun p cap w => Any.slices_Sort_int_none sortLays p cap w) hb hz
end Go.Lk

namespace Go.Lk.Tb
open Go Go.Proofs Go.RowKit Go.Lk

noncomputable def findS (l : Slots) (p : Int) : Int × Bool := if rightB l = false ∨ (placeT l p).2 = false then (0, false) else ((at' l (placeT l p).1.toNat).2, true)
theorem find_ok (l : Slots) (p : Int) (hl : l.length ≤ 1000000) : ACall Tryz.prog 62 [encT l, .int .i64 p] (.tup [.int .i64 (findS l p).1, .bool (findS l p).2]) := by
  refine acall_of Tryz.func62 2 rfl (by kernel_rfl) ?_
  conv => whnf
  repeat ((first | refine bF ?_ | refine bT ?_ | refine dK (by kernel_rfl) ?_ | refine cK rfl ?_ | refine cK (by first | decide | omega) ?_ | refine wK (by omega) (by omega) ?_); conv => whnf)
  refine callX_pure (right_ok l hl) ?_
  conv => whnf
  refine bcase_intro (fun h1 => ?_) (fun h1 => ?_) <;> conv => whnf
  · repeat ((first | refine bF ?_ | refine bT ?_ | refine dK (by kernel_rfl) ?_ | refine cK rfl ?_ | refine cK (by first | decide | omega) ?_ | refine wK (by omega) (by omega) ?_); conv => whnf)
    simp at h1
    exact ret_of rfl (by simp [findS, h1]; rfl)
  simp at h1
  repeat ((first | refine bF ?_ | refine bT ?_ | refine dK (by kernel_rfl) ?_ | refine cK rfl ?_ | refine cK (by first | decide | omega) ?_ | refine wK (by omega) (by omega) ?_); conv => whnf)
  refine callX_pure (place_ok l p hl) ?_
  conv => whnf
  refine bcase_intro (fun h3 => ?_) (fun h3 => ?_) <;> conv => whnf
  · repeat ((first | refine bF ?_ | refine bT ?_ | refine dK (by kernel_rfl) ?_ | refine cK rfl ?_ | refine cK (by first | decide | omega) ?_ | refine wK (by omega) (by omega) ?_); conv => whnf)
    simp at h3
    exact ret_of rfl (by simp [findS, h3]; rfl)
  simp at h3
  obtain ⟨a, ha, ha2, ha3⟩ := placeT_t h3
  rw [ha]
  repeat ((first | refine bF ?_ | refine bT ?_ | refine dK (by kernel_rfl) ?_ | refine cK rfl ?_ | refine cK (by first | decide | omega) ?_ | refine wK (by omega) (by omega) ?_); conv => whnf)
  refine idxK_nat (by simpa using ha2) ?_
  conv => whnf
  refine getRow_of (x := encI l[a]) (by simp [ha2]) ?_
  conv => whnf
  repeat ((first | refine bF ?_ | refine bT ?_ | refine dK (by kernel_rfl) ?_ | refine cK rfl ?_ | refine cK (by first | decide | omega) ?_ | refine wK (by omega) (by omega) ?_); conv => whnf)
  exact ret_of rfl (by simp [findS, h1, h3, ha, at_eq ha2]; rfl)

def pageF (x : Int × Int) : Option Int := if freeB x = true then none else some x.1
noncomputable def pagesS (l : Slots) : List Int := if rightB l = false then [] else sortI (l.filterMap pageF)
theorem pages_ok (l : Slots) (hl : l.length ≤ 1000000) : ACall Tryz.prog 63 [encT l] (encNs (pagesS l)) := by
  refine acall_of Tryz.func63 1 rfl (by kernel_rfl) ?_
  conv => whnf
  repeat ((first | refine bF ?_ | refine bT ?_ | refine dK (by kernel_rfl) ?_ | refine cK rfl ?_ | refine cK (by first | decide | omega) ?_ | refine wK (by omega) (by omega) ?_); conv => whnf)
  refine callX_pure (right_ok l hl) ?_
  conv => whnf
  refine bcase_intro (fun h1 => ?_) (fun h1 => ?_) <;> conv => whnf
  · repeat ((first | refine bF ?_ | refine bT ?_ | refine dK (by kernel_rfl) ?_ | refine cK rfl ?_ | refine cK (by first | decide | omega) ?_ | refine wK (by omega) (by omega) ?_); conv => whnf)
    simp at h1
    exact ret_of rfl (by simp [pagesS, h1]; rfl)
  simp at h1
  have hlen := (rightB_t.1 h1).len
  have hm : (l.map encI).length = l.length := List.length_map ..
  repeat ((first | refine bF ?_ | refine bT ?_ | refine dK (by kernel_rfl) ?_ | refine cK rfl ?_ | refine cK (by first | decide | omega) ?_ | refine wK (by omega) (by omega) ?_); conv => whnf)
  refine aloop (ι := Nat) (fun k => [(3, .own 23), (10, .d (encIs l)), (11, .d (.int .i64 (l.map encI).length)), (12, .d (.int .i64 k))]) (fun k => [(23, .row (((l.take k).filterMap pageF).map enc1) 1 false)])
    (fun k => k ≤ l.length) (fun k => l.length - k) 0 (Nat.zero_le _) (le1 (.row 3 23 1) ⟨rfl, rfl⟩ (le_of_cov ⟨rfl, rfl, rfl, rfl, trivial⟩ ⟨rfl, trivial⟩ ⟨rfl, rfl, rfl, rfl⟩)) ?_
  intro k hk
  conv => whnf
  refine bcase_p (fun h => ?_) (fun h => ?_) <;> conv => whnf
  · have hk2 : k < l.length := by omega
    refine idxK_nat (by omega) ?_
    conv => whnf
    refine getRow_of (x := encI l[k]) (by simp [hk2]) ?_
    conv => whnf
    repeat ((first | refine bF ?_ | refine bT ?_ | refine dK (by kernel_rfl) ?_ | refine cK rfl ?_ | refine cK (by first | decide | omega) ?_ | refine wK (by omega) (by omega) ?_); conv => whnf)
    refine callX_pure (free_ok l[k]) ?_
    conv => whnf
    refine bcase_intro (fun h2 => ?_) (fun h2 => ?_) <;> conv => whnf
    · repeat ((first | refine bF ?_ | refine bT ?_ | refine dK (by kernel_rfl) ?_ | refine cK rfl ?_ | refine cK (by first | decide | omega) ?_ | refine wK (by omega) (by omega) ?_); conv => whnf)
      simp at h2
      have hl2 := List.length_filterMap_le pageF (l.take k)
      refine roomK_le 100 100 (by show List.length _ + 1 ≤ 100; simp at hl2 ⊢; omega) (by decide) (by decide) (by decide) ?_
      conv => whnf
      repeat ((first | refine bF ?_ | refine bT ?_ | refine dK (by kernel_rfl) ?_ | refine cK rfl ?_ | refine cK (by first | decide | omega) ?_ | refine wK (by omega) (by omega) ?_); conv => whnf)
      exact ⟨k + 1, by omega, by omega, le0 (le_of_cov ⟨rfl, rfl, rfl, rfl, trivial⟩ ⟨by rw [take_snoc hk2, List.filterMap_append, List.map_append]; simp [pageF, h2]; rfl, trivial⟩ ⟨rfl, rfl, rfl, rfl⟩)⟩
    · repeat ((first | refine bF ?_ | refine bT ?_ | refine dK (by kernel_rfl) ?_ | refine cK rfl ?_ | refine cK (by first | decide | omega) ?_ | refine wK (by omega) (by omega) ?_); conv => whnf)
      simp at h2
      exact ⟨k + 1, by omega, by omega, le0 (le_of_cov ⟨rfl, rfl, rfl, rfl, trivial⟩ ⟨by rw [take_snoc hk2, List.filterMap_append, List.map_append]; simp [pageF, h2]; rfl, trivial⟩ ⟨rfl, rfl, rfl, rfl⟩)⟩
  have hl2 := List.length_filterMap_le pageF (l.take k)
  have hk3 : k = l.length := by omega
  refine callX_heap (sort_ok (zs := (l.take k).filterMap pageF) rfl (by simp at hl2; omega)) ?_
  conv => whnf
  refine ret_of rfl ?_
  rw [hk3, List.take_length, oneD1]
  show D.lst _ = encNs _
  simp [pagesS, h1, encNs]

def countG (l : Slots) (p : Int) : Nat := l.countP fun x => x.1 == p
end Go.Lk.Tb

namespace Go.Lk.Tb
open Go Go.RowKit Go.Lk

/-! ### tables, in plain words -/
theorem at_set {l : Slots} {i j : Nat} {x : Int × Int} (hi : i < l.length) : at' (l.set i x) j = if j = i then x else at' l j := by
  unfold at'
  rw [List.getElem?_set]
  by_cases h : i = j
  · subst h; simp [hi]
  · rw [if_neg h, if_neg (fun e => h e.symm)]
theorem homeN_lt {p : Int} (h : 0 ≤ p) : homeN p < 16 := by simp [homeN]; omega
theorem slot_page {x : Int × Int} (h : SlotP x) (hf : freeB x = false) : 1 ≤ x.1 := by
  rcases h with h | h
  · rw [hf] at h; cases h
  · exact (fits_out.1 h).1
theorem fits_nonfree {p f : Int} (h : fitsB p f = true) : freeB (p, f) = false := by
  have := fits_out.1 h
  simp [freeB]; omega

/-- where a slot stands, counted from behind the cut -/
def pos (z j : Nat) : Nat := (j + 15 - z) % 16
def CutAt (l : Slots) (z : Nat) : Prop := z < 16 ∧ ∀ i, i < 16 → freeB (at' l i) = false → pos z (homeN (at' l i).1) ≤ pos z i
def Cut (l : Slots) : Prop := ∃ z, CutAt l z
def Distinct (l : Slots) : Prop := ∀ i j, i < 16 → j < 16 → freeB (at' l i) = false → freeB (at' l j) = false → (at' l i).1 = (at' l j).1 → i = j
theorem RT.distinct {l : Slots} (h : RT l) : Distinct l := by
  intro i j hi hj fi fj e
  rcases Nat.lt_trichotomy i j with h1 | h1 | h1
  · rcases h.places j hj with h2 | ⟨h2, _⟩
    · rw [fj] at h2; cases h2
    · exact absurd e (h2 i h1)
  · exact h1
  · rcases h.places i hi with h2 | ⟨h2, _⟩
    · rw [fi] at h2; cases h2
    · exact absurd e.symm (h2 j h1)
/-- no free slot ahead of a page -/
theorem RT.path {l : Slots} (h : RT l) {i : Nat} (hi : i < 16) (fi : freeB (at' l i) = false) {d : Nat} (hd : d < wayN (homeN (at' l i).1) i) : freeB (at' l ((homeN (at' l i).1 + d) % 16)) = false := by
  rcases h.places i hi with h2 | ⟨_, h2⟩
  · rw [fi] at h2; cases h2
  · exact h2 d hd
theorem RT.mk' {l : Slots} (hl : l.length = 16) (hs : ∀ i, i < 16 → SlotP (at' l i)) (hd : Distinct l) (hp : ∀ i, i < 16 → freeB (at' l i) = false → ∀ d, d < wayN (homeN (at' l i).1) i → freeB (at' l ((homeN (at' l i).1 + d) % 16)) = false) : RT l := by
  refine ⟨hl, hs, fun i hi => ?_⟩
  cases fi : freeB (at' l i) with
  | true => exact .inl fi
  | false =>
    refine .inr ⟨fun j hj e => ?_, hp i hi fi⟩
    have fj : freeB (at' l j) = false := by
      cases fj : freeB (at' l j) with
      | false => rfl
      | true =>
        have h1 := slot_page (hs i hi) fi
        have h2 := free_out.1 fj
        omega
    have := hd j i (by omega) hi fj fi e
    omega
/-- a way is what lies between, where no cut is -/
theorem pos_path {z h i k : Nat} (hz : z < 16) (hh : h < 16) (hi : i < 16) (hk : k < 16) (hle : pos z h ≤ pos z i) : (∃ d, d < wayN h i ∧ (h + d) % 16 = k) ↔ pos z h ≤ pos z k ∧ pos z k < pos z i := by
  simp only [pos, wayN] at *
  constructor
  · rintro ⟨d, h1, h2⟩; omega
  · intro h1
    exact ⟨(k + 16 - h) % 16, by omega, by omega⟩
theorem pos_lt {z j : Nat} : pos z j < 16 := Nat.mod_lt _ (by decide)
theorem pos_inj {z i j : Nat} (hz : z < 16) (hi : i < 16) (hj : j < 16) (h : pos z i = pos z j) : i = j := by simp only [pos] at h; omega
theorem free_cut {l : Slots} (h : RT l) {z : Nat} (hz : z < 16) (fz : freeB (at' l z) = true) : CutAt l z := by
  refine ⟨hz, fun i hi fi => ?_⟩
  have hh := homeN_lt (p := (at' l i).1) (by have := slot_page (h.slots i hi) fi; omega)
  by_cases hle : pos z (homeN (at' l i).1) ≤ pos z i
  · exact hle
  · exfalso
    have hne : i ≠ z := fun e => by subst e; rw [fi] at fz; cases fz
    have := h.path hi fi (d := (z + 16 - homeN (at' l i).1) % 16) (by simp only [pos, wayN] at *; omega)
    rw [show (homeN (at' l i).1 + (z + 16 - homeN (at' l i).1) % 16) % 16 = z by omega, fz] at this
    cases this
theorem RT.of_cut {l : Slots} {z : Nat} (hl : l.length = 16) (hs : ∀ i, i < 16 → SlotP (at' l i)) (hd : Distinct l) (hc : CutAt l z) (hp : ∀ i k, i < 16 → k < 16 → freeB (at' l i) = false → pos z (homeN (at' l i).1) ≤ pos z k → pos z k < pos z i → freeB (at' l k) = false) : RT l := by
  refine .mk' hl hs hd fun i hi fi d hdd => ?_
  have hh := homeN_lt (p := (at' l i).1) (by have := slot_page (hs i hi) fi; omega)
  obtain ⟨h1, h2⟩ := (pos_path hc.1 hh hi (Nat.mod_lt _ (by decide)) (hc.2 i hi fi)).1 ⟨d, hdd, rfl⟩
  exact hp i _ hi (Nat.mod_lt _ (by decide)) fi h1 h2
theorem RT.cut_path {l : Slots} {z i k : Nat} (h : RT l) (hc : CutAt l z) (hi : i < 16) (hk : k < 16) (fi : freeB (at' l i) = false) (h1 : pos z (homeN (at' l i).1) ≤ pos z k) (h2 : pos z k < pos z i) : freeB (at' l k) = false := by
  have hh := homeN_lt (p := (at' l i).1) (by have := slot_page (h.slots i hi) fi; omega)
  obtain ⟨d, h3, h4⟩ := (pos_path hc.1 hh hi hk (hc.2 i hi fi)).2 ⟨h1, h2⟩
  have := h.path hi fi h3
  rw [h4] at this
  exact this

/-! ### what a put leaves -/
theorem ffree_out {l : Slots} {h : Nat} : ∀ {n d i : Nat}, ffree l h d n = some i → ∃ e, e < n ∧ i = (h + (d + e)) % 16 ∧ freeB (at' l i) = true ∧ ∀ e', e' < e → freeB (at' l ((h + (d + e')) % 16)) = false
  | 0, d, i, hf => by cases hf
  | n + 1, d, i, hf => by
    simp only [ffree] at hf
    by_cases e : freeB (at' l ((h + d) % 16)) = true
    · rw [if_pos e] at hf
      cases hf
      exact ⟨0, by omega, rfl, e, fun e' h => by omega⟩
    · rw [if_neg e] at hf
      obtain ⟨e2, h1, h2, h3, h4⟩ := ffree_out hf
      refine ⟨e2 + 1, by omega, by rw [h2]; congr 1; omega, h3, fun e' h5 => ?_⟩
      cases e' with
      | zero => simpa using e
      | succ e' => rw [show h + (d + (e' + 1)) = h + (d + 1 + e') by omega]; exact h4 e' (by omega)
theorem ffree_none {l : Slots} {h : Nat} : ∀ {n d : Nat}, ffree l h d n = none → ∀ e, e < n → freeB (at' l ((h + (d + e)) % 16)) = false
  | 0, d, _, e, he => by omega
  | n + 1, d, hf, e, he => by
    simp only [ffree] at hf
    by_cases e1 : freeB (at' l ((h + d) % 16)) = true
    · rw [if_pos e1] at hf; cases hf
    · rw [if_neg e1] at hf
      cases e with
      | zero => simpa using e1
      | succ e => rw [show h + (d + (e + 1)) = h + (d + 1 + e) by omega]; exact ffree_none hf e (by omega)

theorem put_rt {l : Slots} {p f : Int} {i : Nat} (h : RT l) (hf : fitsB p f = true) (hn : ∀ j, j < 16 → freeB (at' l j) = false → (at' l j).1 ≠ p) (hi : ffree l (homeN p) 0 16 = some i) :
    i < 16 ∧ freeB (at' l i) = true ∧ RT (l.set i (p, f)) ∧ Cut (l.set i (p, f)) := by
  obtain ⟨e, h1, h2, h3, h4⟩ := ffree_out hi
  have hp := fits_out.1 hf
  have hh := homeN_lt (p := p) (by omega)
  have hi16 : i < 16 := by omega
  have hil : i < l.length := by rw [h.len]; exact hi16
  have hc := free_cut h hi16 h3
  have nf := fits_nonfree hf
  have hat : ∀ j, at' (l.set i (p, f)) j = if j = i then (p, f) else at' l j := fun j => at_set hil
  have hcut : CutAt (l.set i (p, f)) i := by
    refine ⟨hi16, fun j hj fj => ?_⟩
    rw [hat] at fj ⊢
    by_cases e1 : j = i
    · subst e1; rw [if_pos rfl]; simp only [pos]; omega
    · rw [if_neg e1] at fj ⊢; exact hc.2 j hj fj
  refine ⟨hi16, h3, ?_, i, hcut⟩
  refine .of_cut (by rw [List.length_set]; exact h.len) (fun j hj => ?_) ?_ hcut ?_
  · rw [hat]
    by_cases e1 : j = i
    · rw [if_pos e1]; exact .inr hf
    · rw [if_neg e1]; exact h.slots j hj
  · intro a b ha hb fa fb e1
    rw [hat] at fa fb
    rw [hat, hat] at e1
    by_cases ea : a = i
    · by_cases eb : b = i
      · rw [ea, eb]
      · rw [if_pos ea, if_neg eb] at e1; rw [if_neg eb] at fb; exact absurd e1.symm (hn b hb fb)
    · by_cases eb : b = i
      · rw [if_neg ea, if_pos eb] at e1; rw [if_neg ea] at fa; exact absurd e1 (hn a ha fa)
      · rw [if_neg ea] at fa; rw [if_neg eb] at fb; rw [if_neg ea, if_neg eb] at e1; exact h.distinct a b ha hb fa fb e1
  · intro j k hj hk fj h5 h6
    rw [hat] at fj h5
    rw [hat]
    by_cases ek : k = i
    · rw [if_pos ek]; exact nf
    · rw [if_neg ek]
      by_cases ej : j = i
      · rw [if_pos ej] at h5
        subst ej
        have := h4 ((k + 16 - homeN p) % 16) (by simp only [pos] at *; omega)
        rw [show (homeN p + (0 + (k + 16 - homeN p) % 16)) % 16 = k by omega] at this
        exact this
      · rw [if_neg ej] at fj h5
        exact h.cut_path hc hj hk fj h5 h6
end Go.Lk.Tb

namespace Go.Lk.Tb
open Go Go.RowKit Go.Lk

def cntS (l : Slots) : Nat := l.countP fun x => !freeB x
theorem cnt_set {l : Slots} {i : Nat} {x : Int × Int} (h : i < l.length) : cntS (l.set i x) + (if freeB (at' l i) = true then 0 else 1) = cntS l + (if freeB x = true then 0 else 1) := by
  have hle : (if (!freeB l[i]) = true then 1 else 0) ≤ cntS l := by
    cases hf : freeB l[i] with
    | true => simp
    | false =>
      have : 0 < cntS l := List.countP_pos_iff.2 ⟨l[i], List.getElem_mem h, by simp [hf]⟩
      simp; omega
  unfold cntS at *
  rw [List.countP_set h, at_eq h]
  generalize l.countP (fun x => !freeB x) = c at hle ⊢
  cases hf : freeB l[i] <;> cases hx : freeB x <;> rw [hf] at hle <;> simp only [Bool.not_true, Bool.not_false, if_true, Bool.false_eq_true, if_false] at hle ⊢ <;> omega
def SameS (l0 l : Slots) : Prop := ∀ x, freeB x = false → ((∃ j, j < 16 ∧ at' l j = x) ↔ ∃ j, j < 16 ∧ at' l0 j = x)

structure DInv (z : Nat) (l0 l : Slots) (hole i : Nat) : Prop where
  len : l.length = 16
  slots : ∀ j, j < 16 → SlotP (at' l j)
  hole16 : hole < 16
  i16 : i < 16
  free : freeB (at' l hole) = true
  dist : Distinct l
  cut : CutAt l z
  ph : pos z hole ≤ pos z i
  paths : ∀ j k, j < 16 → k < 16 → freeB (at' l j) = false → pos z (homeN (at' l j).1) ≤ pos z k → pos z k < pos z j → freeB (at' l k) = true → k = hole ∧ pos z i < pos z j
  same : SameS l0 l
  cnt : cntS l = cntS l0

structure Done (l0 l : Slots) : Prop where
  rt : RT l
  free : ∃ j, j < 16 ∧ freeB (at' l j) = true
  same : SameS l0 l
  cnt : cntS l = cntS l0

theorem DInv.done {z : Nat} {l0 l : Slots} {hole i : Nat} (h : DInv z l0 l hole i) (hp : ∀ j k, j < 16 → k < 16 → freeB (at' l j) = false → pos z (homeN (at' l j).1) ≤ pos z k → pos z k < pos z j → freeB (at' l k) = false) : Done l0 l :=
  ⟨.of_cut h.len h.slots h.dist h.cut hp, ⟨hole, h.hole16, h.free⟩, h.same, h.cnt⟩

theorem delG_still {l : Slots} (h : RT l) {hole : Nat} (h16 : hole < 16) (hf : freeB (at' l hole) = true) : ∀ (n i : Nat), delG l hole i n = l
  | 0, i => rfl
  | n + 1, i => by
    rw [delG]
    by_cases f : freeB (at' l ((i + 1) % 16)) = true
    · rw [if_pos f]
    · have f' : freeB (at' l ((i + 1) % 16)) = false := by simpa using f
      have hi : (i + 1) % 16 < 16 := Nat.mod_lt _ (by decide)
      have hh := homeN_lt (p := (at' l ((i + 1) % 16)).1) (by have := slot_page (h.slots _ hi) f'; omega)
      rw [if_neg f, if_neg, delG_still h h16 hf n]
      intro hw
      have := h.path hi f' hw
      rw [show (homeN (at' l ((i + 1) % 16)).1 + wayN (homeN (at' l ((i + 1) % 16)).1) hole) % 16 = hole by simp only [wayN]; omega, hf] at this
      cases this

theorem delG_done {z : Nat} {l0 : Slots} : ∀ (n : Nat) {l : Slots} {hole i : Nat}, DInv z l0 l hole i → 15 ≤ pos z i + n → Done l0 (delG l hole i n) := by
  intro n
  induction n with
  | zero =>
    intro l hole i h hn
    have h15 : pos z i = 15 := by have := pos_lt (z := z) (j := i); omega
    exact h.done fun j k hj hk fj h1 h2 => by
      cases fk : freeB (at' l k) with
      | false => rfl
      | true =>
        have := (h.paths j k hj hk fj h1 h2 fk).2
        have := pos_lt (z := z) (j := j)
        omega
  | succ n ih =>
    intro l hole i h hn
    have hz := h.cut.1
    have hi := h.i16
    by_cases h15 : pos z i = 15
    · have hd := h.done fun j k hj hk fj h1 h2 => by
        cases fk : freeB (at' l k) with
        | false => rfl
        | true =>
          have := (h.paths j k hj hk fj h1 h2 fk).2
          have := pos_lt (z := z) (j := j)
          omega
      rw [delG_still hd.rt h.hole16 h.free]
      exact hd
    · rw [delG]
      have hi' : (i + 1) % 16 < 16 := Nat.mod_lt _ (by decide)
      have hpi : pos z ((i + 1) % 16) = pos z i + 1 := by simp only [pos] at *; omega
      generalize (i + 1) % 16 = i' at hi' hpi
      have hne : hole ≠ i' := fun e => by have := h.ph; rw [e, hpi] at this; omega
      by_cases f : freeB (at' l i') = true
      · rw [if_pos f]
        refine h.done fun j k hj hk fj h1 h2 => ?_
        cases fk : freeB (at' l k) with
        | false => rfl
        | true =>
          obtain ⟨e1, e2⟩ := h.paths j k hj hk fj h1 h2 fk
          exfalso
          subst e1
          have hji : j ≠ i' := fun e => by subst e; rw [fj] at f; cases f
          have hpj : pos z j ≠ pos z i' := fun e => hji (pos_inj hz hj hi' e)
          have := (h.paths j i' hj hi' fj (by have := h.ph; omega) (by omega) f).1
          exact hne this.symm
      · have f' : freeB (at' l i') = false := by simpa using f
        have hpg := slot_page (h.slots i' hi') f'
        have hh := homeN_lt (p := (at' l i').1) (by omega)
        have hci := h.cut.2 i' hi' f'
        have hway : wayN (homeN (at' l i').1) hole < wayN (homeN (at' l i').1) i' ↔ pos z (homeN (at' l i').1) ≤ pos z hole := by
          have h1 := h.ph
          have h2 := h.hole16
          simp only [pos, wayN] at *
          omega
        rw [if_neg f]
        by_cases hw : wayN (homeN (at' l i').1) hole < wayN (homeN (at' l i').1) i'
        · rw [if_pos hw]
          have hw' := hway.1 hw
          have hhl : hole < l.length := by rw [h.len]; exact h.hole16
          have hil : i' < (l.set hole (at' l i')).length := by rw [List.length_set, h.len]; exact hi'
          have hat : ∀ j, at' ((l.set hole (at' l i')).set i' (0, 0)) j = if j = i' then (0, 0) else if j = hole then at' l i' else at' l j := fun j => by
            rw [at_set hil]
            by_cases e : j = i'
            · rw [if_pos e, if_pos e]
            · rw [if_neg e, if_neg e, at_set hhl]
          refine ih ⟨by simp [h.len], fun j hj => ?_, hi', hi', by rw [hat, if_pos rfl]; rfl, ?_, ⟨hz, fun j hj fj => ?_⟩, Nat.le_refl _, ?_, ?_, ?_⟩ (by omega)
          · rw [hat]
            by_cases e : j = i'
            · rw [if_pos e]; exact slot_zero
            · rw [if_neg e]
              by_cases e2 : j = hole
              · rw [if_pos e2]; exact h.slots i' hi'
              · rw [if_neg e2]; exact h.slots j hj
          · intro a b ha hb fa fb e
            rw [hat] at fa fb
            rw [hat, hat] at e
            by_cases ea : a = i'
            · rw [if_pos ea] at fa; cases fa
            · by_cases eb : b = i'
              · rw [if_pos eb] at fb; cases fb
              · rw [if_neg ea] at fa; rw [if_neg eb] at fb; rw [if_neg ea, if_neg eb] at e
                by_cases ea2 : a = hole
                · by_cases eb2 : b = hole
                  · rw [ea2, eb2]
                  · rw [if_pos ea2, if_neg eb2] at e; rw [if_neg eb2] at fb
                    exact absurd (h.dist i' b hi' hb f' fb e).symm eb
                · by_cases eb2 : b = hole
                  · rw [if_neg ea2, if_pos eb2] at e; rw [if_neg ea2] at fa
                    exact absurd (h.dist a i' ha hi' fa f' e) ea
                  · rw [if_neg ea2] at fa; rw [if_neg eb2] at fb; rw [if_neg ea2, if_neg eb2] at e
                    exact h.dist a b ha hb fa fb e
          · rw [hat] at fj ⊢
            by_cases e : j = i'
            · rw [if_pos e] at fj; cases fj
            · rw [if_neg e] at fj ⊢
              by_cases e2 : j = hole
              · rw [if_pos e2]; rw [e2]; exact hw'
              · rw [if_neg e2] at fj ⊢; exact h.cut.2 j hj fj
          · intro j k hj hk fj h1 h2 fk
            rw [hat] at fj h1 fk
            by_cases e : j = i'
            · rw [if_pos e] at fj; cases fj
            · rw [if_neg e] at fj h1
              by_cases ek : k = i'
              · refine ⟨ek, ?_⟩
                rw [ek] at h2; exact h2
              · rw [if_neg ek] at fk
                by_cases ek2 : k = hole
                · rw [if_pos ek2, f'] at fk; cases fk
                · rw [if_neg ek2] at fk
                  exfalso
                  by_cases e2 : j = hole
                  · rw [if_pos e2] at h1
                    have := (h.paths i' k hi' hk f' h1 (by have := h.ph; rw [e2] at h2; omega) fk).1
                    exact ek2 this
                  · rw [if_neg e2] at fj h1
                    exact ek2 (h.paths j k hj hk fj h1 h2 fk).1
          · intro x hx
            rw [← h.same x hx]
            constructor
            · rintro ⟨j, hj, rfl⟩
              rw [hat] at hx ⊢
              by_cases e : j = i'
              · rw [if_pos e] at hx; cases hx
              · rw [if_neg e] at hx ⊢
                by_cases e2 : j = hole
                · rw [if_pos e2]; exact ⟨i', hi', rfl⟩
                · rw [if_neg e2]; exact ⟨j, hj, rfl⟩
            · rintro ⟨j, hj, rfl⟩
              by_cases e : j = i'
              · exact ⟨hole, h.hole16, by rw [hat, if_neg hne, if_pos rfl, e]⟩
              · have e2 : j ≠ hole := fun e2 => by rw [e2, h.free] at hx; cases hx
                exact ⟨j, hj, by rw [hat, if_neg e, if_neg e2]⟩
          · have c1 := cnt_set (x := at' l i') hhl
            have c2 := cnt_set (x := (0, 0)) hil
            rw [at_set hhl, if_neg hne.symm] at c2
            rw [h.free, f'] at c1
            rw [f', show freeB (0, 0) = true from rfl] at c2
            simp at c1 c2
            have := h.cnt
            omega
        · rw [if_neg hw]
          have hw' : ¬ pos z (homeN (at' l i').1) ≤ pos z hole := fun e => hw (hway.2 e)
          refine ih ⟨h.len, h.slots, h.hole16, hi', h.free, h.dist, h.cut, by have := h.ph; omega, fun j k hj hk fj h1 h2 fk => ?_, h.same, h.cnt⟩ (by omega)
          obtain ⟨e1, e2⟩ := h.paths j k hj hk fj h1 h2 fk
          refine ⟨e1, ?_⟩
          have hji : j ≠ i' := fun e => by subst e; rw [e1] at h1; exact hw' h1
          have hpj : pos z j ≠ pos z i' := fun e => hji (pos_inj hz hj hi' e)
          omega
end Go.Lk.Tb

