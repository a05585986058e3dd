/-
  What is proved here: what functions of the program compute, and what follows; no condition beyond each theorem's own.
-/
import Derived.Test.YtfpmffadpjoogaaGreatBAg
import Derived.Test.YtfpmffadpjoogaaGreatBAf
import Derived.Shelf.Sort.Plain
import Derived.Shelf.Slices.In.SortNone
import Derived.Test.YtfpmffadpjoogaaGreatProg
import Derived.Test.YtfpmffadpjoogaaGreatBAi
set_option linter.unusedSimpArgs false
set_option linter.unusedVariables false
set_option linter.unnecessarySimpa false
set_option linter.unusedSectionVars false
namespace Go.Lk.Tb
open Go Go.Proofs Go.RowKit Go.Lk
abbrev Slots := List (Int × Int)
def encS (x : Int × Int) : D := .agg (encI x)
def encT (l : Slots) : D := .agg [encIs l]
def freeB (x : Int × Int) : Bool := decide (x.1 = 0) && decide (x.2 = 0)
def fitsB (p f : Int) : Bool := decide (1 ≤ p) && (decide (p ≤ 2147483647) && (decide (0 ≤ f) && decide (f ≤ 2147483647)))

theorem free_ok (x : Int × Int) : ACall Tryz.prog 96 [encS x] (.bool (freeB x)) := by
  refine acall_of Tryz.func96 1 rfl (by kernel_rfl) ?_
  conv => whnf
  repeat ((first | refine bF ?_ | refine bT ?_ | refine dK (by kernel_rfl) ?_ | refine cK rfl ?_ | refine cK (by first | decide | omega) ?_ | refine wK (by omega) (by omega) ?_); conv => whnf)
  refine bcase_p (fun h => ?_) (fun h => ?_) <;> conv => whnf
  · repeat ((first | refine bF ?_ | refine bT ?_ | refine dK (by kernel_rfl) ?_ | refine cK rfl ?_ | refine cK (by first | decide | omega) ?_ | refine wK (by omega) (by omega) ?_); conv => whnf)
    exact ret_of rfl (by simp [freeB, h])
  · repeat ((first | refine bF ?_ | refine bT ?_ | refine dK (by kernel_rfl) ?_ | refine cK rfl ?_ | refine cK (by first | decide | omega) ?_ | refine wK (by omega) (by omega) ?_); conv => whnf)
    exact ret_of rfl (by simp [freeB, h])
theorem fits_ok (p f : Int) : ACall Tryz.prog 97 [.int .i64 p, .int .i64 f] (.bool (fitsB p f)) := by
  refine acall_of Tryz.func97 2 rfl (by kernel_rfl) ?_
  conv => whnf
  refine bcase_p (fun h => ?_) (fun h => ?_) <;> conv => whnf
  · refine bcase_p (fun h2 => ?_) (fun h2 => ?_) <;> conv => whnf
    · refine bcase_p (fun h3 => ?_) (fun h3 => ?_) <;> conv => whnf
      · exact ret_of rfl (by simp [fitsB, h, h2, h3])
      · exact ret_of rfl (by simp [fitsB, h, h2, h3])
    · repeat ((first | refine bF ?_ | refine bT ?_ | refine dK (by kernel_rfl) ?_ | refine cK rfl ?_ | refine cK (by first | decide | omega) ?_ | refine wK (by omega) (by omega) ?_); conv => whnf)
      exact ret_of rfl (by simp [fitsB, h, h2])
  · repeat ((first | refine bF ?_ | refine bT ?_ | refine dK (by kernel_rfl) ?_ | refine cK rfl ?_ | refine cK (by first | decide | omega) ?_ | refine wK (by omega) (by omega) ?_); conv => whnf)
    exact ret_of rfl (by simp [fitsB, h])
theorem home_ok (n : Int) (h : 0 ≤ n) : ACall Tryz.prog 98 [.int .i64 n] (.int .i64 (n % 16)) := by
  refine acall_of Tryz.func98 1 rfl (by kernel_rfl) ?_
  conv => whnf
  refine divK_rem (by decide) h ?_
  conv => whnf
  exact ret_of rfl rfl
theorem behind_ok (n : Int) (h : 0 ≤ n) (h1 : n ≤ 100) : ACall Tryz.prog 99 [.int .i64 n] (.int .i64 ((n + 1) % 16)) := by
  refine acall_of Tryz.func99 1 rfl (by kernel_rfl) ?_
  conv => whnf
  repeat ((first | refine bF ?_ | refine bT ?_ | refine dK (by kernel_rfl) ?_ | refine cK rfl ?_ | refine cK (by first | decide | omega) ?_ | refine wK (by omega) (by omega) ?_); conv => whnf)
  refine divK_rem (by decide) (by omega) ?_
  conv => whnf
  exact ret_of rfl rfl
theorem way_ok (a b : Int) (h : 0 ≤ a) (h1 : a ≤ 15) (h2 : 0 ≤ b) (h3 : b ≤ 15) : ACall Tryz.prog 172 [.int .i64 a, .int .i64 b] (.int .i64 ((b - a + 16) % 16)) := by
  refine acall_of Tryz.func172 2 rfl (by kernel_rfl) ?_
  conv => whnf
  repeat ((first | refine bF ?_ | refine bT ?_ | refine dK (by kernel_rfl) ?_ | refine cK rfl ?_ | refine cK (by first | decide | omega) ?_ | refine wK (by omega) (by omega) ?_); conv => whnf)
  refine divK_rem (by decide) (by omega) ?_
  conv => whnf
  exact ret_of rfl rfl

theorem clone_ok (l : Slots) (hl : l.length ≤ 1000000) : OCall Tryz.prog 171 [encIs l] (l.map encI) 2 := by
  refine ocall_of Tryz.func171 1 rfl (by kernel_rfl) ?_
  conv => whnf
  refine nilK_of ?_
  conv => whnf
  intro r hr
  conv => whnf
  refine bcase_intro (fun h => ?_) (fun h => ?_) <;> conv => whnf
  · have := hr h
    exact ⟨2, rfl, .inr ⟨rfl, this⟩⟩
  · repeat ((first | refine bF ?_ | refine bT ?_ | refine dK (by kernel_rfl) ?_ | refine cK rfl ?_ | refine cK (by first | decide | omega) ?_ | refine wK (by omega) (by omega) ?_); conv => whnf)
    refine condK_of (encI_ok l) ?_
    conv => whnf
    refine roomK_le 1000100 100 (by show 0 + List.length _ ≤ 1000100; simp; omega) (by decide) (by decide) (by decide) ?_
    conv => whnf
    exact ⟨2, rfl, .inl ⟨5, rfl, rfl⟩⟩

theorem new_ok : ACall Tryz.prog 94 [] (encT (List.replicate 16 (0, 0))) := by
  refine acall_of Tryz.func94 0 rfl (by kernel_rfl) ?_
  conv => whnf
  repeat ((first | refine bF ?_ | refine bT ?_ | refine dK (by kernel_rfl) ?_ | refine cK rfl ?_ | refine cK (by first | decide | omega) ?_ | refine wK (by omega) (by omega) ?_); conv => whnf)
  refine roomK_le 100 100 (by decide) (by decide) (by decide) (by decide) ?_
  conv => whnf
  repeat ((first | refine bF ?_ | refine bT ?_ | refine dK (by kernel_rfl) ?_ | refine cK rfl ?_ | refine cK (by first | decide | omega) ?_ | refine wK (by omega) (by omega) ?_); conv => whnf)
  exact ret_of rfl rfl

def placeG (l : Slots) (n : Int) (k : Nat) : Int :=
  match l with
  | [] => -1
  | p :: r => if p.1 = n then (k : Int) else placeG r n (k + 1)
def placeT (l : Slots) (p : Int) : Int × Bool := if p < 1 ∨ placeG l p 0 < 0 then (0, false) else (placeG l p 0, true)
theorem place_ok (l : Slots) (n : Int) (hl : l.length ≤ 1000000) : ACall Tryz.prog 103 [encT l, .int .i64 n] (.tup [.int .i64 (placeT l n).1, .bool (placeT l n).2]) := by
  refine acall_of Tryz.func103 2 rfl (by kernel_rfl) ?_
  conv => whnf
  refine bcase_p (fun h0 => ?_) (fun h0 => ?_) <;> conv => whnf
  · exact ret_of rfl (by simp [placeT, h0]; rfl)
  repeat ((first | refine bF ?_ | refine bT ?_ | refine dK (by kernel_rfl) ?_ | refine cK rfl ?_ | refine cK (by first | decide | omega) ?_ | refine wK (by omega) (by omega) ?_); conv => whnf)
  refine aloop (ι := Nat) (fun k => [(1, .d (.int .i64 n)), (11, .d (encIs l)), (12, .d (.int .i64 (l.map encI).length)), (13, .d (.int .i64 k))]) (fun _ => [])
    (fun k => k ≤ l.length ∧ placeG (l.drop k) n k = placeG l n 0) (fun k => l.length - k) 0 ⟨Nat.zero_le _, rfl⟩ (le0 (le_of_cov ⟨rfl, rfl, rfl, rfl, trivial⟩ trivial ⟨rfl, rfl, rfl, rfl⟩)) ?_
  rintro k ⟨hk, hR⟩
  conv => whnf
  refine bcase_p (fun h => ?_) (fun h => ?_) <;> conv => whnf
  · have hk2 : k < l.length := by simpa using h
    refine idxK_nat (by simpa using hk2) ?_
    conv => whnf
    refine getRow_of (x := encI l[k]) (by simp [hk2]) ?_
    conv => whnf
    repeat ((first | refine bF ?_ | refine bT ?_ | refine dK (by kernel_rfl) ?_ | refine cK rfl ?_ | refine cK (by first | decide | omega) ?_ | refine wK (by omega) (by omega) ?_); conv => whnf)
    rw [drop_cons hk2, placeG] at hR
    refine bcase_p (fun h2 => ?_) (fun h2 => ?_) <;> conv => whnf
    · rw [if_pos h2] at hR
      refine ret_of rfl ?_
      have : placeT l n = ((k : Int), true) := by rw [placeT, ← hR, if_neg (by omega)]
      rw [this]; rfl
    · rw [if_neg h2] at hR
      repeat ((first | refine bF ?_ | refine bT ?_ | refine dK (by kernel_rfl) ?_ | refine cK rfl ?_ | refine cK (by first | decide | omega) ?_ | refine wK (by omega) (by omega) ?_); conv => whnf)
      exact ⟨k + 1, ⟨by omega, hR⟩, by omega, le0 (le_of_cov ⟨rfl, rfl, rfl, rfl, trivial⟩ trivial ⟨rfl, rfl, rfl, rfl⟩)⟩
  · have : k = l.length := by simp at h; omega
    subst this
    simp [placeG] at hR
    refine ret_of rfl ?_
    have : placeT l n = (0, false) := by rw [placeT, ← hR, if_pos (by omega)]
    rw [this]; rfl

/-! ### what is a table -/
def at' (l : Slots) (i : Nat) : Int × Int := l[i]?.getD (0, 0)
theorem at_eq {l : Slots} {i : Nat} (h : i < l.length) : at' l i = l[i] := by simp [at', h]
def homeN (p : Int) : Nat := (p % 16).toNat
def wayN (a b : Nat) : Nat := (b + 16 - a) % 16
def SlotP (x : Int × Int) : Prop := freeB x = true ∨ fitsB x.1 x.2 = true
def PlaceP (l : Slots) (i : Nat) : Prop := freeB (at' l i) = true ∨ ((∀ j, j < i → (at' l j).1 ≠ (at' l i).1) ∧ ∀ d, d < wayN (homeN (at' l i).1) i → freeB (at' l ((homeN (at' l i).1 + d) % 16)) = false)
structure RT (l : Slots) : Prop where
  len : l.length = 16
  slots : ∀ i, i < 16 → SlotP (at' l i)
  places : ∀ i, i < 16 → PlaceP l i
open Classical in
noncomputable def rightB (l : Slots) : Bool := decide (RT l)
theorem rightB_t {l : Slots} : rightB l = true ↔ RT l := by simp [rightB]
theorem rightB_f {l : Slots} : rightB l = false ↔ ¬ RT l := by simp [rightB]
theorem fits_out {p f : Int} : fitsB p f = true ↔ 1 ≤ p ∧ p ≤ 2147483647 ∧ 0 ≤ f ∧ f ≤ 2147483647 := by simp [fitsB]
theorem free_out {x : Int × Int} : freeB x = true ↔ x.1 = 0 ∧ x.2 = 0 := by simp [freeB]

theorem right_ok (l : Slots) (hl : l.length ≤ 1000000) : ACall Tryz.prog 59 [encT l] (.bool (rightB l)) := by
  refine acall_of Tryz.func59 1 rfl (by kernel_rfl) ?_
  conv => whnf
  have hm : (l.map encI).length = l.length := List.length_map ..
  repeat ((first | refine bF ?_ | refine bT ?_ | refine dK (by kernel_rfl) ?_ | refine cK rfl ?_ | refine cK (by first | decide | omega) ?_ | refine wK (by omega) (by omega) ?_); conv => whnf)
  refine bcase_n (fun h0 => ?_) (fun h0 => ?_) <;> conv => whnf
  · exact ret_of rfl (congrArg D.bool (rightB_f.2 fun h => h0 (by rw [hm, h.len]; rfl)).symm)
  have hlen : l.length = 16 := by omega
  repeat ((first | refine bF ?_ | refine bT ?_ | refine dK (by kernel_rfl) ?_ | refine cK rfl ?_ | refine cK (by first | decide | omega) ?_ | refine wK (by omega) (by omega) ?_); conv => whnf)
  refine aloop (ι := Nat) (fun k => [(1, .ptr 1 0 0), (15, .d (encIs l)), (16, .d (.int .i64 (l.map encI).length)), (17, .d (.int .i64 k))]) (fun _ => [(1, .box [.d (encIs l)] false)])
    (fun k => k ≤ 16 ∧ ∀ j, j < k → SlotP (at' l j)) (fun k => 16 - k) 0 ⟨Nat.zero_le _, fun j h => absurd h (Nat.not_lt_zero _)⟩ (le0 (le_of_cov ⟨rfl, rfl, rfl, rfl, trivial⟩ ⟨rfl, trivial⟩ ⟨rfl, rfl, rfl, rfl⟩)) ?_
  rintro k ⟨hk, hR⟩
  conv => whnf
  refine bcase_p (fun h => ?_) (fun h => ?_) <;> conv => whnf
  · have hk2 : k < l.length := by omega
    have hat := at_eq hk2
    have hlast (hs : SlotP l[k]) : ∀ j, j < k + 1 → SlotP (at' l j) := fun j hj => (Nat.lt_succ_iff_lt_or_eq.1 hj).elim (hR j) (fun e => by subst e; rw [hat]; exact hs)
    refine idxK_nat (by omega) ?_
    conv => whnf
    refine getRow_of (x := encI l[k]) (by simp [hk2]) ?_
    conv => whnf
    repeat ((first | refine bF ?_ | refine bT ?_ | refine dK (by kernel_rfl) ?_ | refine cK rfl ?_ | refine cK (by first | decide | omega) ?_ | refine wK (by omega) (by omega) ?_); conv => whnf)
    refine callX_pure (free_ok l[k]) ?_
    conv => whnf
    refine bcase_intro (fun h1 => ?_) (fun h1 => ?_) <;> conv => whnf
    · repeat ((first | refine bF ?_ | refine bT ?_ | refine dK (by kernel_rfl) ?_ | refine cK rfl ?_ | refine cK (by first | decide | omega) ?_ | refine wK (by omega) (by omega) ?_); conv => whnf)
      refine callX_pure (fits_ok _ _) ?_
      conv => whnf
      refine bcase_intro (fun h2 => ?_) (fun h2 => ?_) <;> conv => whnf
      · refine ret_of rfl (congrArg D.bool (rightB_f.2 fun h => ?_).symm)
        have := h.slots k (by omega)
        rw [hat] at this
        simp [SlotP] at this h1 h2
        rw [h1, h2] at this
        simp at this
      · repeat ((first | refine bF ?_ | refine bT ?_ | refine dK (by kernel_rfl) ?_ | refine cK rfl ?_ | refine cK (by first | decide | omega) ?_ | refine wK (by omega) (by omega) ?_); conv => whnf)
        simp at h2
        exact ⟨k + 1, ⟨by omega, hlast (.inr h2)⟩, by omega, le0 (le_of_cov ⟨rfl, rfl, rfl, rfl, trivial⟩ ⟨rfl, trivial⟩ ⟨rfl, rfl, rfl, rfl⟩)⟩
    · repeat ((first | refine bF ?_ | refine bT ?_ | refine dK (by kernel_rfl) ?_ | refine cK rfl ?_ | refine cK (by first | decide | omega) ?_ | refine wK (by omega) (by omega) ?_); conv => whnf)
      simp at h1
      exact ⟨k + 1, ⟨by omega, hlast (.inl h1)⟩, by omega, le0 (le_of_cov ⟨rfl, rfl, rfl, rfl, trivial⟩ ⟨rfl, trivial⟩ ⟨rfl, rfl, rfl, rfl⟩)⟩
  have hS : ∀ j, j < 16 → SlotP (at' l j) := fun j hj => hR j (by omega)
  clear hR hk h
  repeat ((first | refine bF ?_ | refine bT ?_ | refine dK (by kernel_rfl) ?_ | refine cK rfl ?_ | refine cK (by first | decide | omega) ?_ | refine wK (by omega) (by omega) ?_); conv => whnf)
  refine aloop (ι := Nat) (fun k => [(1, .ptr 1 0 0), (34, .d (encIs l)), (35, .d (.int .i64 (l.map encI).length)), (36, .d (.int .i64 k))]) (fun _ => [(1, .box [.d (encIs l)] false)])
    (fun k => k ≤ 16 ∧ ∀ j, j < k → PlaceP l j) (fun k => 16 - k) 0 ⟨Nat.zero_le _, fun j h => absurd h (Nat.not_lt_zero _)⟩ (le0 (le_of_cov ⟨rfl, rfl, rfl, rfl, trivial⟩ ⟨rfl, trivial⟩ ⟨rfl, rfl, rfl, rfl⟩)) ?_
  rintro k ⟨hk, hR⟩
  conv => whnf
  refine bcase_p (fun h => ?_) (fun h => ?_) <;> conv => whnf
  · have hk2 : k < l.length := by omega
    have hat := at_eq hk2
    have hlast (hs : PlaceP l k) : ∀ j, j < k + 1 → PlaceP l j := fun j hj => (Nat.lt_succ_iff_lt_or_eq.1 hj).elim (hR j) (fun e => by subst e; exact hs)
    have hsl := hS k (by omega)
    refine idxK_nat (by omega) ?_
    conv => whnf
    refine getRow_of (x := encI l[k]) (by simp [hk2]) ?_
    conv => whnf
    repeat ((first | refine bF ?_ | refine bT ?_ | refine dK (by kernel_rfl) ?_ | refine cK rfl ?_ | refine cK (by first | decide | omega) ?_ | refine wK (by omega) (by omega) ?_); conv => whnf)
    refine callX_pure (free_ok l[k]) ?_
    conv => whnf
    refine bcase_intro (fun h1 => ?_) (fun h1 => ?_) <;> conv => whnf
    · repeat ((first | refine bF ?_ | refine bT ?_ | refine dK (by kernel_rfl) ?_ | refine cK rfl ?_ | refine cK (by first | decide | omega) ?_ | refine wK (by omega) (by omega) ?_); conv => whnf)
      exact ⟨k + 1, ⟨by omega, hlast (.inl (by rw [hat]; exact h1))⟩, by omega, le0 (le_of_cov ⟨rfl, rfl, rfl, rfl, trivial⟩ ⟨rfl, trivial⟩ ⟨rfl, rfl, rfl, rfl⟩)⟩
    have hfit : 1 ≤ l[k].1 := by
      rcases hsl with h2 | h2
      · rw [hat, h1] at h2; cases h2
      · rw [hat] at h2; exact (fits_out.1 h2).1
    repeat ((first | refine bF ?_ | refine bT ?_ | refine dK (by kernel_rfl) ?_ | refine cK rfl ?_ | refine cK (by first | decide | omega) ?_ | refine wK (by omega) (by omega) ?_); conv => whnf)
    refine condK_of (fun e he => encI_len he) ?_
    conv => whnf
    refine sliceK_hi (by omega) ?_
    conv => whnf
    repeat ((first | refine bF ?_ | refine bT ?_ | refine dK (by kernel_rfl) ?_ | refine cK rfl ?_ | refine cK (by first | decide | omega) ?_ | refine wK (by omega) (by omega) ?_); conv => whnf)
    have hlt : (List.drop 0 (List.take k (l.map encI))).length = k := by simp; omega
    refine aloop (ι := Nat) (fun q => [(1, .ptr 1 0 0), (5, .d (.int .i64 k)), (6, .ptr 6 0 0), (34, .d (encIs l)), (35, .d (.int .i64 (l.map encI).length)), (36, .d (.int .i64 k)), (46, .d (.lst (List.drop 0 (List.take k (l.map encI))))), (47, .d (.int .i64 (List.drop 0 (List.take k (l.map encI))).length)), (48, .d (.int .i64 q))]) (fun _ => [(1, .box [.d (encIs l)] false), (6, .box [.d (.int .i64 l[k].1), .d (.int .i64 l[k].2)] false)])
      (fun q => q ≤ k ∧ ∀ j, j < q → (at' l j).1 ≠ (at' l k).1) (fun q => k - q) 0 ⟨Nat.zero_le _, fun j h => absurd h (Nat.not_lt_zero _)⟩ (le0 (le_of_cov ⟨rfl, rfl, rfl, rfl, rfl, rfl, rfl, rfl, rfl, trivial⟩ ⟨rfl, rfl, trivial⟩ ⟨rfl, rfl, rfl, rfl⟩)) ?_
    rintro q ⟨hq, hQ⟩
    conv => whnf
    refine bcase_p (fun h2 => ?_) (fun h2 => ?_) <;> conv => whnf
    · have hq2 : q < k := by omega
      have hq3 : q < l.length := by omega
      refine idxK_nat (by omega) ?_
      conv => whnf
      refine getRow_of (x := encI l[q]) (by rw [List.drop_zero, List.getElem?_take_of_lt hq2, List.getElem?_map, List.getElem?_eq_getElem hq3]; rfl) ?_
      conv => whnf
      repeat ((first | refine bF ?_ | refine bT ?_ | refine dK (by kernel_rfl) ?_ | refine cK rfl ?_ | refine cK (by first | decide | omega) ?_ | refine wK (by omega) (by omega) ?_); conv => whnf)
      refine bcase_p (fun h3 => ?_) (fun h3 => ?_) <;> conv => whnf
      · refine ret_of rfl (congrArg D.bool (rightB_f.2 fun h => ?_).symm)
        rcases h.places k (by omega) with h4 | ⟨h4, _⟩
        · rw [hat, h1] at h4; cases h4
        · exact h4 q hq2 (by rw [at_eq hq3, hat, h3])
      · repeat ((first | refine bF ?_ | refine bT ?_ | refine dK (by kernel_rfl) ?_ | refine cK rfl ?_ | refine cK (by first | decide | omega) ?_ | refine wK (by omega) (by omega) ?_); conv => whnf)
        exact ⟨q + 1, ⟨by omega, fun j hj => (Nat.lt_succ_iff_lt_or_eq.1 hj).elim (hQ j) (fun e => by subst e; rw [at_eq hq3, hat]; exact h3)⟩, by omega, le0 (le_of_cov ⟨rfl, rfl, rfl, rfl, rfl, rfl, rfl, rfl, rfl, trivial⟩ ⟨rfl, rfl, trivial⟩ ⟨rfl, rfl, rfl, rfl⟩)⟩
    have hQk : ∀ j, j < k → (at' l j).1 ≠ (at' l k).1 := fun j hj => hQ j (by omega)
    clear hQ hq h2
    repeat ((first | refine bF ?_ | refine bT ?_ | refine dK (by kernel_rfl) ?_ | refine cK rfl ?_ | refine cK (by first | decide | omega) ?_ | refine wK (by omega) (by omega) ?_); conv => whnf)
    refine callX_pure (home_ok l[k].1 (by omega)) ?_
    conv => whnf
    have hhm : ((homeN l[k].1 : Nat) : Int) = l[k].1 % 16 := by simp [homeN]; omega
    have hh16 : homeN l[k].1 < 16 := by simp [homeN]; omega
    refine aloop (ι := Nat) (fun d => [(1, .ptr 1 0 0), (5, .d (.int .i64 k)), (9, .d (.int .i64 (((homeN l[k].1 + d) % 16 : Nat) : Int))), (34, .d (encIs l)), (35, .d (.int .i64 (l.map encI).length)), (36, .d (.int .i64 k))]) (fun _ => [(1, .box [.d (encIs l)] false)])
      (fun d => d ≤ wayN (homeN l[k].1) k ∧ ∀ d', d' < d → freeB (at' l ((homeN l[k].1 + d') % 16)) = false) (fun d => 16 - d) 0 ⟨Nat.zero_le _, fun j h => absurd h (Nat.not_lt_zero _)⟩ (le0 (le_of_cov ⟨rfl, rfl, by
        show _ = AV.d (.int .i64 (((homeN l[k].1 + 0) % 16 : Nat) : Int)); rw [show (((homeN l[k].1 + 0) % 16 : Nat) : Int) = l[k].1 % 16 by omega]; rfl, rfl, rfl, rfl, trivial⟩ ⟨rfl, trivial⟩ ⟨rfl, rfl, rfl, rfl⟩)) ?_
    rintro d ⟨hd, hD⟩
    conv => whnf
    have hw16 : wayN (homeN l[k].1) k < 16 := by simp [wayN]; omega
    refine bcase_n (fun h2 => ?_) (fun h2 => ?_) <;> conv => whnf
    · have hd2 : d < wayN (homeN l[k].1) k := by
        by_cases e : d = wayN (homeN l[k].1) k
        · exfalso; apply h2; rw [e]; simp only [wayN]; omega
        · omega
      have hj : (homeN l[k].1 + d) % 16 < l.length := by omega
      repeat ((first | refine bF ?_ | refine bT ?_ | refine dK (by kernel_rfl) ?_ | refine cK rfl ?_ | refine cK (by first | decide | omega) ?_ | refine wK (by omega) (by omega) ?_); conv => whnf)
      refine idxK_nat (by omega) ?_
      conv => whnf
      refine getRow_of (x := encI l[(homeN l[k].1 + d) % 16]) (by simp [hj]) ?_
      conv => whnf
      repeat ((first | refine bF ?_ | refine bT ?_ | refine dK (by kernel_rfl) ?_ | refine cK rfl ?_ | refine cK (by first | decide | omega) ?_ | refine wK (by omega) (by omega) ?_); conv => whnf)
      refine callX_pure (free_ok l[(homeN l[k].1 + d) % 16]) ?_
      conv => whnf
      refine bcase_intro (fun h3 => ?_) (fun h3 => ?_) <;> conv => whnf
      · refine ret_of rfl (congrArg D.bool (rightB_f.2 fun h => ?_).symm)
        rcases h.places k (by omega) with h4 | ⟨_, h4⟩
        · rw [hat, h1] at h4; cases h4
        · rw [hat] at h4
          have := h4 d hd2
          rw [at_eq hj, h3] at this
          cases this
      · refine callX_pure (behind_ok (((homeN l[k].1 + d) % 16 : Nat) : Int) (by omega) (by omega)) ?_
        conv => whnf
        exact ⟨d + 1, ⟨by omega, fun j hj' => (Nat.lt_succ_iff_lt_or_eq.1 hj').elim (hD j) (fun e => by subst e; rw [at_eq hj]; exact h3)⟩, by omega, le0 (le_of_cov ⟨rfl, rfl, by
          show _ = AV.d (.int .i64 (((homeN l[k].1 + (d + 1)) % 16 : Nat) : Int))
          rw [show (((homeN l[k].1 + (d + 1)) % 16 : Nat) : Int) = ((((homeN l[k].1 + d) % 16 : Nat) : Int) + 1) % 16 by omega]; rfl, rfl, rfl, rfl, trivial⟩ ⟨rfl, trivial⟩ ⟨rfl, rfl, rfl, rfl⟩)⟩
    · have hd3 : d = wayN (homeN l[k].1) k := by simp only [wayN] at hd hw16 ⊢; omega
      repeat ((first | refine bF ?_ | refine bT ?_ | refine dK (by kernel_rfl) ?_ | refine cK rfl ?_ | refine cK (by first | decide | omega) ?_ | refine wK (by omega) (by omega) ?_); conv => whnf)
      refine ⟨k + 1, ⟨by omega, hlast (.inr ⟨hQk, ?_⟩)⟩, by omega, le0 (le_of_cov ⟨rfl, rfl, rfl, rfl, trivial⟩ ⟨rfl, trivial⟩ ⟨rfl, rfl, rfl, rfl⟩)⟩
      rw [hat, ← hd3]; exact hD
  exact ret_of rfl (congrArg D.bool (rightB_t.2 ⟨hlen, hS, fun j hj => hR j (by omega)⟩).symm)
end Go.Lk.Tb

namespace Go.Lk.Tb
open Go Go.Proofs Go.RowKit Go.Lk

theorem placeG_lt {l : Slots} {n : Int} : ∀ {k : Nat}, placeG l n k < 0 ∨ ∃ i : Nat, placeG l n k = ((k + i : Nat) : Int) ∧ ∃ h : i < l.length, l[i].1 = n := by
  induction l with
  | nil => intro k; exact .inl (show (-1 : Int) < 0 by decide)
  | cons p r ih =>
    intro k
    simp only [placeG]
    by_cases h : p.1 = n
    · exact .inr ⟨0, by simp [h], by simp, by simpa using h⟩
    · rw [if_neg h]
      rcases ih (k := k + 1) with h1 | ⟨i, h1, h2, h3⟩
      · exact .inl h1
      · exact .inr ⟨i + 1, by rw [h1]; simp; omega, by simpa using h2, by simpa using h3⟩

def ffree (l : Slots) (h d : Nat) : Nat → Option Nat
  | 0 => none
  | n + 1 => if freeB (at' l ((h + d) % 16)) = true then some ((h + d) % 16) else ffree l h (d + 1) n
noncomputable def putS (l : Slots) (p f : Int) : Slots × Int :=
  if rightB l = false ∨ fitsB p f = false then (l, 1) else if (placeT l p).2 = true then (l, 4) else match ffree l (homeN p) 0 16 with
    | some i => (l.set i (p, f), 0)
    | none => (l, 7)

theorem set_enc (l : Slots) (i : Nat) (x : Int × Int) : (l.map encI).set i (encI x) = (l.set i x).map encI := by rw [List.map_set]

theorem put_ok (l : Slots) (p f : Int) (hl : l.length ≤ 1000000) : ACall Tryz.prog 149 [encT l, .int .i64 p, .int .i64 f] (.tup [encT (putS l p f).1, .int .i64 (putS l p f).2]) := by
  refine acall_of Tryz.func149 3 rfl (by kernel_rfl) ?_
  conv => whnf
  repeat ((first | refine bF ?_ | refine bT ?_ | refine dK (by kernel_rfl) ?_ | refine cK rfl ?_ | refine cK (by first | decide | omega) ?_ | refine wK (by omega) (by omega) ?_); conv => whnf)
  refine callX_pure (right_ok l hl) ?_
  conv => whnf
  refine bcase_intro (fun h1 => ?_) (fun h1 => ?_) <;> conv => whnf
  · repeat ((first | refine bF ?_ | refine bT ?_ | refine dK (by kernel_rfl) ?_ | refine cK rfl ?_ | refine cK (by first | decide | omega) ?_ | refine wK (by omega) (by omega) ?_); conv => whnf)
    simp at h1
    exact ret_of rfl (by simp [putS, h1]; rfl)
  simp at h1
  refine callX_pure (fits_ok p f) ?_
  conv => whnf
  refine bcase_intro (fun h2 => ?_) (fun h2 => ?_) <;> conv => whnf
  · repeat ((first | refine bF ?_ | refine bT ?_ | refine dK (by kernel_rfl) ?_ | refine cK rfl ?_ | refine cK (by first | decide | omega) ?_ | refine wK (by omega) (by omega) ?_); conv => whnf)
    simp at h2
    exact ret_of rfl (by simp [putS, h2]; rfl)
  simp at h2
  repeat ((first | refine bF ?_ | refine bT ?_ | refine dK (by kernel_rfl) ?_ | refine cK rfl ?_ | refine cK (by first | decide | omega) ?_ | refine wK (by omega) (by omega) ?_); conv => whnf)
  refine callX_pure (place_ok l p hl) ?_
  conv => whnf
  refine bcase_intro (fun h3 => ?_) (fun h3 => ?_) <;> conv => whnf
  · repeat ((first | refine bF ?_ | refine bT ?_ | refine dK (by kernel_rfl) ?_ | refine cK rfl ?_ | refine cK (by first | decide | omega) ?_ | refine wK (by omega) (by omega) ?_); conv => whnf)
    exact ret_of rfl (by simp [putS, h1, h2, h3]; rfl)
  have hp := fits_out.1 h2
  have hlen := (rightB_t.1 h1).len
  have hm : (l.map encI).length = l.length := List.length_map ..
  have hhm : ((homeN p : Nat) : Int) = p % 16 := by simp [homeN]; omega
  have hh16 : homeN p < 16 := by simp [homeN]; omega
  refine callX_pure (home_ok p (by omega)) ?_
  conv => whnf
  refine aloop (ι := Nat) (fun d => [(1, .d (.int .i64 p)), (2, .d (.int .i64 f)), (3, .ptr 3 0 0), (6, .ptr 6 0 0), (10, .d (.int .i64 (((homeN p + d) % 16 : Nat) : Int))), (32, .d (.int .i64 d))]) (fun _ => [(3, .box [.d (encIs l)] false), (6, .box [.nil] false)])
    (fun d => d ≤ 16 ∧ ffree l (homeN p) d (16 - d) = ffree l (homeN p) 0 16) (fun d => 16 - d) 0 ⟨Nat.zero_le _, rfl⟩ (le0 (le_of_cov ⟨rfl, rfl, rfl, rfl, by
      show AV.d (.int .i64 (p % 16)) = AV.d (.int .i64 (((homeN p + 0) % 16 : Nat) : Int)); rw [show (((homeN p + 0) % 16 : Nat) : Int) = p % 16 by omega], rfl, trivial⟩ ⟨rfl, rfl, trivial⟩ ⟨rfl, rfl, rfl, rfl⟩)) ?_
  rintro d ⟨hd, hD⟩
  conv => whnf
  refine bcase_p (fun h => ?_) (fun h => ?_) <;> conv => whnf
  · have hj : (homeN p + d) % 16 < l.length := by omega
    rw [show 16 - d = (16 - (d + 1)) + 1 by omega, ffree, at_eq hj] at hD
    repeat ((first | refine bF ?_ | refine bT ?_ | refine dK (by kernel_rfl) ?_ | refine cK rfl ?_ | refine cK (by first | decide | omega) ?_ | refine wK (by omega) (by omega) ?_); conv => whnf)
    refine idxK_nat (by omega) ?_
    conv => whnf
    refine getRow_of (x := encI l[(homeN p + d) % 16]) (by simp [hj]) ?_
    conv => whnf
    repeat ((first | refine bF ?_ | refine bT ?_ | refine dK (by kernel_rfl) ?_ | refine cK rfl ?_ | refine cK (by first | decide | omega) ?_ | refine wK (by omega) (by omega) ?_); conv => whnf)
    refine callX_pure (free_ok l[(homeN p + d) % 16]) ?_
    conv => whnf
    refine bcase_intro (fun h4 => ?_) (fun h4 => ?_) <;> conv => whnf
    · rw [if_pos h4] at hD
      have hput : putS l p f = (l.set ((homeN p + d) % 16) (p, f), 0) := by simp [putS, h1, h2, h3, ← hD]
      rw [hput]
      repeat ((first | refine bF ?_ | refine bT ?_ | refine dK (by kernel_rfl) ?_ | refine cK rfl ?_ | refine cK (by first | decide | omega) ?_ | refine wK (by omega) (by omega) ?_); conv => whnf)
      refine callX_own (clone_ok l hl) ?_
      conv => whnf
      refine idxK_nat (by omega) ?_
      conv => whnf
      refine getRow_of (x := encI l[(homeN p + d) % 16]) (by simp [hj]) ?_
      conv => whnf
      repeat ((first | refine bF ?_ | refine bT ?_ | refine dK (by kernel_rfl) ?_ | refine cK rfl ?_ | refine cK (by first | decide | omega) ?_ | refine wK (by omega) (by omega) ?_); conv => whnf)
      refine ret_of rfl ?_
      show D.tup [.agg [.lst ((l.map encI).set _ (encI (p, f)))], .int .i64 0] = _
      rw [set_enc]; rfl
    · rw [if_neg (by simp [h4])] at hD
      refine callX_pure (behind_ok (((homeN p + d) % 16 : Nat) : Int) (by omega) (by omega)) ?_
      conv => whnf
      repeat ((first | refine bF ?_ | refine bT ?_ | refine dK (by kernel_rfl) ?_ | refine cK rfl ?_ | refine cK (by first | decide | omega) ?_ | refine wK (by omega) (by omega) ?_); conv => whnf)
      exact ⟨d + 1, ⟨by omega, hD⟩, by omega, le0 (le_of_cov ⟨rfl, rfl, rfl, rfl, by
        show _ = AV.d (.int .i64 (((homeN p + (d + 1)) % 16 : Nat) : Int))
        rw [show (((homeN p + (d + 1)) % 16 : Nat) : Int) = ((((homeN p + d) % 16 : Nat) : Int) + 1) % 16 by omega]; rfl, rfl, trivial⟩ ⟨rfl, rfl, trivial⟩ ⟨rfl, rfl, rfl, rfl⟩)⟩
  · have hd2 : d = 16 := by omega
    subst hd2
    have hput : putS l p f = (l, 7) := by
      simp only [putS, h1, h2, h3, ← hD]; rfl
    rw [hput]
    repeat ((first | refine bF ?_ | refine bT ?_ | refine dK (by kernel_rfl) ?_ | refine cK rfl ?_ | refine cK (by first | decide | omega) ?_ | refine wK (by omega) (by omega) ?_); conv => whnf)
    exact ret_of rfl rfl
end Go.Lk.Tb

namespace Go.Lk.Tb
open Go Go.Proofs Go.RowKit Go.Lk

def delG (l : Slots) (hole i : Nat) : Nat → Slots
  | 0 => l
  | n + 1 => if freeB (at' l ((i + 1) % 16)) = true then l
    else if wayN (homeN (at' l ((i + 1) % 16)).1) hole < wayN (homeN (at' l ((i + 1) % 16)).1) ((i + 1) % 16) then delG ((l.set hole (at' l ((i + 1) % 16))).set ((i + 1) % 16) (0, 0)) ((i + 1) % 16) ((i + 1) % 16) n
    else delG l hole ((i + 1) % 16) n
noncomputable def delS (l : Slots) (p : Int) : Slots × Int :=
  if rightB l = false then (l, 1) else if (placeT l p).2 = false then (l, 3) else (delG (l.set (placeT l p).1.toNat (0, 0)) (placeT l p).1.toNat (placeT l p).1.toNat 15, 0)

theorem way_eq {a b : Nat} (ha : a < 16) (hb : b < 16) : ((b : Int) - (a : Int) + 16) % 16 = ((wayN a b : Nat) : Int) := by simp only [wayN]; omega
theorem placeT_t {l : Slots} {p : Int} (h : (placeT l p).2 = true) : ∃ i : Nat, (placeT l p).1 = i ∧ ∃ h : i < l.length, l[i].1 = p := by
  unfold placeT at h ⊢
  by_cases e : p < 1 ∨ placeG l p 0 < 0
  · rw [if_pos e] at h; cases h
  · rw [if_neg e]
    obtain h4 | ⟨i, h4, h5, h6⟩ := placeG_lt (l := l) (n := p) (k := 0)
    · exact absurd (.inr h4) e
    · exact ⟨i, by simpa using h4, h5, h6⟩
theorem slot_zero : SlotP (0, 0) := .inl rfl

theorem del_ok (l : Slots) (p : Int) (hl : l.length ≤ 1000000) : ACall Tryz.prog 150 [encT l, .int .i64 p] (.tup [encT (delS l p).1, .int .i64 (delS l p).2]) := by
  refine acall_of Tryz.func150 2 rfl (by kernel_rfl) ?_
  conv => whnf
  repeat ((first | refine bF ?_ | refine bT ?_ | refine dK (by kernel_rfl) ?_ | refine cK rfl ?_ | refine cK (by first | decide | omega) ?_ | refine wK (by omega) (by omega) ?_); conv => whnf)
  refine callX_pure (right_ok l hl) ?_
  conv => whnf
  refine bcase_intro (fun h1 => ?_) (fun h1 => ?_) <;> conv => whnf
  · repeat ((first | refine bF ?_ | refine bT ?_ | refine dK (by kernel_rfl) ?_ | refine cK rfl ?_ | refine cK (by first | decide | omega) ?_ | refine wK (by omega) (by omega) ?_); conv => whnf)
    simp at h1
    exact ret_of rfl (by simp [delS, h1]; rfl)
  simp at h1
  repeat ((first | refine bF ?_ | refine bT ?_ | refine dK (by kernel_rfl) ?_ | refine cK rfl ?_ | refine cK (by first | decide | omega) ?_ | refine wK (by omega) (by omega) ?_); conv => whnf)
  refine callX_pure (place_ok l p hl) ?_
  conv => whnf
  refine bcase_intro (fun h3 => ?_) (fun h3 => ?_) <;> conv => whnf
  · repeat ((first | refine bF ?_ | refine bT ?_ | refine dK (by kernel_rfl) ?_ | refine cK rfl ?_ | refine cK (by first | decide | omega) ?_ | refine wK (by omega) (by omega) ?_); conv => whnf)
    simp at h3
    exact ret_of rfl (by simp [delS, h1, h3]; rfl)
  simp at h3
  have hR := rightB_t.1 h1
  have hlen := hR.len
  have hm : (l.map encI).length = l.length := List.length_map ..
  obtain ⟨a, ha, ha2, ha3⟩ := placeT_t h3
  have hdel : delS l p = (delG (l.set a (0, 0)) a a 15, 0) := by simp [delS, h1, h3, ha]
  rw [hdel, ha]
  repeat ((first | refine bF ?_ | refine bT ?_ | refine dK (by kernel_rfl) ?_ | refine cK rfl ?_ | refine cK (by first | decide | omega) ?_ | refine wK (by omega) (by omega) ?_); conv => whnf)
  refine callX_own (clone_ok l hl) ?_
  conv => whnf
  repeat ((first | refine bF ?_ | refine bT ?_ | refine dK (by kernel_rfl) ?_ | refine cK rfl ?_ | refine cK (by first | decide | omega) ?_ | refine wK (by omega) (by omega) ?_); conv => whnf)
  refine idxK_nat (by omega) ?_
  conv => whnf
  refine getRow_of (x := encI l[a]) (by simp [ha2]) ?_
  conv => whnf
  refine aloop (ι := Nat × Slots × Nat × Nat) (fun s => [(4, .ptr 4 0 0), (6, .d (.int .i64 s.2.2.1)), (8, .own 26), (9, .d (.int .i64 s.2.2.2)), (32, .d (.int .i64 s.1))]) (fun s => [(4, .box [.nil] false), (26, .row (s.2.1.map encI) 2 false)])
    (fun s => s.1 ≤ 15 ∧ s.2.1.length = 16 ∧ s.2.2.1 < 16 ∧ s.2.2.2 < 16 ∧ (∀ j, j < 16 → SlotP (at' s.2.1 j)) ∧ delG s.2.1 s.2.2.1 s.2.2.2 (15 - s.1) = delG (l.set a (0, 0)) a a 15) (fun s => 15 - s.1) (0, l.set a (0, 0), a, a)
    ⟨Nat.zero_le _, by simp [hlen], by simp only []; omega, by simp only []; omega, fun j hj => ?_, rfl⟩ (le0 (le_of_cov ⟨rfl, rfl, rfl, rfl, rfl, trivial⟩ ⟨rfl, by
      show some (Blk.row ((l.map encI).set a (encI (0, 0))) 2 false) = _; rw [set_enc], trivial⟩ ⟨rfl, rfl, rfl, rfl⟩)) ?_
  · show SlotP (at' (l.set a (0, 0)) j)
    unfold at'
    rw [List.getElem?_set]
    split
    · first | exact slot_zero | (split <;> exact slot_zero)
    · exact hR.slots j hj
  rintro ⟨n, l', h, i⟩ ⟨hn, hlen', hh, hi, hS, hD⟩
  simp only at hn hlen' hh hi hS hD ⊢
  have hm' : (l'.map encI).length = l'.length := List.length_map ..
  conv => whnf
  refine bcase_p (fun hlt => ?_) (fun hlt => ?_) <;> conv => whnf
  · rw [show 15 - n = (15 - (n + 1)) + 1 by omega, delG] at hD
    have hj16 : (i + 1) % 16 < 16 := by omega
    have hj : (i + 1) % 16 < l'.length := by omega
    generalize hij : (i + 1) % 16 = i' at hD hj hj16
    have hcast : ((i : Int) + 1) % 16 = (i' : Int) := by omega
    rw [at_eq hj] at hD
    refine callX_pure (d := .int .i64 (i' : Int)) (by rw [← hcast]; exact behind_ok (i : Int) (by omega) (by omega)) ?_
    conv => whnf
    repeat ((first | refine bF ?_ | refine bT ?_ | refine dK (by kernel_rfl) ?_ | refine cK rfl ?_ | refine cK (by first | decide | omega) ?_ | refine wK (by omega) (by omega) ?_); conv => whnf)
    refine idxK_nat (by omega) ?_
    conv => whnf
    refine getRow_of (x := encI l'[i']) (by simp [hj]) ?_
    conv => whnf
    repeat ((first | refine bF ?_ | refine bT ?_ | refine dK (by kernel_rfl) ?_ | refine cK rfl ?_ | refine cK (by first | decide | omega) ?_ | refine wK (by omega) (by omega) ?_); conv => whnf)
    refine callX_pure (free_ok l'[i']) ?_
    conv => whnf
    refine bcase_intro (fun h4 => ?_) (fun h4 => ?_) <;> conv => whnf
    · rw [if_pos h4] at hD
      rw [← hD]
      repeat ((first | refine bF ?_ | refine bT ?_ | refine dK (by kernel_rfl) ?_ | refine cK rfl ?_ | refine cK (by first | decide | omega) ?_ | refine wK (by omega) (by omega) ?_); conv => whnf)
      exact ret_of rfl rfl
    rw [if_neg (by simp [h4])] at hD
    have hp1 : 1 ≤ l'[i'].1 := by
      rcases hS i' hj16 with h2 | h2
      · rw [at_eq hj, h4] at h2; cases h2
      · rw [at_eq hj] at h2; exact (fits_out.1 h2).1
    have hhm : ((homeN l'[i'].1 : Nat) : Int) = l'[i'].1 % 16 := by simp [homeN]; omega
    have hh16 : homeN l'[i'].1 < 16 := by simp [homeN]; omega
    repeat ((first | refine bF ?_ | refine bT ?_ | refine dK (by kernel_rfl) ?_ | refine cK rfl ?_ | refine cK (by first | decide | omega) ?_ | refine wK (by omega) (by omega) ?_); conv => whnf)
    refine idxK_nat (by omega) ?_
    conv => whnf
    refine getRow_of (x := encI l'[i']) (by simp [hj]) ?_
    conv => whnf
    repeat ((first | refine bF ?_ | refine bT ?_ | refine dK (by kernel_rfl) ?_ | refine cK rfl ?_ | refine cK (by first | decide | omega) ?_ | refine wK (by omega) (by omega) ?_); conv => whnf)
    refine callX_pure (d := .int .i64 ((homeN l'[i'].1 : Nat) : Int)) (by rw [hhm]; exact home_ok l'[i'].1 (by omega)) ?_
    conv => whnf
    repeat ((first | refine bF ?_ | refine bT ?_ | refine dK (by kernel_rfl) ?_ | refine cK rfl ?_ | refine cK (by first | decide | omega) ?_ | refine wK (by omega) (by omega) ?_); conv => whnf)
    refine callX_pure (d := .int .i64 ((wayN (homeN l'[i'].1) h : Nat) : Int)) (by rw [← way_eq hh16 hh]; exact way_ok _ _ (by omega) (by omega) (by omega) (by omega)) ?_
    conv => whnf
    repeat ((first | refine bF ?_ | refine bT ?_ | refine dK (by kernel_rfl) ?_ | refine cK rfl ?_ | refine cK (by first | decide | omega) ?_ | refine wK (by omega) (by omega) ?_); conv => whnf)
    refine callX_pure (d := .int .i64 ((wayN (homeN l'[i'].1) i' : Nat) : Int)) (by rw [← way_eq hh16 hj16]; exact way_ok _ _ (by omega) (by omega) (by omega) (by omega)) ?_
    conv => whnf
    refine bcase_p (fun h5 => ?_) (fun h5 => ?_) <;> conv => whnf
    · rw [if_pos (by omega)] at hD
      repeat ((first | refine bF ?_ | refine bT ?_ | refine dK (by kernel_rfl) ?_ | refine cK rfl ?_ | refine cK (by first | decide | omega) ?_ | refine wK (by omega) (by omega) ?_); conv => whnf)
      refine idxK_nat (by omega) ?_
      conv => whnf
      refine getRow_of (x := encI l'[i']) (by simp [hj]) ?_
      conv => whnf
      repeat ((first | refine bF ?_ | refine bT ?_ | refine dK (by kernel_rfl) ?_ | refine cK rfl ?_ | refine cK (by first | decide | omega) ?_ | refine wK (by omega) (by omega) ?_); conv => whnf)
      refine idxK_nat (by omega) ?_
      conv => whnf
      refine getRow_of (x := encI (at' l' h)) (by simp [at', show h < l'.length by omega]) ?_
      conv => whnf
      repeat ((first | refine bF ?_ | refine bT ?_ | refine dK (by kernel_rfl) ?_ | refine cK rfl ?_ | refine cK (by first | decide | omega) ?_ | refine wK (by omega) (by omega) ?_); conv => whnf)
      refine idxK_nat (by rw [List.length_set]; omega) ?_
      conv => whnf
      refine getRow_of (x := encI (at' (l'.set h l'[i']) i')) ?_ ?_
      · show ((l'.map encI).set h (encI l'[i']))[i']? = _
        rw [set_enc, List.getElem?_map, at', List.getElem?_eq_getElem (by simpa using hj)]; rfl
      conv => whnf
      repeat ((first | refine bF ?_ | refine bT ?_ | refine dK (by kernel_rfl) ?_ | refine cK rfl ?_ | refine cK (by first | decide | omega) ?_ | refine wK (by omega) (by omega) ?_); conv => whnf)
      refine ⟨(n + 1, (l'.set h l'[i']).set i' (0, 0), i', i'), ⟨by simp only []; omega, by simpa using hlen', hj16, hj16, fun j hj' => ?_, hD⟩, by simp only []; omega, le0 (le_of_cov ⟨rfl, rfl, rfl, rfl, rfl, trivial⟩ ⟨rfl, by
        show some (Blk.row (((l'.map encI).set h (encI l'[i'])).set i' (encI (0, 0))) 2 false) = _; rw [set_enc, set_enc], trivial⟩ ⟨rfl, rfl, rfl, rfl⟩)⟩
      unfold at'
      simp only []
      rw [List.getElem?_set]
      split
      · first | exact slot_zero | (split <;> exact slot_zero)
      · rw [List.getElem?_set]
        have h6 := hS i' hj16
        rw [at_eq hj] at h6
        split
        · first | exact h6 | (split; exact h6; exact slot_zero)
        · exact hS j hj'
    · rw [if_neg (by omega)] at hD
      repeat ((first | refine bF ?_ | refine bT ?_ | refine dK (by kernel_rfl) ?_ | refine cK rfl ?_ | refine cK (by first | decide | omega) ?_ | refine wK (by omega) (by omega) ?_); conv => whnf)
      exact ⟨(n + 1, l', h, i'), ⟨by simp only []; omega, hlen', hh, hj16, hS, hD⟩, by simp only []; omega, le0 (le_of_cov ⟨rfl, rfl, rfl, rfl, rfl, trivial⟩ ⟨rfl, rfl, trivial⟩ ⟨rfl, rfl, rfl, rfl⟩)⟩
  · have : n = 15 := by omega
    subst this
    replace hD : l' = delG (l.set a (0, 0)) a a 15 := hD
    rw [← hD]
    repeat ((first | refine bF ?_ | refine bT ?_ | refine dK (by kernel_rfl) ?_ | refine cK rfl ?_ | refine cK (by first | decide | omega) ?_ | refine wK (by omega) (by omega) ?_); conv => whnf)
    exact ret_of rfl rfl
end Go.Lk.Tb

namespace Go.Lk
open Go Go.Proofs Go.RowKit Go.Shelf Go.Sort

/-- the library's sort of ints, as a step on a row of the caller's -/
def sortI (l : List Int) : List Int := l.mergeSort fun x y => decide (x ≤ y)
theorem enc1_flat (zs : List Int) (i : Nat) (d : D) (h : (zs.map enc1)[i]? = some [d]) : ∃ z, zs[i]? = some z ∧ d = .int .i64 z := by
  rw [List.getElem?_map] at h
  cases hz : zs[i]? with
  | none => simp [hz] at h
  | some z =>
    simp [hz, enc1] at h
    exact ⟨z, rfl, h.symm⟩

theorem rowAt_ints {M : Mem} {cs : Array Value} {zs : List Int} (h : RowAt M cs (zs.map enc1) 1) {j : Nat} (hj : j < zs.length) : cs[j]? = some (.int .i64 zs[j]) := by
  obtain ⟨v, hv, hd⟩ := h.den j 0 (enc1 zs[j]) (.int .i64 zs[j]) (by simp [hj]) rfl
  rw [Nat.mul_one, Nat.add_zero] at hv
  cases hd
  exact hv

theorem sort_ecall {P : Program} {ρ : Ren} (Ly : Lays.n189 P ρ) (hok : FnOk P (ρ.f 189)) (hnone : ∀ (p : Option Addr) (cap : Nat) (w : World), Calls P (ρ.f 189) #[.slice p 0 cap] w fun e w' => e = .returned (.tuple #[]) ∧ w' = w)
    {hp : Nat → Option Blk} {b : Nat} {zs : List Int} (hb : hp b = some (.row (zs.map enc1) 1 false)) (hz : zs.length < 4611686018427387904) :
    ECall P (ρ.f 189) [.own b] hp ⟨.tup [], [(b, .row ((sortI zs).map enc1) 1 false)], none⟩ := by
  refine ⟨hok, fun own M ι w vs ho ha hh hvs => ?_⟩
  obtain ⟨v, rfl⟩ : ∃ v, vs = #[v] := by
    have := hvs.1
    simp at this
    exact Array.size_eq_one_iff.1 this
  have hv : DenA M ι (.own b) v := hvs.2 0 _ v rfl rfl
  have hlen : (sortI zs).length = zs.length := List.length_mergeSort ..
  have hne : hp b ≠ none := by rw [hb]; simp
  cases hv with
  | own _ L cap hL hn hc =>
    obtain ⟨ho1, cs, Ty, q1, q2, q3, q4, q5, q6, q7⟩ := hh.at_ b _ L hb hL
    rw [List.length_map] at q4
    have q7' := q7.2 rfl
    have hH : Holds (Value.int .i64) w L.blk 0 zs.toArray := by
      intro j hj
      have hj : j < zs.length := by simpa using hj
      rw [Nat.zero_add]
      refine ⟨?_, ?_⟩
      · rw [cell_of_heap q1, rowAt_ints q6 hj, getElem!_pos zs.toArray j (by simpa using hj)]
        simp
      · simp [World.frozen?, q1]
    have hblk : L.blk < w.heap.size := (Array.getElem?_eq_some_iff.1 q1).1
    rw [← q4]
    refine (Any.slices_Sort_int Ly L.blk 0 cap zs w hH hblk hz).mono fun e w' hq => ?_
    obtain ⟨rfl, n, os, rfl⟩ := hq
    have hsame : ∀ c, c ≠ L.blk → c < w.heap.size → (grow (putRow (Value.int .i64) (Sort.ahead w n) L.blk 0 (sortI zs).toArray) os).heap[c]? = w.heap[c]? := by
      intro c hc hlt
      simp only [grow, putRow, mapBlock, Sort.ahead]
      rw [Array.getElem?_append_left (by simpa using hlt), Array.getElem?_modify, if_neg (fun e => hc e.symm)]
    have hat : (grow (putRow (Value.int .i64) (Sort.ahead w n) L.blk 0 (sortI zs).toArray) os).heap[L.blk]? = some (.cells (putCells (Value.int .i64) 0 (sortI zs).toArray cs) Ty (0, 0)) := by
      simp only [grow, putRow, mapBlock, Sort.ahead]
      rw [Array.getElem?_append_left (by simpa using hblk), Array.getElem?_modify, if_pos rfl, q1]
      rfl
    refine ⟨_, M, ι, rfl, ⟨rfl, rfl, rfl, by simp [grow, putRow, mapBlock, Sort.ahead], fun c hc => ?_⟩, .refl M, ?_, .refl _ _, ?_, fun _ _ => rfl, .tup [] #[] rfl fun i x v h => by simp at h⟩
    · by_cases hlt : c < w.heap.size
      · exact hsame c (fun e => hc (e ▸ ho1)) hlt
      · exact absurd (ho c (by omega)) hc
    · intro b' o v hM
      have hne' : b' ≠ L.blk := fun e => by rw [e, q7' o] at hM; cases hM
      have := ha b' o v hM
      unfold World.cell? at this ⊢
      have hlt : b' < w.heap.size := by
        cases hx : w.heap[b']? with
        | none => rw [hx] at this; simp at this
        | some x => exact (Array.getElem?_eq_some_iff.1 hx).1
      rw [show (zs.mergeSort fun x y => decide (x ≤ y)) = sortI zs from rfl, hsame b' hne' hlt]
      exact this
    · refine hh.set b _ hne (.refl M) (fun e => by rw [hL] at e; cases e) (fun L' hL' => ?_) (fun b' L' hbb hL' => ?_)
      · rw [hL] at hL'
        cases hL'
        refine ⟨_, Ty, hat, by simp [putCells, q2], q3, by simp [hlen, q4], by simpa [hlen] using q5, ⟨fun i e h => ?_, fun i j e d h1 h2 => ?_⟩, fun h => (by cases h), fun _ => q7'⟩
        · rw [List.getElem?_map] at h
          cases hx : (sortI zs)[i]? with
          | none => simp [hx] at h
          | some x => simp [hx] at h; subst h; rfl
        · rw [List.getElem?_map] at h1
          cases hx : (sortI zs)[i]? with
          | none => simp [hx] at h1
          | some x =>
            simp [hx] at h1
            subst h1
            cases j with
            | succ j => simp [enc1] at h2
            | zero =>
              simp [enc1] at h2
              subst h2
              obtain ⟨hi, hx'⟩ := List.getElem?_eq_some_iff.1 hx
              have hics : i < cs.size := by
                have : zs.length * 1 ≤ L.size := by simpa using q5
                omega
              refine ⟨.int .i64 x, ?_, .int _ _⟩
              rw [Nat.mul_one, Nat.add_zero]
              simp only [putCells, Array.getElem?_mapIdx]
              rw [Array.getElem?_eq_getElem hics]
              simp only [Option.map_some, Option.some.injEq]
              rw [if_pos ⟨Nat.zero_le _, by simpa using hi⟩, Nat.sub_zero, getElem!_pos (sortI zs).toArray i (by simpa using hi)]
              simp [hx']
      · have hne' : L'.blk ≠ L.blk := fun e => hbb (hh.inj b' b L' L hL' hL e)
        have hlt := hh.lt hL'
        exact ⟨hsame _ hne' hlt, fun B' hB' hfr o => hh.closed hL' B' hB' hfr o⟩
  | ownE _ a0 hL =>
    obtain ⟨sz2, fr2, e0⟩ := hh.virt b hL
    rw [hb] at e0
    have hzs : zs = [] := by
      cases zs with
      | nil => rfl
      | cons z r => cases e0
    subst hzs
    refine (hnone a0 0 w).mono fun e w' hq => ?_
    obtain ⟨rfl, rfl⟩ := hq
    refine ⟨_, M, ι, rfl, .refl _ _, .refl M, ha, .refl _ _, ?_, fun _ _ => rfl, .tup [] #[] rfl fun i x v h => by simp at h⟩
    have : (⟨.tup [], [(b, .row ((sortI []).map enc1) 1 false)], none⟩ : Eff).hp hp = hp := by
      rw [show sortI [] = [] by simp [sortI]]
      show upd hp b (some (.row [] 1 false)) = hp
      funext c
      by_cases e : c = b
      · subst e; rw [upd_same, hb]; rfl
      · rw [upd_other _ _ e]
    rw [this]; exact hh
  | ownL _ _ hL => exact absurd ((hh.dom b).2 hL) hne
end Go.Lk

namespace Go.Lk
open Go Go.Proofs Go.Shelf
def sortRen : Ren :=
{
  f := fun x =>
    match x with
    | 189 => 104
    | 125 => 136
    | 257 => 135
    | 128 => 166
    | 129 => 167
    | 294 => 157
    | 295 => 158
    | 296 => 159
    | 297 => 160
    | 298 => 161
    | 299 => 162
    | 216 => 163
    | 300 => 164
    | 301 => 165
    | 328 => 173
    | 329 => 174
    | 330 => 175
    | 331 => 176
    | 332 => 177
    | 215 => 178
    | 343 => 181
    | n => n,
  t := fun x =>
    match x with
    | 28 => 86
    | 3 => 3
    | 46 => 175
    | 0 => 0
    | 51 => 210
    | 53 => 213
    | 4 => 4
    | 183 => 232
    | 182 => 231
    | 131 => 130
    | 5 => 5
    | 9 => 9
    | 218 => 246
    | 222 => 250
    | 228 => 254
    | 229 => 255
    | n => n,
  g := fun x =>
    x }

theorem sortLays : Lays.n189 Tryz.prog sortRen :=
{ mixed := by kernel_rfl,
  f125 :=
    Eq.trans Tryz.func136 (congrArg some (by kernel_rfl)),
  f128 :=
    Eq.trans Tryz.func166 (congrArg some (by kernel_rfl)),
  f129 :=
    Eq.trans Tryz.func167 (congrArg some (by kernel_rfl)),
  f189 :=
    Eq.trans Tryz.func104 (congrArg some (by kernel_rfl)),
  f215 :=
    Eq.trans Tryz.func178 (congrArg some (by kernel_rfl)),
  f216 :=
    Eq.trans Tryz.func163 (congrArg some (by kernel_rfl)),
  f257 :=
    Eq.trans Tryz.func135 (congrArg some (by kernel_rfl)),
  f294 :=
    Eq.trans Tryz.func157 (congrArg some (by kernel_rfl)),
  f295 :=
    Eq.trans Tryz.func158 (congrArg some (by kernel_rfl)),
  f296 :=
    Eq.trans Tryz.func159 (congrArg some (by kernel_rfl)),
  f297 :=
    Eq.trans Tryz.func160 (congrArg some (by kernel_rfl)),
  f298 :=
    Eq.trans Tryz.func161 (congrArg some (by kernel_rfl)),
  f299 :=
    Eq.trans Tryz.func162 (congrArg some (by kernel_rfl)),
  f300 :=
    Eq.trans Tryz.func164 (congrArg some (by kernel_rfl)),
  f301 :=
    Eq.trans Tryz.func165 (congrArg some (by kernel_rfl)),
  f328 :=
    Eq.trans Tryz.func173 (congrArg some (by kernel_rfl)),
  f329 :=
    Eq.trans Tryz.func174 (congrArg some (by kernel_rfl)),
  f330 :=
    Eq.trans Tryz.func175 (congrArg some (by kernel_rfl)),
  f331 :=
    Eq.trans Tryz.func176 (congrArg some (by kernel_rfl)),
  f332 :=
    Eq.trans Tryz.func177 (congrArg some (by kernel_rfl)),
  f343 :=
    Eq.trans Tryz.func181 (congrArg some (by kernel_rfl)),
  t0 := Tryz.underlying0, a0 := Tryz.isAgg0, z0 := Tryz.sizeOf0,
  v0 := Tryz.zeroValue0, t3 := Tryz.underlying3, a3 := Tryz.isAgg3,
  z3 := Tryz.sizeOf3, v3 := Tryz.zeroValue3, t4 := Tryz.underlying4,
  a4 := Tryz.isAgg4, z4 := Tryz.sizeOf4, v4 := Tryz.zeroValue4,
  t5 := Tryz.underlying5, a5 := Tryz.isAgg5, z5 := Tryz.sizeOf5,
  v5 := Tryz.zeroValue5, t9 := Tryz.underlying9, a9 := Tryz.isAgg9,
  z9 := Tryz.sizeOf9, v9 := Tryz.zeroValue9, t28 := Tryz.underlying86,
  a28 := Tryz.isAgg86, z28 := Tryz.sizeOf86, v28 := Tryz.zeroValue86,
  t46 := Tryz.underlying175, a46 := Tryz.isAgg175, z46 := Tryz.sizeOf175,
  v46 := Tryz.zeroValue175, t51 := Tryz.underlying210, a51 := Tryz.isAgg210,
  z51 := Tryz.sizeOf210, v51 := Tryz.zeroValue210, t53 := Tryz.underlying213,
  a53 := Tryz.isAgg213, z53 := Tryz.sizeOf213, v53 := Tryz.zeroValue213,
  t131 := Tryz.underlying130, a131 := Tryz.isAgg130, z131 := Tryz.sizeOf130,
  v131 := Tryz.zeroValue130, t182 := Tryz.underlying231, a182 := Tryz.isAgg231,
  z182 := Tryz.sizeOf231, v182 := Tryz.zeroValue231, t183 := Tryz.underlying232,
  a183 := Tryz.isAgg232, z183 := Tryz.sizeOf232, v183 := Tryz.zeroValue232,
  t218 := Tryz.underlying246, a218 := Tryz.isAgg246, z218 := Tryz.sizeOf246,
  v218 := Tryz.zeroValue246, t222 := Tryz.underlying250, a222 := Tryz.isAgg250,
  z222 := Tryz.sizeOf250, v222 := Tryz.zeroValue250, t228 := Tryz.underlying254,
  a228 := Tryz.isAgg254, z228 := Tryz.sizeOf254, v228 := Tryz.zeroValue254,
  t229 := Tryz.underlying255, a229 := Tryz.isAgg255, z229 := Tryz.sizeOf255,
  v229 := Tryz.zeroValue255 }

theorem sort_ok {hp : Nat → Option Blk} {b : Nat} {zs : List Int} (hb : hp b = some (.row (zs.map enc1) 1 false)) (hz : zs.length < 4611686018427387904) :
    ECall Tryz.prog 104 [.own b] hp ⟨.tup [], [(b, .row ((sortI zs).map enc1) 1 false)], none⟩ :=
  sort_ecall sortLays ⟨Tryz.f104, Tryz.func104, rfl, by kernel_rfl⟩ (fun p cap w => Any.slices_Sort_int_none sortLays p cap w) hb hz
end Go.Lk

namespace Go.Lk.Tb
open Go Go.Proofs Go.RowKit Go.Lk

noncomputable def findS (l : Slots) (p : Int) : Int × Bool := if rightB l = false ∨ (placeT l p).2 = false then (0, false) else ((at' l (placeT l p).1.toNat).2, true)
theorem find_ok (l : Slots) (p : Int) (hl : l.length ≤ 1000000) : ACall Tryz.prog 62 [encT l, .int .i64 p] (.tup [.int .i64 (findS l p).1, .bool (findS l p).2]) := by
  refine acall_of Tryz.func62 2 rfl (by kernel_rfl) ?_
  conv => whnf
  repeat ((first | refine bF ?_ | refine bT ?_ | refine dK (by kernel_rfl) ?_ | refine cK rfl ?_ | refine cK (by first | decide | omega) ?_ | refine wK (by omega) (by omega) ?_); conv => whnf)
  refine callX_pure (right_ok l hl) ?_
  conv => whnf
  refine bcase_intro (fun h1 => ?_) (fun h1 => ?_) <;> conv => whnf
  · repeat ((first | refine bF ?_ | refine bT ?_ | refine dK (by kernel_rfl) ?_ | refine cK rfl ?_ | refine cK (by first | decide | omega) ?_ | refine wK (by omega) (by omega) ?_); conv => whnf)
    simp at h1
    exact ret_of rfl (by simp [findS, h1]; rfl)
  simp at h1
  repeat ((first | refine bF ?_ | refine bT ?_ | refine dK (by kernel_rfl) ?_ | refine cK rfl ?_ | refine cK (by first | decide | omega) ?_ | refine wK (by omega) (by omega) ?_); conv => whnf)
  refine callX_pure (place_ok l p hl) ?_
  conv => whnf
  refine bcase_intro (fun h3 => ?_) (fun h3 => ?_) <;> conv => whnf
  · repeat ((first | refine bF ?_ | refine bT ?_ | refine dK (by kernel_rfl) ?_ | refine cK rfl ?_ | refine cK (by first | decide | omega) ?_ | refine wK (by omega) (by omega) ?_); conv => whnf)
    simp at h3
    exact ret_of rfl (by simp [findS, h3]; rfl)
  simp at h3
  obtain ⟨a, ha, ha2, ha3⟩ := placeT_t h3
  rw [ha]
  repeat ((first | refine bF ?_ | refine bT ?_ | refine dK (by kernel_rfl) ?_ | refine cK rfl ?_ | refine cK (by first | decide | omega) ?_ | refine wK (by omega) (by omega) ?_); conv => whnf)
  refine idxK_nat (by simpa using ha2) ?_
  conv => whnf
  refine getRow_of (x := encI l[a]) (by simp [ha2]) ?_
  conv => whnf
  repeat ((first | refine bF ?_ | refine bT ?_ | refine dK (by kernel_rfl) ?_ | refine cK rfl ?_ | refine cK (by first | decide | omega) ?_ | refine wK (by omega) (by omega) ?_); conv => whnf)
  exact ret_of rfl (by simp [findS, h1, h3, ha, at_eq ha2]; rfl)

def pageF (x : Int × Int) : Option Int := if freeB x = true then none else some x.1
noncomputable def pagesS (l : Slots) : List Int := if rightB l = false then [] else sortI (l.filterMap pageF)
theorem pages_ok (l : Slots) (hl : l.length ≤ 1000000) : ACall Tryz.prog 63 [encT l] (encNs (pagesS l)) := by
  refine acall_of Tryz.func63 1 rfl (by kernel_rfl) ?_
  conv => whnf
  repeat ((first | refine bF ?_ | refine bT ?_ | refine dK (by kernel_rfl) ?_ | refine cK rfl ?_ | refine cK (by first | decide | omega) ?_ | refine wK (by omega) (by omega) ?_); conv => whnf)
  refine callX_pure (right_ok l hl) ?_
  conv => whnf
  refine bcase_intro (fun h1 => ?_) (fun h1 => ?_) <;> conv => whnf
  · repeat ((first | refine bF ?_ | refine bT ?_ | refine dK (by kernel_rfl) ?_ | refine cK rfl ?_ | refine cK (by first | decide | omega) ?_ | refine wK (by omega) (by omega) ?_); conv => whnf)
    simp at h1
    exact ret_of rfl (by simp [pagesS, h1]; rfl)
  simp at h1
  have hlen := (rightB_t.1 h1).len
  have hm : (l.map encI).length = l.length := List.length_map ..
  repeat ((first | refine bF ?_ | refine bT ?_ | refine dK (by kernel_rfl) ?_ | refine cK rfl ?_ | refine cK (by first | decide | omega) ?_ | refine wK (by omega) (by omega) ?_); conv => whnf)
  refine aloop (ι := Nat) (fun k => [(3, .own 23), (10, .d (encIs l)), (11, .d (.int .i64 (l.map encI).length)), (12, .d (.int .i64 k))]) (fun k => [(23, .row (((l.take k).filterMap pageF).map enc1) 1 false)])
    (fun k => k ≤ l.length) (fun k => l.length - k) 0 (Nat.zero_le _) (le1 (.row 3 23 1) ⟨rfl, rfl⟩ (le_of_cov ⟨rfl, rfl, rfl, rfl, trivial⟩ ⟨rfl, trivial⟩ ⟨rfl, rfl, rfl, rfl⟩)) ?_
  intro k hk
  conv => whnf
  refine bcase_p (fun h => ?_) (fun h => ?_) <;> conv => whnf
  · have hk2 : k < l.length := by omega
    refine idxK_nat (by omega) ?_
    conv => whnf
    refine getRow_of (x := encI l[k]) (by simp [hk2]) ?_
    conv => whnf
    repeat ((first | refine bF ?_ | refine bT ?_ | refine dK (by kernel_rfl) ?_ | refine cK rfl ?_ | refine cK (by first | decide | omega) ?_ | refine wK (by omega) (by omega) ?_); conv => whnf)
    refine callX_pure (free_ok l[k]) ?_
    conv => whnf
    refine bcase_intro (fun h2 => ?_) (fun h2 => ?_) <;> conv => whnf
    · repeat ((first | refine bF ?_ | refine bT ?_ | refine dK (by kernel_rfl) ?_ | refine cK rfl ?_ | refine cK (by first | decide | omega) ?_ | refine wK (by omega) (by omega) ?_); conv => whnf)
      simp at h2
      have hl2 := List.length_filterMap_le pageF (l.take k)
      refine roomK_le 100 100 (by show List.length _ + 1 ≤ 100; simp at hl2 ⊢; omega) (by decide) (by decide) (by decide) ?_
      conv => whnf
      repeat ((first | refine bF ?_ | refine bT ?_ | refine dK (by kernel_rfl) ?_ | refine cK rfl ?_ | refine cK (by first | decide | omega) ?_ | refine wK (by omega) (by omega) ?_); conv => whnf)
      exact ⟨k + 1, by omega, by omega, le0 (le_of_cov ⟨rfl, rfl, rfl, rfl, trivial⟩ ⟨by rw [take_snoc hk2, List.filterMap_append, List.map_append]; simp [pageF, h2]; rfl, trivial⟩ ⟨rfl, rfl, rfl, rfl⟩)⟩
    · repeat ((first | refine bF ?_ | refine bT ?_ | refine dK (by kernel_rfl) ?_ | refine cK rfl ?_ | refine cK (by first | decide | omega) ?_ | refine wK (by omega) (by omega) ?_); conv => whnf)
      simp at h2
      exact ⟨k + 1, by omega, by omega, le0 (le_of_cov ⟨rfl, rfl, rfl, rfl, trivial⟩ ⟨by rw [take_snoc hk2, List.filterMap_append, List.map_append]; simp [pageF, h2]; rfl, trivial⟩ ⟨rfl, rfl, rfl, rfl⟩)⟩
  have hl2 := List.length_filterMap_le pageF (l.take k)
  have hk3 : k = l.length := by omega
  refine callX_heap (sort_ok (zs := (l.take k).filterMap pageF) rfl (by simp at hl2; omega)) ?_
  conv => whnf
  refine ret_of rfl ?_
  rw [hk3, List.take_length, oneD1]
  show D.lst _ = encNs _
  simp [pagesS, h1, encNs]

def countG (l : Slots) (p : Int) : Nat := l.countP fun x => x.1 == p
end Go.Lk.Tb

namespace Go.Lk.Tb
open Go Go.RowKit Go.Lk

/-! ### tables, in plain words -/
theorem at_set {l : Slots} {i j : Nat} {x : Int × Int} (hi : i < l.length) : at' (l.set i x) j = if j = i then x else at' l j := by
  unfold at'
  rw [List.getElem?_set]
  by_cases h : i = j
  · subst h; simp [hi]
  · rw [if_neg h, if_neg (fun e => h e.symm)]
theorem homeN_lt {p : Int} (h : 0 ≤ p) : homeN p < 16 := by simp [homeN]; omega
theorem slot_page {x : Int × Int} (h : SlotP x) (hf : freeB x = false) : 1 ≤ x.1 := by
  rcases h with h | h
  · rw [hf] at h; cases h
  · exact (fits_out.1 h).1
theorem fits_nonfree {p f : Int} (h : fitsB p f = true) : freeB (p, f) = false := by
  have := fits_out.1 h
  simp [freeB]; omega

/-- where a slot stands, counted from behind the cut -/
def pos (z j : Nat) : Nat := (j + 15 - z) % 16
def CutAt (l : Slots) (z : Nat) : Prop := z < 16 ∧ ∀ i, i < 16 → freeB (at' l i) = false → pos z (homeN (at' l i).1) ≤ pos z i
def Cut (l : Slots) : Prop := ∃ z, CutAt l z
def Distinct (l : Slots) : Prop := ∀ i j, i < 16 → j < 16 → freeB (at' l i) = false → freeB (at' l j) = false → (at' l i).1 = (at' l j).1 → i = j
theorem RT.distinct {l : Slots} (h : RT l) : Distinct l := by
  intro i j hi hj fi fj e
  rcases Nat.lt_trichotomy i j with h1 | h1 | h1
  · rcases h.places j hj with h2 | ⟨h2, _⟩
    · rw [fj] at h2; cases h2
    · exact absurd e (h2 i h1)
  · exact h1
  · rcases h.places i hi with h2 | ⟨h2, _⟩
    · rw [fi] at h2; cases h2
    · exact absurd e.symm (h2 j h1)
/-- no free slot ahead of a page -/
theorem RT.path {l : Slots} (h : RT l) {i : Nat} (hi : i < 16) (fi : freeB (at' l i) = false) {d : Nat} (hd : d < wayN (homeN (at' l i).1) i) : freeB (at' l ((homeN (at' l i).1 + d) % 16)) = false := by
  rcases h.places i hi with h2 | ⟨_, h2⟩
  · rw [fi] at h2; cases h2
  · exact h2 d hd
theorem RT.mk' {l : Slots} (hl : l.length = 16) (hs : ∀ i, i < 16 → SlotP (at' l i)) (hd : Distinct l) (hp : ∀ i, i < 16 → freeB (at' l i) = false → ∀ d, d < wayN (homeN (at' l i).1) i → freeB (at' l ((homeN (at' l i).1 + d) % 16)) = false) : RT l := by
  refine ⟨hl, hs, fun i hi => ?_⟩
  cases fi : freeB (at' l i) with
  | true => exact .inl fi
  | false =>
    refine .inr ⟨fun j hj e => ?_, hp i hi fi⟩
    have fj : freeB (at' l j) = false := by
      cases fj : freeB (at' l j) with
      | false => rfl
      | true =>
        have h1 := slot_page (hs i hi) fi
        have h2 := free_out.1 fj
        omega
    have := hd j i (by omega) hi fj fi e
    omega
/-- a way is what lies between, where no cut is -/
theorem pos_path {z h i k : Nat} (hz : z < 16) (hh : h < 16) (hi : i < 16) (hk : k < 16) (hle : pos z h ≤ pos z i) : (∃ d, d < wayN h i ∧ (h + d) % 16 = k) ↔ pos z h ≤ pos z k ∧ pos z k < pos z i := by
  simp only [pos, wayN] at *
  constructor
  · rintro ⟨d, h1, h2⟩; omega
  · intro h1
    exact ⟨(k + 16 - h) % 16, by omega, by omega⟩
theorem pos_lt {z j : Nat} : pos z j < 16 := Nat.mod_lt _ (by decide)
theorem pos_inj {z i j : Nat} (hz : z < 16) (hi : i < 16) (hj : j < 16) (h : pos z i = pos z j) : i = j := by simp only [pos] at h; omega
theorem free_cut {l : Slots} (h : RT l) {z : Nat} (hz : z < 16) (fz : freeB (at' l z) = true) : CutAt l z := by
  refine ⟨hz, fun i hi fi => ?_⟩
  have hh := homeN_lt (p := (at' l i).1) (by have := slot_page (h.slots i hi) fi; omega)
  by_cases hle : pos z (homeN (at' l i).1) ≤ pos z i
  · exact hle
  · exfalso
    have hne : i ≠ z := fun e => by subst e; rw [fi] at fz; cases fz
    have := h.path hi fi (d := (z + 16 - homeN (at' l i).1) % 16) (by simp only [pos, wayN] at *; omega)
    rw [show (homeN (at' l i).1 + (z + 16 - homeN (at' l i).1) % 16) % 16 = z by omega, fz] at this
    cases this
theorem RT.of_cut {l : Slots} {z : Nat} (hl : l.length = 16) (hs : ∀ i, i < 16 → SlotP (at' l i)) (hd : Distinct l) (hc : CutAt l z) (hp : ∀ i k, i < 16 → k < 16 → freeB (at' l i) = false → pos z (homeN (at' l i).1) ≤ pos z k → pos z k < pos z i → freeB (at' l k) = false) : RT l := by
  refine .mk' hl hs hd fun i hi fi d hdd => ?_
  have hh := homeN_lt (p := (at' l i).1) (by have := slot_page (hs i hi) fi; omega)
  obtain ⟨h1, h2⟩ := (pos_path hc.1 hh hi (Nat.mod_lt _ (by decide)) (hc.2 i hi fi)).1 ⟨d, hdd, rfl⟩
  exact hp i _ hi (Nat.mod_lt _ (by decide)) fi h1 h2
theorem RT.cut_path {l : Slots} {z i k : Nat} (h : RT l) (hc : CutAt l z) (hi : i < 16) (hk : k < 16) (fi : freeB (at' l i) = false) (h1 : pos z (homeN (at' l i).1) ≤ pos z k) (h2 : pos z k < pos z i) : freeB (at' l k) = false := by
  have hh := homeN_lt (p := (at' l i).1) (by have := slot_page (h.slots i hi) fi; omega)
  obtain ⟨d, h3, h4⟩ := (pos_path hc.1 hh hi hk (hc.2 i hi fi)).2 ⟨h1, h2⟩
  have := h.path hi fi h3
  rw [h4] at this
  exact this

/-! ### what a put leaves -/
theorem ffree_out {l : Slots} {h : Nat} : ∀ {n d i : Nat}, ffree l h d n = some i → ∃ e, e < n ∧ i = (h + (d + e)) % 16 ∧ freeB (at' l i) = true ∧ ∀ e', e' < e → freeB (at' l ((h + (d + e')) % 16)) = false
  | 0, d, i, hf => by cases hf
  | n + 1, d, i, hf => by
    simp only [ffree] at hf
    by_cases e : freeB (at' l ((h + d) % 16)) = true
    · rw [if_pos e] at hf
      cases hf
      exact ⟨0, by omega, rfl, e, fun e' h => by omega⟩
    · rw [if_neg e] at hf
      obtain ⟨e2, h1, h2, h3, h4⟩ := ffree_out hf
      refine ⟨e2 + 1, by omega, by rw [h2]; congr 1; omega, h3, fun e' h5 => ?_⟩
      cases e' with
      | zero => simpa using e
      | succ e' => rw [show h + (d + (e' + 1)) = h + (d + 1 + e') by omega]; exact h4 e' (by omega)
theorem ffree_none {l : Slots} {h : Nat} : ∀ {n d : Nat}, ffree l h d n = none → ∀ e, e < n → freeB (at' l ((h + (d + e)) % 16)) = false
  | 0, d, _, e, he => by omega
  | n + 1, d, hf, e, he => by
    simp only [ffree] at hf
    by_cases e1 : freeB (at' l ((h + d) % 16)) = true
    · rw [if_pos e1] at hf; cases hf
    · rw [if_neg e1] at hf
      cases e with
      | zero => simpa using e1
      | succ e => rw [show h + (d + (e + 1)) = h + (d + 1 + e) by omega]; exact ffree_none hf e (by omega)

theorem put_rt {l : Slots} {p f : Int} {i : Nat} (h : RT l) (hf : fitsB p f = true) (hn : ∀ j, j < 16 → freeB (at' l j) = false → (at' l j).1 ≠ p) (hi : ffree l (homeN p) 0 16 = some i) :
    i < 16 ∧ freeB (at' l i) = true ∧ RT (l.set i (p, f)) ∧ Cut (l.set i (p, f)) := by
  obtain ⟨e, h1, h2, h3, h4⟩ := ffree_out hi
  have hp := fits_out.1 hf
  have hh := homeN_lt (p := p) (by omega)
  have hi16 : i < 16 := by omega
  have hil : i < l.length := by rw [h.len]; exact hi16
  have hc := free_cut h hi16 h3
  have nf := fits_nonfree hf
  have hat : ∀ j, at' (l.set i (p, f)) j = if j = i then (p, f) else at' l j := fun j => at_set hil
  have hcut : CutAt (l.set i (p, f)) i := by
    refine ⟨hi16, fun j hj fj => ?_⟩
    rw [hat] at fj ⊢
    by_cases e1 : j = i
    · subst e1; rw [if_pos rfl]; simp only [pos]; omega
    · rw [if_neg e1] at fj ⊢; exact hc.2 j hj fj
  refine ⟨hi16, h3, ?_, i, hcut⟩
  refine .of_cut (by rw [List.length_set]; exact h.len) (fun j hj => ?_) ?_ hcut ?_
  · rw [hat]
    by_cases e1 : j = i
    · rw [if_pos e1]; exact .inr hf
    · rw [if_neg e1]; exact h.slots j hj
  · intro a b ha hb fa fb e1
    rw [hat] at fa fb
    rw [hat, hat] at e1
    by_cases ea : a = i
    · by_cases eb : b = i
      · rw [ea, eb]
      · rw [if_pos ea, if_neg eb] at e1; rw [if_neg eb] at fb; exact absurd e1.symm (hn b hb fb)
    · by_cases eb : b = i
      · rw [if_neg ea, if_pos eb] at e1; rw [if_neg ea] at fa; exact absurd e1 (hn a ha fa)
      · rw [if_neg ea] at fa; rw [if_neg eb] at fb; rw [if_neg ea, if_neg eb] at e1; exact h.distinct a b ha hb fa fb e1
  · intro j k hj hk fj h5 h6
    rw [hat] at fj h5
    rw [hat]
    by_cases ek : k = i
    · rw [if_pos ek]; exact nf
    · rw [if_neg ek]
      by_cases ej : j = i
      · rw [if_pos ej] at h5
        subst ej
        have := h4 ((k + 16 - homeN p) % 16) (by simp only [pos] at *; omega)
        rw [show (homeN p + (0 + (k + 16 - homeN p) % 16)) % 16 = k by omega] at this
        exact this
      · rw [if_neg ej] at fj h5
        exact h.cut_path hc hj hk fj h5 h6
end Go.Lk.Tb

namespace Go.Lk.Tb
open Go Go.RowKit Go.Lk

def cntS (l : Slots) : Nat := l.countP fun x => !freeB x
theorem cnt_set {l : Slots} {i : Nat} {x : Int × Int} (h : i < l.length) : cntS (l.set i x) + (if freeB (at' l i) = true then 0 else 1) = cntS l + (if freeB x = true then 0 else 1) := by
  have hle : (if (!freeB l[i]) = true then 1 else 0) ≤ cntS l := by
    cases hf : freeB l[i] with
    | true => simp
    | false =>
      have : 0 < cntS l := List.countP_pos_iff.2 ⟨l[i], List.getElem_mem h, by simp [hf]⟩
      simp; omega
  unfold cntS at *
  rw [List.countP_set h, at_eq h]
  generalize l.countP (fun x => !freeB x) = c at hle ⊢
  cases hf : freeB l[i] <;> cases hx : freeB x <;> rw [hf] at hle <;> simp only [Bool.not_true, Bool.not_false, if_true, Bool.false_eq_true, if_false] at hle ⊢ <;> omega
def SameS (l0 l : Slots) : Prop := ∀ x, freeB x = false → ((∃ j, j < 16 ∧ at' l j = x) ↔ ∃ j, j < 16 ∧ at' l0 j = x)

structure DInv (z : Nat) (l0 l : Slots) (hole i : Nat) : Prop where
  len : l.length = 16
  slots : ∀ j, j < 16 → SlotP (at' l j)
  hole16 : hole < 16
  i16 : i < 16
  free : freeB (at' l hole) = true
  dist : Distinct l
  cut : CutAt l z
  ph : pos z hole ≤ pos z i
  paths : ∀ j k, j < 16 → k < 16 → freeB (at' l j) = false → pos z (homeN (at' l j).1) ≤ pos z k → pos z k < pos z j → freeB (at' l k) = true → k = hole ∧ pos z i < pos z j
  same : SameS l0 l
  cnt : cntS l = cntS l0

structure Done (l0 l : Slots) : Prop where
  rt : RT l
  free : ∃ j, j < 16 ∧ freeB (at' l j) = true
  same : SameS l0 l
  cnt : cntS l = cntS l0

theorem DInv.done {z : Nat} {l0 l : Slots} {hole i : Nat} (h : DInv z l0 l hole i) (hp : ∀ j k, j < 16 → k < 16 → freeB (at' l j) = false → pos z (homeN (at' l j).1) ≤ pos z k → pos z k < pos z j → freeB (at' l k) = false) : Done l0 l :=
  ⟨.of_cut h.len h.slots h.dist h.cut hp, ⟨hole, h.hole16, h.free⟩, h.same, h.cnt⟩

theorem delG_still {l : Slots} (h : RT l) {hole : Nat} (h16 : hole < 16) (hf : freeB (at' l hole) = true) : ∀ (n i : Nat), delG l hole i n = l
  | 0, i => rfl
  | n + 1, i => by
    rw [delG]
    by_cases f : freeB (at' l ((i + 1) % 16)) = true
    · rw [if_pos f]
    · have f' : freeB (at' l ((i + 1) % 16)) = false := by simpa using f
      have hi : (i + 1) % 16 < 16 := Nat.mod_lt _ (by decide)
      have hh := homeN_lt (p := (at' l ((i + 1) % 16)).1) (by have := slot_page (h.slots _ hi) f'; omega)
      rw [if_neg f, if_neg, delG_still h h16 hf n]
      intro hw
      have := h.path hi f' hw
      rw [show (homeN (at' l ((i + 1) % 16)).1 + wayN (homeN (at' l ((i + 1) % 16)).1) hole) % 16 = hole by simp only [wayN]; omega, hf] at this
      cases this

theorem delG_done {z : Nat} {l0 : Slots} : ∀ (n : Nat) {l : Slots} {hole i : Nat}, DInv z l0 l hole i → 15 ≤ pos z i + n → Done l0 (delG l hole i n) := by
  intro n
  induction n with
  | zero =>
    intro l hole i h hn
    have h15 : pos z i = 15 := by have := pos_lt (z := z) (j := i); omega
    exact h.done fun j k hj hk fj h1 h2 => by
      cases fk : freeB (at' l k) with
      | false => rfl
      | true =>
        have := (h.paths j k hj hk fj h1 h2 fk).2
        have := pos_lt (z := z) (j := j)
        omega
  | succ n ih =>
    intro l hole i h hn
    have hz := h.cut.1
    have hi := h.i16
    by_cases h15 : pos z i = 15
    · have hd := h.done fun j k hj hk fj h1 h2 => by
        cases fk : freeB (at' l k) with
        | false => rfl
        | true =>
          have := (h.paths j k hj hk fj h1 h2 fk).2
          have := pos_lt (z := z) (j := j)
          omega
      rw [delG_still hd.rt h.hole16 h.free]
      exact hd
    · rw [delG]
      have hi' : (i + 1) % 16 < 16 := Nat.mod_lt _ (by decide)
      have hpi : pos z ((i + 1) % 16) = pos z i + 1 := by simp only [pos] at *; omega
      generalize (i + 1) % 16 = i' at hi' hpi
      have hne : hole ≠ i' := fun e => by have := h.ph; rw [e, hpi] at this; omega
      by_cases f : freeB (at' l i') = true
      · rw [if_pos f]
        refine h.done fun j k hj hk fj h1 h2 => ?_
        cases fk : freeB (at' l k) with
        | false => rfl
        | true =>
          obtain ⟨e1, e2⟩ := h.paths j k hj hk fj h1 h2 fk
          exfalso
          subst e1
          have hji : j ≠ i' := fun e => by subst e; rw [fj] at f; cases f
          have hpj : pos z j ≠ pos z i' := fun e => hji (pos_inj hz hj hi' e)
          have := (h.paths j i' hj hi' fj (by have := h.ph; omega) (by omega) f).1
          exact hne this.symm
      · have f' : freeB (at' l i') = false := by simpa using f
        have hpg := slot_page (h.slots i' hi') f'
        have hh := homeN_lt (p := (at' l i').1) (by omega)
        have hci := h.cut.2 i' hi' f'
        have hway : wayN (homeN (at' l i').1) hole < wayN (homeN (at' l i').1) i' ↔ pos z (homeN (at' l i').1) ≤ pos z hole := by
          have h1 := h.ph
          have h2 := h.hole16
          simp only [pos, wayN] at *
          omega
        rw [if_neg f]
        by_cases hw : wayN (homeN (at' l i').1) hole < wayN (homeN (at' l i').1) i'
        · rw [if_pos hw]
          have hw' := hway.1 hw
          have hhl : hole < l.length := by rw [h.len]; exact h.hole16
          have hil : i' < (l.set hole (at' l i')).length := by rw [List.length_set, h.len]; exact hi'
          have hat : ∀ j, at' ((l.set hole (at' l i')).set i' (0, 0)) j = if j = i' then (0, 0) else if j = hole then at' l i' else at' l j := fun j => by
            rw [at_set hil]
            by_cases e : j = i'
            · rw [if_pos e, if_pos e]
            · rw [if_neg e, if_neg e, at_set hhl]
          refine ih ⟨by simp [h.len], fun j hj => ?_, hi', hi', by rw [hat, if_pos rfl]; rfl, ?_, ⟨hz, fun j hj fj => ?_⟩, Nat.le_refl _, ?_, ?_, ?_⟩ (by omega)
          · rw [hat]
            by_cases e : j = i'
            · rw [if_pos e]; exact slot_zero
            · rw [if_neg e]
              by_cases e2 : j = hole
              · rw [if_pos e2]; exact h.slots i' hi'
              · rw [if_neg e2]; exact h.slots j hj
          · intro a b ha hb fa fb e
            rw [hat] at fa fb
            rw [hat, hat] at e
            by_cases ea : a = i'
            · rw [if_pos ea] at fa; cases fa
            · by_cases eb : b = i'
              · rw [if_pos eb] at fb; cases fb
              · rw [if_neg ea] at fa; rw [if_neg eb] at fb; rw [if_neg ea, if_neg eb] at e
                by_cases ea2 : a = hole
                · by_cases eb2 : b = hole
                  · rw [ea2, eb2]
                  · rw [if_pos ea2, if_neg eb2] at e; rw [if_neg eb2] at fb
                    exact absurd (h.dist i' b hi' hb f' fb e).symm eb
                · by_cases eb2 : b = hole
                  · rw [if_neg ea2, if_pos eb2] at e; rw [if_neg ea2] at fa
                    exact absurd (h.dist a i' ha hi' fa f' e) ea
                  · rw [if_neg ea2] at fa; rw [if_neg eb2] at fb; rw [if_neg ea2, if_neg eb2] at e
                    exact h.dist a b ha hb fa fb e
          · rw [hat] at fj ⊢
            by_cases e : j = i'
            · rw [if_pos e] at fj; cases fj
            · rw [if_neg e] at fj ⊢
              by_cases e2 : j = hole
              · rw [if_pos e2]; rw [e2]; exact hw'
              · rw [if_neg e2] at fj ⊢; exact h.cut.2 j hj fj
          · intro j k hj hk fj h1 h2 fk
            rw [hat] at fj h1 fk
            by_cases e : j = i'
            · rw [if_pos e] at fj; cases fj
            · rw [if_neg e] at fj h1
              by_cases ek : k = i'
              · refine ⟨ek, ?_⟩
                rw [ek] at h2; exact h2
              · rw [if_neg ek] at fk
                by_cases ek2 : k = hole
                · rw [if_pos ek2, f'] at fk; cases fk
                · rw [if_neg ek2] at fk
                  exfalso
                  by_cases e2 : j = hole
                  · rw [if_pos e2] at h1
                    have := (h.paths i' k hi' hk f' h1 (by have := h.ph; rw [e2] at h2; omega) fk).1
                    exact ek2 this
                  · rw [if_neg e2] at fj h1
                    exact ek2 (h.paths j k hj hk fj h1 h2 fk).1
          · intro x hx
            rw [← h.same x hx]
            constructor
            · rintro ⟨j, hj, rfl⟩
              rw [hat] at hx ⊢
              by_cases e : j = i'
              · rw [if_pos e] at hx; cases hx
              · rw [if_neg e] at hx ⊢
                by_cases e2 : j = hole
                · rw [if_pos e2]; exact ⟨i', hi', rfl⟩
                · rw [if_neg e2]; exact ⟨j, hj, rfl⟩
            · rintro ⟨j, hj, rfl⟩
              by_cases e : j = i'
              · exact ⟨hole, h.hole16, by rw [hat, if_neg hne, if_pos rfl, e]⟩
              · have e2 : j ≠ hole := fun e2 => by rw [e2, h.free] at hx; cases hx
                exact ⟨j, hj, by rw [hat, if_neg e, if_neg e2]⟩
          · have c1 := cnt_set (x := at' l i') hhl
            have c2 := cnt_set (x := (0, 0)) hil
            rw [at_set hhl, if_neg hne.symm] at c2
            rw [h.free, f'] at c1
            rw [f', show freeB (0, 0) = true from rfl] at c2
            simp at c1 c2
            have := h.cnt
            omega
        · rw [if_neg hw]
          have hw' : ¬ pos z (homeN (at' l i').1) ≤ pos z hole := fun e => hw (hway.2 e)
          refine ih ⟨h.len, h.slots, h.hole16, hi', h.free, h.dist, h.cut, by have := h.ph; omega, fun j k hj hk fj h1 h2 fk => ?_, h.same, h.cnt⟩ (by omega)
          obtain ⟨e1, e2⟩ := h.paths j k hj hk fj h1 h2 fk
          refine ⟨e1, ?_⟩
          have hji : j ≠ i' := fun e => by subst e; rw [e1] at h1; exact hw' h1
          have hpj : pos z j ≠ pos z i' := fun e => hji (pos_inj hz hj hi' e)
          omega
end Go.Lk.Tb

namespace Go.Lk.Tb
open Go Go.RowKit Go.Lk

theorem del_rt {l : Slots} {a z : Nat} (h : RT l) (hc : CutAt l z) (ha : a < 16) (fa : freeB (at' l a) = false) : Done (l.set a (0, 0)) (delG (l.set a (0, 0)) a a 15) := by
  have hal : a < l.length := by rw [h.len]; exact ha
  have hat : ∀ j, at' (l.set a (0, 0)) j = if j = a then (0, 0) else at' l j := fun j => at_set hal
  refine delG_done (z := z) 15 ⟨by simp [h.len], fun j hj => ?_, ha, ha, by rw [hat, if_pos rfl]; rfl, ?_, ⟨hc.1, fun j hj fj => ?_⟩, Nat.le_refl _, ?_, fun x hx => Iff.rfl, rfl⟩ (by omega)
  · rw [hat]
    by_cases e : j = a
    · rw [if_pos e]; exact slot_zero
    · rw [if_neg e]; exact h.slots j hj
  · intro i j hi hj fi fj e
    rw [hat] at fi fj
    rw [hat, hat] at e
    by_cases ei : i = a
    · rw [if_pos ei] at fi; cases fi
    · by_cases ej : j = a
      · rw [if_pos ej] at fj; cases fj
      · rw [if_neg ei] at fi; rw [if_neg ej] at fj; rw [if_neg ei, if_neg ej] at e
        exact h.distinct i j hi hj fi fj e
  · rw [hat] at fj ⊢
    by_cases e : j = a
    · rw [if_pos e] at fj; cases fj
    · rw [if_neg e] at fj ⊢; exact hc.2 j hj fj
  · intro j k hj hk fj h1 h2 fk
    rw [hat] at fj h1 fk
    by_cases e : j = a
    · rw [if_pos e] at fj; cases fj
    · rw [if_neg e] at fj h1
      by_cases ek : k = a
      · exact ⟨ek, by rw [ek] at h2; exact h2⟩
      · rw [if_neg ek] at fk
        have := h.cut_path hc hj hk fj h1 h2
        rw [fk] at this; cases this

theorem placeG_mem {l : Slots} {n : Int} : ∀ {k : Nat}, 0 ≤ placeG l n k ↔ ∃ j, j < l.length ∧ (at' l j).1 = n := by
  have key : ∀ {k : Nat}, 0 ≤ placeG l n k ↔ ∃ x ∈ l, x.1 = n := by
    induction l with
    | nil => intro k; exact ⟨fun h => absurd h (show ¬ (0 ≤ (-1 : Int)) by decide), fun ⟨x, h, _⟩ => by cases h⟩
    | cons p r ih =>
      intro k
      simp only [placeG]
      by_cases h : p.1 = n
      · rw [if_pos h]; exact ⟨fun _ => ⟨p, List.mem_cons_self .., h⟩, fun _ => by omega⟩
      · rw [if_neg h, ih]
        constructor
        · rintro ⟨x, h1, h2⟩; exact ⟨x, List.mem_cons_of_mem _ h1, h2⟩
        · rintro ⟨x, h1, h2⟩
          rcases List.mem_cons.1 h1 with rfl | h1
          · exact absurd h2 h
          · exact ⟨x, h1, h2⟩
  intro k
  rw [key]
  constructor
  · rintro ⟨x, hx, e⟩
    obtain ⟨j, hj, rfl⟩ := List.mem_iff_getElem.1 hx
    exact ⟨j, hj, by rw [at_eq hj]; exact e⟩
  · rintro ⟨j, hj, e⟩
    exact ⟨l[j], List.getElem_mem hj, by rw [← at_eq hj]; exact e⟩
theorem placeT_iff {l : Slots} {p : Int} (hp : 1 ≤ p) : (placeT l p).2 = true ↔ ∃ j, j < l.length ∧ (at' l j).1 = p := by
  rw [← placeG_mem (k := 0)]
  unfold placeT
  by_cases h : placeG l p 0 < 0
  · rw [if_pos (.inr h)]; simp; omega
  · rw [if_neg (by omega)]; simp; omega
theorem placeT_no {l : Slots} {p : Int} (h : ∀ j, j < l.length → (at' l j).1 ≠ p) : (placeT l p).2 = false := by
  cases e : (placeT l p).2 with
  | false => rfl
  | true =>
    obtain ⟨i, _, hi, e2⟩ := placeT_t e
    exact absurd (by rw [at_eq hi]; exact e2) (h i hi)
theorem page_nonfree {x : Int × Int} (h : 1 ≤ x.1) : freeB x = false := by simp [freeB]; omega
theorem place_at {l : Slots} (h : RT l) {p : Int} {j : Nat} (hp : 1 ≤ p) (hj : j < 16) (e : (at' l j).1 = p) : (placeT l p).2 = true ∧ (placeT l p).1 = j := by
  have h2 := (placeT_iff hp).2 ⟨j, by rw [h.len]; exact hj, e⟩
  obtain ⟨i, e1, hi, e2⟩ := placeT_t h2
  have hi16 : i < 16 := by rw [h.len] at hi; exact hi
  rw [← at_eq hi] at e2
  have := h.distinct i j hi16 hj (page_nonfree (by omega)) (page_nonfree (by omega)) (by rw [e2, e])
  exact ⟨h2, by rw [e1, this]⟩
theorem find_yes {l : Slots} (h : RT l) {p f : Int} {j : Nat} (hp : 1 ≤ p) (hj : j < 16) (e : at' l j = (p, f)) : findS l p = (f, true) := by
  obtain ⟨h1, h2⟩ := place_at h hp hj (by rw [e])
  simp [findS, rightB_t.2 h, h1, h2, e]
theorem find_no {l : Slots} {p : Int} (h : ∀ j, j < l.length → (at' l j).1 ≠ p) : findS l p = (0, false) := by
  simp [findS, placeT_no h]

theorem cnt_le {l : Slots} : cntS l ≤ l.length := List.countP_le_length
theorem cnt_full {l : Slots} (h : l.length = 16) : cntS l = 16 ↔ ∀ j, j < 16 → freeB (at' l j) = false := by
  rw [← h]
  unfold cntS
  rw [List.countP_eq_length]
  constructor
  · intro h1 j hj
    have := h1 l[j] (List.getElem_mem hj)
    rw [at_eq hj]; simpa using this
  · intro h1 x hx
    obtain ⟨j, hj, rfl⟩ := List.mem_iff_getElem.1 hx
    rw [← at_eq hj, h1 j hj]; rfl
theorem ffree_full {l : Slots} {p : Int} (hl : l.length = 16) (hp : 0 ≤ p) : ffree l (homeN p) 0 16 = none ↔ cntS l = 16 := by
  rw [cnt_full hl]
  have hh := homeN_lt hp
  constructor
  · intro h j hj
    have := ffree_none h ((j + 16 - homeN p) % 16) (by omega)
    rw [show (homeN p + (0 + (j + 16 - homeN p) % 16)) % 16 = j by omega] at this
    exact this
  · intro h
    cases e : ffree l (homeN p) 0 16 with
    | none => rfl
    | some i =>
      obtain ⟨d, h1, h2, h3, h4⟩ := ffree_out e
      rw [h i (by omega)] at h3; cases h3

theorem new_rt : RT (List.replicate 16 (0, 0)) := by
  have hat : ∀ j, at' (List.replicate 16 (0, 0)) j = (0, 0) := fun j => by
    unfold at'
    rw [List.getElem?_replicate]
    split <;> rfl
  exact ⟨by simp, fun i _ => by rw [hat]; exact slot_zero, fun i _ => .inl (by rw [hat]; rfl)⟩
theorem new_at (j : Nat) : at' (List.replicate 16 (0, 0)) j = (0, 0) := by
  unfold at'
  rw [List.getElem?_replicate]
  split <;> rfl

/-- pages: as many as there are slots with one -/
theorem pages_len {l : Slots} (h : RT l) : (pagesS l).length = cntS l := by
  rw [pagesS, if_neg (by simp [rightB_t.2 h]), sortI, List.length_mergeSort]
  have : ∀ l : Slots, (l.filterMap pageF).length = cntS l := by
    intro l
    induction l with
    | nil => rfl
    | cons x r ih =>
      rw [List.filterMap_cons, cntS, List.countP_cons]
      cases e : freeB x with
      | true => simp only [pageF, e, if_true]; rw [ih]; simp [cntS]
      | false => simp only [pageF, e]; simp [ih, cntS]
  exact this l
end Go.Lk.Tb

namespace Go.Lk.Tb
open Go Go.RowKit Go.Lk

theorem put_val {l : Slots} {p f : Int} {i : Nat} (h : RT l) (hf : fitsB p f = true) (hpl : (placeT l p).2 = false) (hff : ffree l (homeN p) 0 16 = some i) : putS l p f = (l.set i (p, f), 0) := by
  rw [putS, if_neg (by simp [rightB_t.2 h, hf]), if_neg (by simp [hpl]), hff]
def MemS (l : Slots) (x : Int × Int) : Prop := ∃ j, j < 16 ∧ at' l j = x
theorem put_gen {l : Slots} {p f : Int} (h : RT l) (hf : fitsB p f = true) (hn : ∀ j, j < 16 → (at' l j).1 ≠ p) (hc : cntS l < 16) :
    ∃ l' i, i < 16 ∧ freeB (at' l i) = true ∧ l' = l.set i (p, f) ∧ putS l p f = (l', 0) ∧ RT l' ∧ Cut l' ∧ cntS l' = cntS l + 1 ∧ ∀ x, freeB x = false → (MemS l' x ↔ x = (p, f) ∨ MemS l x) := by
  have hp := fits_out.1 hf
  have hpl := placeT_no (p := p) (fun j hj => hn j (by rw [h.len] at hj; exact hj))
  cases hff : ffree l (homeN p) 0 16 with
  | none => have := (ffree_full h.len (by omega)).1 hff; omega
  | some i =>
    obtain ⟨hi16, fi, hrt, hcut⟩ := put_rt h hf (fun j hj _ => hn j hj) hff
    have hil : i < l.length := by rw [h.len]; exact hi16
    have hat : ∀ j, at' (l.set i (p, f)) j = if j = i then (p, f) else at' l j := fun j => at_set hil
    refine ⟨_, i, hi16, fi, rfl, put_val h hf hpl hff, hrt, hcut, ?_, fun x hx => ?_⟩
    · have c := cnt_set (x := (p, f)) hil
      rw [fi, fits_nonfree hf] at c
      simp at c
      exact c
    · constructor
      · rintro ⟨j, hj, e⟩
        rw [hat] at e
        by_cases ej : j = i
        · rw [if_pos ej] at e; exact .inl e.symm
        · rw [if_neg ej] at e; exact .inr ⟨j, hj, e⟩
      · rintro (e | ⟨j, hj, e⟩)
        · exact ⟨i, hi16, by rw [hat, if_pos rfl, e]⟩
        · refine ⟨j, hj, ?_⟩
          rw [hat, if_neg (fun e' => by rw [e'] at e; rw [e, hx] at fi; cases fi), e]
theorem put_full {l : Slots} {p f : Int} (h : RT l) (hf : fitsB p f = true) (hn : ∀ j, j < 16 → (at' l j).1 ≠ p) (hc : cntS l = 16) : putS l p f = (l, 7) := by
  have hp := fits_out.1 hf
  have hpl := placeT_no (p := p) (fun j hj => hn j (by rw [h.len] at hj; exact hj))
  rw [putS, if_neg (by simp [rightB_t.2 h, hf]), if_neg (by simp [hpl]), (ffree_full h.len (by omega)).2 hc]
theorem del_gen {l : Slots} {p f : Int} (h : RT l) (hc : Cut l) (hp : 1 ≤ p) (hm : MemS l (p, f)) :
    ∃ l', delS l p = (l', 0) ∧ RT l' ∧ Cut l' ∧ cntS l' + 1 = cntS l ∧ ∀ x, freeB x = false → (MemS l' x ↔ x.1 ≠ p ∧ MemS l x) := by
  obtain ⟨a, ha, e4⟩ := hm
  obtain ⟨hpl, hpa⟩ := place_at h hp ha (by rw [e4])
  have base : delS l p = (delG (l.set a (0, 0)) a a 15, 0) := by
    rw [delS, if_neg (by simp [rightB_t.2 h]), if_neg (by simp [hpl]), hpa]; rfl
  obtain ⟨z, hz⟩ := hc
  have fa : freeB (at' l a) = false := by rw [e4]; exact page_nonfree hp
  have hd := del_rt h hz ha fa
  have hal : a < l.length := by rw [h.len]; exact ha
  have hat : ∀ j, at' (l.set a (0, 0)) j = if j = a then (0, 0) else at' l j := fun j => at_set hal
  have c := cnt_set (x := (0, 0)) hal
  rw [fa, show freeB (0, 0) = true from rfl] at c
  simp at c
  obtain ⟨z', hz', fz'⟩ := hd.free
  refine ⟨_, base, hd.rt, ⟨z', free_cut hd.rt hz' fz'⟩, by have := hd.cnt; omega, fun x hx => ?_⟩
  unfold MemS
  rw [hd.same x hx]
  constructor
  · rintro ⟨j, hj, e⟩
    rw [hat] at e
    by_cases ej : j = a
    · rw [if_pos ej] at e; subst e; cases hx
    · rw [if_neg ej] at e
      refine ⟨fun e5 => ej (h.distinct j a hj ha (by rw [e]; exact hx) fa (by rw [e, e4, e5])), j, hj, e⟩
  · rintro ⟨e5, j, hj, e⟩
    exact ⟨j, hj, by rw [hat, if_neg (fun ej => by rw [ej, e4] at e; subst e; exact e5 rfl)]; exact e⟩

/-! ### put, and deleted -/
theorem set_free {l : Slots} {i : Nat} (hi : i < l.length) (hf : freeB (at' l i) = true) (x : Int × Int) : (l.set i x).set i (0, 0) = l := by
  rw [List.set_set]
  have : at' l i = (0, 0) := Prod.ext (free_out.1 hf).1 (free_out.1 hf).2
  apply List.ext_getElem (by simp)
  intro j h1 h2
  rw [List.getElem_set]
  by_cases e : i = j
  · subst e; rw [if_pos rfl, ← at_eq hi, this]
  · rw [if_neg e]
theorem put_ok0 {l : Slots} {p f : Int} (h : (putS l p f).2 = 0) : RT l ∧ fitsB p f = true ∧ (placeT l p).2 = false ∧ ∃ i, ffree l (homeN p) 0 16 = some i ∧ (putS l p f).1 = l.set i (p, f) := by
  unfold putS at h ⊢
  by_cases h1 : rightB l = false ∨ fitsB p f = false
  · rw [if_pos h1] at h; cases h
  · rw [if_neg h1] at h ⊢
    by_cases h2 : (placeT l p).2 = true
    · rw [if_pos h2] at h; cases h
    · rw [if_neg h2] at h ⊢
      simp at h1 h2
      cases hf : ffree l (homeN p) 0 16 with
      | none => rw [hf] at h; cases h
      | some i => exact ⟨rightB_t.1 h1.1, h1.2, h2, i, rfl, rfl⟩
theorem put_no {l : Slots} {p f : Int} (h : (putS l p f).2 ≠ 0) : (putS l p f).1 = l := by
  unfold putS at h ⊢
  by_cases h1 : rightB l = false ∨ fitsB p f = false
  · rw [if_pos h1]
  · rw [if_neg h1] at h ⊢
    by_cases h2 : (placeT l p).2 = true
    · rw [if_pos h2]
    · rw [if_neg h2] at h ⊢
      cases hf : ffree l (homeN p) 0 16 with
      | none => rfl
      | some i => rw [hf] at h; exact absurd rfl h
theorem put_back {l : Slots} {p f : Int} (h : (putS l p f).2 = 0) : ∃ l1, (putS l p f).1 = l1 ∧ RT l ∧ RT l1 ∧ findS l1 p = (f, true) ∧ delS l1 p = (l, 0) ∧ cntS l1 = cntS l + 1 := by
  obtain ⟨h1, h2, h3, i, h4, h5⟩ := put_ok0 h
  have hp := fits_out.1 h2
  have hn : ∀ j, j < 16 → (at' l j).1 ≠ p := fun j hj e => by
    have := (placeT_iff (l := l) (p := p) (by omega)).2 ⟨j, by rw [h1.len]; exact hj, e⟩
    rw [h3] at this; cases this
  obtain ⟨hi16, fi, hrt, hcut⟩ := put_rt h1 h2 (fun j hj _ => hn j hj) h4
  have hil : i < l.length := by rw [h1.len]; exact hi16
  have hat : at' (l.set i (p, f)) i = (p, f) := by rw [at_set hil, if_pos rfl]
  refine ⟨_, h5, h1, hrt, find_yes hrt (by omega) hi16 hat, ?_, ?_⟩
  · obtain ⟨hpl, hpa⟩ := place_at hrt (p := p) (by omega) hi16 (by rw [hat])
    rw [delS, if_neg (by simp [rightB_t.2 hrt]), if_neg (by simp [hpl]), hpa, Int.toNat_natCast, set_free hil fi, delG_still h1 hi16 fi]
  · have c := cnt_set (x := (p, f)) hil
    rw [fi, fits_nonfree h2] at c
    simp at c
    exact c

/-! ### the pages that are told -/
theorem pages_mem {l : Slots} (h : RT l) {q : Int} (hq : q ∈ pagesS l) : 1 ≤ q ∧ 0 ≤ placeG l q 0 := by
  rw [pagesS, if_neg (by simp [rightB_t.2 h]), sortI, List.mem_mergeSort, List.mem_filterMap] at hq
  obtain ⟨x, hx, e⟩ := hq
  obtain ⟨j, hj, rfl⟩ := List.mem_iff_getElem.1 hx
  rw [← at_eq hj] at e
  have hj16 : j < 16 := by rw [h.len] at hj; exact hj
  cases fj : freeB (at' l j) with
  | true => simp [pageF, fj] at e
  | false =>
    simp [pageF, fj] at e
    exact ⟨by rw [← e]; exact slot_page (h.slots j hj16) fj, placeG_mem.2 ⟨j, hj, e⟩⟩
theorem pages_rise {l : Slots} (h : RT l) : (pagesS l).Pairwise (fun a b => a < b) := by
  rw [pagesS, if_neg (by simp [rightB_t.2 h])]
  have hs : (sortI (l.filterMap pageF)).Pairwise (fun a b => a ≤ b) := by
    have := List.pairwise_mergeSort (le := fun (x y : Int) => decide (x ≤ y)) (fun a b c => by simp; omega) (fun a b => by simp; omega) (l.filterMap pageF)
    exact this.imp_of_mem fun _ _ h => by simpa using h
  have hd : (l.filterMap pageF).Pairwise (fun a b => a ≠ b) := by
    have h0 : l.Pairwise (fun a b => freeB a = false → freeB b = false → a.1 ≠ b.1) := by
      rw [List.pairwise_iff_getElem]
      intro i j hi hj hij fi fj e
      rw [← at_eq hi] at fi e
      rw [← at_eq hj] at fj e
      have := h.distinct i j (by rw [h.len] at hi; exact hi) (by rw [h.len] at hj; exact hj) fi fj e
      omega
    refine List.Pairwise.filterMap pageF (fun a b hab x hx y hy => ?_) h0
    cases fa : freeB a with
    | true => simp [pageF, fa] at hx
    | false =>
      cases fb : freeB b with
      | true => simp [pageF, fb] at hy
      | false =>
        simp [pageF, fa] at hx
        simp [pageF, fb] at hy
        have := hab fa fb
        omega
  have hd' : (sortI (l.filterMap pageF)).Pairwise (fun a b => a ≠ b) := by
    have hp := List.mergeSort_perm (l.filterMap pageF) (fun (x y : Int) => decide (x ≤ y))
    exact (hp.pairwise_iff (fun {a b} h => fun e => h e.symm)).2 hd
  rw [List.pairwise_iff_getElem] at hs hd' ⊢
  intro i j hi hj hij
  have h1 := hs i j hi hj hij
  have h2 := hd' i j hi hj hij
  omega
end Go.Lk.Tb

namespace Go.Lk
open Go Go.Proofs Go.RowKit Go.Lk

/-! ### frames -/
structure FX where
  fr : List Fr
  hand : Int
  tb : List (Int × Int)
  pg : List Pg
  dt : List (Int × Int)
def FX.cells (f : FX) : List D := [.lst (f.fr.map encF), .int .i64 f.hand, encIs f.tb, .lst (f.pg.map encP), encIs f.dt]
def encFS (f : FX) : D := .agg f.cells
def FX.box (f : FX) : List AV := [.d (.lst (f.fr.map encF)), .d (.int .i64 f.hand), .d (encIs f.tb), .d (.lst (f.pg.map encP)), .d (encIs f.dt)]
def noPg : Pg := (0, 0, .empty)
def FPlace (f : FX) (i : Nat) : Prop := ∀ (h : i < f.fr.length) (h2 : i < f.pg.length), (f.fr[i].1 = 0 ∧ f.fr[i].2.1 = 0 ∧ f.pg[i] = noPg) ∨ (f.fr[i].1 ≠ 0 ∧ f.fr[i].1 = f.pg[i].1 ∧ pgR f.pg[i] = true ∧ Tb.findS f.tb f.pg[i].1 = ((i : Int), true))
def nFr (l : List Fr) : Nat := l.countP fun x => !decide (x.1 = 0)
structure FRight (f : FX) : Prop where
  ck : CRight f.fr f.hand
  tb : Tb.RT f.tb
  dt : Dt.rightB f.dt = true
  len : f.pg.length = f.fr.length
  place : ∀ i, i < f.fr.length → FPlace f i
  cnt : Tb.cntS f.tb = nFr f.fr
  dirty : ∀ i (h : i < f.dt.length), (Tb.findS f.tb f.dt[i].1).2 = true
open Classical in
noncomputable def frightB (f : FX) : Bool := decide (FRight f)
theorem frightB_t {f : FX} : frightB f = true ↔ FRight f := by simp [frightB]
theorem frightB_f {f : FX} : frightB f = false ↔ ¬ FRight f := by simp [frightB]
theorem notF {f : FX} (h : ¬ FRight f) : D.bool false = D.bool (frightB f) := congrArg D.bool (frightB_f.2 h).symm
theorem nFr_take {l : List Fr} {k : Nat} (h : k < l.length) : nFr (l.take (k + 1)) = nFr (l.take k) + (if l[k].1 = 0 then 0 else 1) := by
  unfold nFr
  rw [take_snoc h, List.countP_append, List.countP_cons, List.countP_nil]
  by_cases e : l[k].1 = 0 <;> simp [e]

theorem fright_ok (f : FX) (h1 : f.tb.length ≤ 1000000) (h2 : f.dt.length ≤ 1000000) : ACall Tryz.prog 28 [encFS f] (.bool (frightB f)) := by
  refine acall_of Tryz.func28 1 rfl (by kernel_rfl) ?_
  conv => whnf
  have hmf : (f.fr.map encF).length = f.fr.length := List.length_map ..
  have hmp : (f.pg.map encP).length = f.pg.length := List.length_map ..
  have hmd : (f.dt.map encI).length = f.dt.length := List.length_map ..
  repeat ((first | refine bF ?_ | refine bT ?_ | refine dK (by kernel_rfl) ?_ | refine cK rfl ?_ | refine cK (by first | decide | omega) ?_ | refine wK (by omega) (by omega) ?_); conv => whnf)
  refine callX_pure (clockRight_ok f.fr f.hand) ?_
  conv => whnf
  refine bcase_intro (fun g1 => ?_) (fun g1 => ?_) <;> conv => whnf
  · repeat ((first | refine bF ?_ | refine bT ?_ | refine dK (by kernel_rfl) ?_ | refine cK rfl ?_ | refine cK (by first | decide | omega) ?_ | refine wK (by omega) (by omega) ?_); conv => whnf)
    exact ret_of rfl (notF fun h => by have := clockB_t.2 h.ck; simp [this] at g1)
  simp at g1
  repeat ((first | refine bF ?_ | refine bT ?_ | refine dK (by kernel_rfl) ?_ | refine cK rfl ?_ | refine cK (by first | decide | omega) ?_ | refine wK (by omega) (by omega) ?_); conv => whnf)
  refine callX_pure (Tb.right_ok f.tb h1) ?_
  conv => whnf
  refine bcase_intro (fun g2 => ?_) (fun g2 => ?_) <;> conv => whnf
  · repeat ((first | refine bF ?_ | refine bT ?_ | refine dK (by kernel_rfl) ?_ | refine cK rfl ?_ | refine cK (by first | decide | omega) ?_ | refine wK (by omega) (by omega) ?_); conv => whnf)
    exact ret_of rfl (notF fun h => by have := Tb.rightB_t.2 h.tb; simp [this] at g2)
  simp at g2
  repeat ((first | refine bF ?_ | refine bT ?_ | refine dK (by kernel_rfl) ?_ | refine cK rfl ?_ | refine cK (by first | decide | omega) ?_ | refine wK (by omega) (by omega) ?_); conv => whnf)
  refine callX_pure (Dt.right_ok f.dt h2) ?_
  conv => whnf
  refine bcase_intro (fun g3 => ?_) (fun g3 => ?_) <;> conv => whnf
  · repeat ((first | refine bF ?_ | refine bT ?_ | refine dK (by kernel_rfl) ?_ | refine cK rfl ?_ | refine cK (by first | decide | omega) ?_ | refine wK (by omega) (by omega) ?_); conv => whnf)
    exact ret_of rfl (notF fun h => by have := h.dt; simp [this] at g3)
  simp at g3
  have hC := clockB_t.1 g1
  have hT := Tb.rightB_t.1 g2
  have hl8 := hC.most
  repeat ((first | refine bF ?_ | refine bT ?_ | refine dK (by kernel_rfl) ?_ | refine cK rfl ?_ | refine cK (by first | decide | omega) ?_ | refine wK (by omega) (by omega) ?_); conv => whnf)
  refine bcase_n (fun g4 => ?_) (fun g4 => ?_) <;> conv => whnf
  · exact ret_of rfl (notF fun h => g4 (by rw [hmp, hmf, h.len]))
  have hlen : f.pg.length = f.fr.length := by omega
  repeat ((first | refine bF ?_ | refine bT ?_ | refine dK (by kernel_rfl) ?_ | refine cK rfl ?_ | refine cK (by first | decide | omega) ?_ | refine wK (by omega) (by omega) ?_); conv => whnf)
  refine aloop (ι := Nat) (fun k => [(1, .ptr 1 0 0), (3, .d (.int .i64 (nFr (f.fr.take k)))), (39, .d (.lst (f.fr.map encF))), (40, .d (.int .i64 (f.fr.map encF).length)), (41, .d (.int .i64 k))]) (fun _ => [(1, .box f.box false)])
    (fun k => k ≤ f.fr.length ∧ ∀ i, i < k → FPlace f i) (fun k => f.fr.length - k) 0 ⟨Nat.zero_le _, fun j h => absurd h (Nat.not_lt_zero _)⟩ (le0 (le_of_cov ⟨rfl, rfl, rfl, rfl, rfl, trivial⟩ ⟨rfl, trivial⟩ ⟨rfl, rfl, rfl, rfl⟩)) ?_
  rintro k ⟨hk, hR⟩
  have hck : nFr (f.fr.take k) ≤ 8 := Nat.le_trans List.countP_le_length (by simp; omega)
  conv => whnf
  refine bcase_p (fun h => ?_) (fun h => ?_) <;> conv => whnf
  · have hk2 : k < f.fr.length := by omega
    have hk3 : k < f.pg.length := by omega
    have hcs := nFr_take hk2
    have hlast (hs : FPlace f k) : ∀ j, j < k + 1 → FPlace f j := fun j hj => (Nat.lt_succ_iff_lt_or_eq.1 hj).elim (hR j) (fun e => by subst e; exact hs)
    refine idxK_nat (by omega) ?_
    conv => whnf
    refine getRow_of (x := encF f.fr[k]) (by simp [hk2]) ?_
    conv => whnf
    repeat ((first | refine bF ?_ | refine bT ?_ | refine dK (by kernel_rfl) ?_ | refine cK rfl ?_ | refine cK (by first | decide | omega) ?_ | refine wK (by omega) (by omega) ?_); conv => whnf)
    refine idxK_nat (by omega) ?_
    conv => whnf
    refine getRow_of (x := encP f.pg[k]) (by simp [hk3]) ?_
    conv => whnf
    repeat ((first | refine bF ?_ | refine bT ?_ | refine dK (by kernel_rfl) ?_ | refine cK rfl ?_ | refine cK (by first | decide | omega) ?_ | refine wK (by omega) (by omega) ?_); conv => whnf)
    refine bcase_p (fun g5 => ?_) (fun g5 => ?_) <;> conv => whnf
    · repeat ((first | refine bF ?_ | refine bT ?_ | refine dK (by kernel_rfl) ?_ | refine cK rfl ?_ | refine cK (by first | decide | omega) ?_ | refine wK (by omega) (by omega) ?_); conv => whnf)
      refine bcase_n (fun g6 => ?_) (fun g6 => ?_) <;> conv => whnf
      · repeat ((first | refine bF ?_ | refine bT ?_ | refine dK (by kernel_rfl) ?_ | refine cK rfl ?_ | refine cK (by first | decide | omega) ?_ | refine wK (by omega) (by omega) ?_); conv => whnf)
        exact ret_of rfl (notF fun h => by rcases h.place k hk2 hk2 hk3 with ⟨_, e, _⟩ | ⟨e, _⟩; exact g6 e; exact e g5)
      repeat ((first | refine bF ?_ | refine bT ?_ | refine dK (by kernel_rfl) ?_ | refine cK rfl ?_ | refine cK (by first | decide | omega) ?_ | refine wK (by omega) (by omega) ?_); conv => whnf)
      have hpg : f.pg[k] = noPg ↔ (f.pg[k].1 = 0 ∧ f.pg[k].2.1 = 0 ∧ f.pg[k].2.2 = ByteArray.empty) := ⟨fun e => by rw [e]; exact ⟨rfl, rfl, rfl⟩, fun ⟨a, b, c⟩ => Prod.ext a (Prod.ext b c)⟩
      refine bcase_intro (fun g7 => ?_) (fun g7 => ?_) <;> conv => whnf
      · refine ret_of rfl (notF fun h => ?_)
        rcases h.place k hk2 hk2 hk3 with ⟨_, _, e⟩ | ⟨e, _⟩
        · have := hpg.1 e; simp [this] at g7
        · exact e g5
      · repeat ((first | refine bF ?_ | refine bT ?_ | refine dK (by kernel_rfl) ?_ | refine cK rfl ?_ | refine cK (by first | decide | omega) ?_ | refine wK (by omega) (by omega) ?_); conv => whnf)
        have hz : f.pg[k] = noPg := hpg.2 (by simpa using g7)
        exact ⟨k + 1, ⟨by omega, hlast fun _ _ => .inl ⟨g5, by omega, hz⟩⟩, by omega, le0 (le_of_cov ⟨rfl, by
          show AV.d (.int .i64 (nFr (f.fr.take k))) = AV.d (.int .i64 (nFr (f.fr.take (k + 1)))); rw [hcs, if_pos g5]; rfl, rfl, rfl, rfl, trivial⟩ ⟨rfl, trivial⟩ ⟨rfl, rfl, rfl, rfl⟩)⟩
    · have hbad (hb : ¬ (f.fr[k].1 ≠ 0 ∧ f.fr[k].1 = f.pg[k].1 ∧ pgR f.pg[k] = true ∧ Tb.findS f.tb f.pg[k].1 = ((k : Int), true))) : ¬ FRight f := fun h => by
        rcases h.place k hk2 hk2 hk3 with ⟨e, _⟩ | e
        · exact g5 e
        · exact hb e
      repeat ((first | refine bF ?_ | refine bT ?_ | refine dK (by kernel_rfl) ?_ | refine cK rfl ?_ | refine cK (by first | decide | omega) ?_ | refine wK (by omega) (by omega) ?_); conv => whnf)
      refine bcase_n (fun g8 => ?_) (fun g8 => ?_) <;> conv => whnf
      · repeat ((first | refine bF ?_ | refine bT ?_ | refine dK (by kernel_rfl) ?_ | refine cK rfl ?_ | refine cK (by first | decide | omega) ?_ | refine wK (by omega) (by omega) ?_); conv => whnf)
        exact ret_of rfl (notF (hbad fun e => g8 e.2.1))
      repeat ((first | refine bF ?_ | refine bT ?_ | refine dK (by kernel_rfl) ?_ | refine cK rfl ?_ | refine cK (by first | decide | omega) ?_ | refine wK (by omega) (by omega) ?_); conv => whnf)
      refine callX_pure (pageRight_ok f.pg[k]) ?_
      conv => whnf
      refine bcase_intro (fun g9 => ?_) (fun g9 => ?_) <;> conv => whnf
      · repeat ((first | refine bF ?_ | refine bT ?_ | refine dK (by kernel_rfl) ?_ | refine cK rfl ?_ | refine cK (by first | decide | omega) ?_ | refine wK (by omega) (by omega) ?_); conv => whnf)
        exact ret_of rfl (notF (hbad fun e => by rw [e.2.2.1] at g9; cases g9))
      simp at g9
      repeat ((first | refine bF ?_ | refine bT ?_ | refine dK (by kernel_rfl) ?_ | refine cK rfl ?_ | refine cK (by first | decide | omega) ?_ | refine wK (by omega) (by omega) ?_); conv => whnf)
      refine callX_pure (Tb.find_ok f.tb f.pg[k].1 h1) ?_
      conv => whnf
      repeat ((first | refine bF ?_ | refine bT ?_ | refine dK (by kernel_rfl) ?_ | refine cK rfl ?_ | refine cK (by first | decide | omega) ?_ | refine wK (by omega) (by omega) ?_); conv => whnf)
      refine bcase_intro (fun g10 => ?_) (fun g10 => ?_) <;> conv => whnf
      · repeat ((first | refine bF ?_ | refine bT ?_ | refine dK (by kernel_rfl) ?_ | refine cK rfl ?_ | refine cK (by first | decide | omega) ?_ | refine wK (by omega) (by omega) ?_); conv => whnf)
        exact ret_of rfl (notF (hbad fun e => by rw [e.2.2.2] at g10; cases g10))
      repeat ((first | refine bF ?_ | refine bT ?_ | refine dK (by kernel_rfl) ?_ | refine cK rfl ?_ | refine cK (by first | decide | omega) ?_ | refine wK (by omega) (by omega) ?_); conv => whnf)
      refine bcase_n (fun g11 => ?_) (fun g11 => ?_) <;> conv => whnf
      · repeat ((first | refine bF ?_ | refine bT ?_ | refine dK (by kernel_rfl) ?_ | refine cK rfl ?_ | refine cK (by first | decide | omega) ?_ | refine wK (by omega) (by omega) ?_); conv => whnf)
        exact ret_of rfl (notF (hbad fun e => g11 (by rw [e.2.2.2])))
      repeat ((first | refine bF ?_ | refine bT ?_ | refine dK (by kernel_rfl) ?_ | refine cK rfl ?_ | refine cK (by first | decide | omega) ?_ | refine wK (by omega) (by omega) ?_); conv => whnf)
      have hfi : Tb.findS f.tb f.pg[k].1 = ((k : Int), true) := Prod.ext (by simpa using g11) (by simpa using g10)
      exact ⟨k + 1, ⟨by omega, hlast fun _ _ => .inr ⟨g5, by omega, g9, hfi⟩⟩, by omega, le0 (le_of_cov ⟨rfl, by
          show AV.d (.int .i64 ((nFr (f.fr.take k) : Int) + 1)) = AV.d (.int .i64 (nFr (f.fr.take (k + 1)))); rw [hcs, if_neg g5]; rfl, rfl, rfl, rfl, trivial⟩ ⟨rfl, trivial⟩ ⟨rfl, rfl, rfl, rfl⟩)⟩
  have hkl : k = f.fr.length := by omega
  subst hkl
  rw [List.take_length]
  have hpl : ((Tb.pagesS f.tb).map enc1).length = Tb.cntS f.tb := by rw [List.length_map, Tb.pages_len hT]
  repeat ((first | refine bF ?_ | refine bT ?_ | refine dK (by kernel_rfl) ?_ | refine cK rfl ?_ | refine cK (by first | decide | omega) ?_ | refine wK (by omega) (by omega) ?_); conv => whnf)
  refine callX_pure (Tb.pages_ok f.tb h1) ?_
  conv => whnf
  repeat ((first | refine bF ?_ | refine bT ?_ | refine dK (by kernel_rfl) ?_ | refine cK rfl ?_ | refine cK (by first | decide | omega) ?_ | refine wK (by omega) (by omega) ?_); conv => whnf)
  refine bcase_n (fun g12 => ?_) (fun g12 => ?_) <;> conv => whnf
  · exact ret_of rfl (notF fun h => g12 (by rw [hpl, h.cnt]))
  have hcnt : Tb.cntS f.tb = nFr f.fr := by omega
  repeat ((first | refine bF ?_ | refine bT ?_ | refine dK (by kernel_rfl) ?_ | refine cK rfl ?_ | refine cK (by first | decide | omega) ?_ | refine wK (by omega) (by omega) ?_); conv => whnf)
  refine aloop (ι := Nat) (fun k => [(1, .ptr 1 0 0), (97, .d (encIs f.dt)), (98, .d (.int .i64 (f.dt.map encI).length)), (99, .d (.int .i64 k))]) (fun _ => [(1, .box f.box false)])
    (fun k => k ≤ f.dt.length ∧ ∀ i, i < k → ∀ h : i < f.dt.length, (Tb.findS f.tb f.dt[i].1).2 = true) (fun k => f.dt.length - k) 0 ⟨Nat.zero_le _, fun j h => absurd h (Nat.not_lt_zero _)⟩ (le0 (le_of_cov ⟨rfl, rfl, rfl, rfl, trivial⟩ ⟨rfl, trivial⟩ ⟨rfl, rfl, rfl, rfl⟩)) ?_
  rintro q ⟨hq, hQ⟩
  conv => whnf
  refine bcase_p (fun g13 => ?_) (fun g13 => ?_) <;> conv => whnf
  · have hq2 : q < f.dt.length := by omega
    refine idxK_nat (by omega) ?_
    conv => whnf
    refine getRow_of (x := encI f.dt[q]) (by simp [hq2]) ?_
    conv => whnf
    repeat ((first | refine bF ?_ | refine bT ?_ | refine dK (by kernel_rfl) ?_ | refine cK rfl ?_ | refine cK (by first | decide | omega) ?_ | refine wK (by omega) (by omega) ?_); conv => whnf)
    refine callX_pure (Tb.find_ok f.tb f.dt[q].1 h1) ?_
    conv => whnf
    repeat ((first | refine bF ?_ | refine bT ?_ | refine dK (by kernel_rfl) ?_ | refine cK rfl ?_ | refine cK (by first | decide | omega) ?_ | refine wK (by omega) (by omega) ?_); conv => whnf)
    refine bcase_intro (fun g14 => ?_) (fun g14 => ?_) <;> conv => whnf
    · repeat ((first | refine bF ?_ | refine bT ?_ | refine dK (by kernel_rfl) ?_ | refine cK rfl ?_ | refine cK (by first | decide | omega) ?_ | refine wK (by omega) (by omega) ?_); conv => whnf)
      exact ret_of rfl (notF fun h => by have := h.dirty q hq2; rw [this] at g14; cases g14)
    · repeat ((first | refine bF ?_ | refine bT ?_ | refine dK (by kernel_rfl) ?_ | refine cK rfl ?_ | refine cK (by first | decide | omega) ?_ | refine wK (by omega) (by omega) ?_); conv => whnf)
      exact ⟨q + 1, ⟨by omega, fun j hj hj2 => (Nat.lt_succ_iff_lt_or_eq.1 hj).elim (fun h => hQ j h hj2) (fun e => by subst e; simpa using g14)⟩, by omega, le0 (le_of_cov ⟨rfl, rfl, rfl, rfl, trivial⟩ ⟨rfl, trivial⟩ ⟨rfl, rfl, rfl, rfl⟩)⟩
  · exact ret_of rfl (congrArg D.bool (frightB_t.2 ⟨hC, hT, g3, hlen, fun i hi => hR i hi, hcnt, fun i hi => hQ i (by omega) hi⟩).symm)
end Go.Lk

