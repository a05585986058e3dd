/-
  What is proved here: what functions of the program compute, and what follows; no condition beyond each theorem's own.
-/
import Derived.Test.YtfpmffadpjoogaaGreatBAm
set_option linter.unusedSimpArgs false
set_option linter.unusedVariables false
set_option linter.unnecessarySimpa false
set_option linter.unusedSectionVars false
namespace Go.Lk
open Go Go.Proofs Go.RowKit

structure Stp where
  kind : Int
  n : Int
  a : PAct
  keep : List Int
  keeps : List Int
def encSt (s : Stp) : List D := [.int .i64 s.kind, .int .i64 s.n, .int .i64 s.a.1, .int .i64 s.a.2.1, .str s.a.2.2, .lst (s.keep.map encN), .lst (s.keeps.map encN)]
def okSt (s : Stp) : Bool := decide (s.a.2.2.size ≤ 100) && (decide (s.keep.length ≤ 60) && decide (s.keeps.length ≤ 60))
def small17B (l : List Stp) : Bool := (l.take 60).all okSt
theorem small17_at {l : List Stp} (h : small17B l = true) (h60 : l.length ≤ 60) {i : Nat} (hi : i < l.length) : l[i].keep.length ≤ 60 ∧ l[i].keeps.length ≤ 60 := by
  rw [small17B, List.take_of_length_le h60, List.all_eq_true] at h
  have := h _ (List.getElem_mem hi)
  simp [okSt] at this
  exact this.2
theorem small17_no {l : List Stp} {k : Nat} (hk : k < l.length) (h60 : k < 60) (h : okSt l[k] = false) : small17B l = false := by
  rw [small17B, Bool.eq_false_iff]
  intro g
  rw [List.all_eq_true] at g
  have := g l[k] (List.mem_take_iff_getElem.2 ⟨k, by omega, rfl⟩)
  rw [h] at this; cases this
theorem small17_ok (l : List Stp) : ACall Tryz.prog 38 [.lst (l.map encSt)] (.bool (small17B l)) := by
  have hm : (l.map encSt).length = l.length := List.length_map ..
  refine acall_of Tryz.func38 1 rfl (by kernel_rfl) ?_
  conv => whnf
  repeat ((first | refine bF ?_ | refine bT ?_ | refine dK (by kernel_rfl) ?_ | refine cK rfl ?_ | refine cK (by first | decide | omega) ?_ | refine wK (by omega) (by omega) ?_); conv => whnf)
  refine aloop (ι := Nat) (fun k => [(0, .d (.lst (l.map encSt))), (3, .d (.int .i64 k))]) (fun _ => [])
    (fun k => k ≤ l.length ∧ k ≤ 60 ∧ (l.take k).all okSt = true) (fun k => 60 - k) 0 ⟨by omega, by decide, rfl⟩ (le0 (le_of_cov ⟨rfl, rfl, trivial⟩ trivial ⟨rfl, rfl, rfl, rfl⟩)) ?_
  rintro k ⟨hk, hk80, hall⟩
  have hfin : (¬ k < l.length) ∨ (¬ k < 60) → small17B l = true := fun h => by
    rw [small17B]
    by_cases e : k = 60
    · subst e; exact hall
    · rw [List.take_of_length_le (by omega)]
      rw [List.take_of_length_le (by omega)] at hall
      exact hall
  conv => whnf
  refine bcase_p (fun h5 => ?_) (fun h5 => ?_) <;> conv => whnf
  rotate_left
  · repeat ((first | refine bF ?_ | refine bT ?_ | refine dK (by kernel_rfl) ?_ | refine cK rfl ?_ | refine cK (by first | decide | omega) ?_ | refine wK (by omega) (by omega) ?_); conv => whnf)
    rw [hfin (by omega)]
    exact ret_of rfl rfl
  refine bcase_p (fun h6 => ?_) (fun h6 => ?_) <;> conv => whnf
  rotate_left
  · repeat ((first | refine bF ?_ | refine bT ?_ | refine dK (by kernel_rfl) ?_ | refine cK rfl ?_ | refine cK (by first | decide | omega) ?_ | refine wK (by omega) (by omega) ?_); conv => whnf)
    rw [hfin (by omega)]
    exact ret_of rfl rfl
  have hk2 : k < l.length := by omega
  have m1 : (l[k].keep.map encN).length = l[k].keep.length := List.length_map ..
  have m2 : (l[k].keeps.map encN).length = l[k].keeps.length := List.length_map ..
  repeat ((first | refine bF ?_ | refine bT ?_ | refine dK (by kernel_rfl) ?_ | refine cK rfl ?_ | refine cK (by first | decide | omega) ?_ | refine wK (by omega) (by omega) ?_); conv => whnf)
  refine idxK_nat (by omega) ?_
  conv => whnf
  refine getRow_of (x := encSt l[k]) (by simp [hk2]) ?_
  conv => whnf
  repeat ((first | refine bF ?_ | refine bT ?_ | refine dK (by kernel_rfl) ?_ | refine cK rfl ?_ | refine cK (by first | decide | omega) ?_ | refine wK (by omega) (by omega) ?_); conv => whnf)
  refine bcase_p (fun h7 => ?_) (fun h7 => ?_) <;> conv => whnf
  · repeat ((first | refine bF ?_ | refine bT ?_ | refine dK (by kernel_rfl) ?_ | refine cK rfl ?_ | refine cK (by first | decide | omega) ?_ | refine wK (by omega) (by omega) ?_); conv => whnf)
    have h7 : (100 : Int) < (l[k].a.2.2.size : Nat) := h7
    rw [small17_no hk2 (by omega) (by simp [okSt]; omega)]
    exact ret_of rfl rfl
  have h7 : ¬ (100 : Int) < (l[k].a.2.2.size : Nat) := h7
  refine idxK_nat (by omega) ?_
  conv => whnf
  refine getRow_of (x := encSt l[k]) (by simp [hk2]) ?_
  conv => whnf
  repeat ((first | refine bF ?_ | refine bT ?_ | refine dK (by kernel_rfl) ?_ | refine cK rfl ?_ | refine cK (by first | decide | omega) ?_ | refine wK (by omega) (by omega) ?_); conv => whnf)
  refine bcase_p (fun h8 => ?_) (fun h8 => ?_) <;> conv => whnf
  · repeat ((first | refine bF ?_ | refine bT ?_ | refine dK (by kernel_rfl) ?_ | refine cK rfl ?_ | refine cK (by first | decide | omega) ?_ | refine wK (by omega) (by omega) ?_); conv => whnf)
    rw [small17_no hk2 (by omega) (by simp [okSt]; omega)]
    exact ret_of rfl rfl
  refine idxK_nat (by omega) ?_
  conv => whnf
  refine getRow_of (x := encSt l[k]) (by simp [hk2]) ?_
  conv => whnf
  repeat ((first | refine bF ?_ | refine bT ?_ | refine dK (by kernel_rfl) ?_ | refine cK rfl ?_ | refine cK (by first | decide | omega) ?_ | refine wK (by omega) (by omega) ?_); conv => whnf)
  refine bcase_p (fun h9 => ?_) (fun h9 => ?_) <;> conv => whnf
  · repeat ((first | refine bF ?_ | refine bT ?_ | refine dK (by kernel_rfl) ?_ | refine cK rfl ?_ | refine cK (by first | decide | omega) ?_ | refine wK (by omega) (by omega) ?_); conv => whnf)
    rw [small17_no hk2 (by omega) (by simp [okSt]; omega)]
    exact ret_of rfl rfl
  repeat ((first | refine bF ?_ | refine bT ?_ | refine dK (by kernel_rfl) ?_ | refine cK rfl ?_ | refine cK (by first | decide | omega) ?_ | refine wK (by omega) (by omega) ?_); conv => whnf)
  exact ⟨k + 1, ⟨by omega, by omega, by
    rw [take_snoc hk2, List.all_append, hall]
    simp [okSt]; omega⟩, by omega, (le0 (le_of_cov ⟨rfl, rfl, trivial⟩ trivial ⟨rfl, rfl, rfl, rfl⟩))⟩
noncomputable def stepT (t : TS) (s : Stp) : TS := if s.kind = 8 then armT t s.n else if s.kind = 9 then crashT t s.keep else if s.kind = 10 then cutT t s.keep s.n s.keeps else (doT t s.a).1
theorem GT.step {m t} (h : GT m t) (s : Stp) : GT m (stepT t s) := by
  rw [stepT]
  repeat' split
  · exact h.arm _
  · exact h.crash _
  · exact h.cut _ _ _
  · exact h.do _
set_option maxRecDepth 100000 in
set_option maxHeartbeats 8000000 in
theorem crashSame_ok (many : Int) (m0 : 0 ≤ many) (m1 : many ≤ 255) (l : List Stp) : ACall Tryz.prog 14 [.int .u8 many, .lst (l.map encSt)] (.bool true) := by
  obtain ⟨n, hn⟩ : ∃ n : Nat, 1 + many % 8 = (n : Int) := ⟨(1 + many % 8).toNat, by omega⟩
  have hm : (l.map encSt).length = l.length := List.length_map ..
  have hI := NI.ofG []
  have hst := start_inv [] (n := n) (by omega) (by omega)
  have hG0 : GT 0 (tsOf (start n [])) := Gd.t ⟨hst.pj.fm, hI.us, rfl⟩
  refine acall_of Tryz.func14 2 rfl (by kernel_rfl) ?_
  conv => whnf
  repeat ((first | refine bF ?_ | refine bT ?_ | refine dK (by kernel_rfl) ?_ | refine cK rfl ?_ | refine cK (by first | decide | omega) ?_ | refine wK (by omega) (by omega) ?_); conv => whnf)
  refine callX_pure (small17_ok l) ?_
  conv => whnf
  repeat ((first | refine bF ?_ | refine bT ?_ | refine dK (by kernel_rfl) ?_ | refine cK rfl ?_ | refine cK (by first | decide | omega) ?_ | refine wK (by omega) (by omega) ?_); conv => whnf)
  refine bcase_intro (fun h1 => ?_) (fun h1 => ?_) <;> conv => whnf
  · refine callX_pure awake17_ok ?_
    conv => whnf
    repeat ((first | refine bF ?_ | refine bT ?_ | refine dK (by kernel_rfl) ?_ | refine cK rfl ?_ | refine cK (by first | decide | omega) ?_ | refine wK (by omega) (by omega) ?_); conv => whnf)
    exact ret_of rfl rfl
  have h1 : small17B l = true := by simpa using h1
  repeat ((first | refine bF ?_ | refine bT ?_ | refine dK (by kernel_rfl) ?_ | refine cK rfl ?_ | refine cK (by first | decide | omega) ?_ | refine wK (by omega) (by omega) ?_); conv => whnf)
  refine bcase_p (fun h2 => ?_) (fun h2 => ?_) <;> conv => whnf
  · refine callX_pure awake17_ok ?_
    conv => whnf
    repeat ((first | refine bF ?_ | refine bT ?_ | refine dK (by kernel_rfl) ?_ | refine cK rfl ?_ | refine cK (by first | decide | omega) ?_ | refine wK (by omega) (by omega) ?_); conv => whnf)
    exact ret_of rfl rfl
  have hll : l.length ≤ 60 := by omega
  repeat ((first | refine bF ?_ | refine bT ?_ | refine dK (by kernel_rfl) ?_ | refine cK rfl ?_ | refine cK (by first | decide | omega) ?_ | refine wK (by omega) (by omega) ?_); conv => whnf)
  refine callX_pure (beginW_ok many m0 m1 [] n hn) ?_
  conv => whnf
  repeat ((first | refine bF ?_ | refine bT ?_ | refine dK (by kernel_rfl) ?_ | refine cK rfl ?_ | refine cK (by first | decide | omega) ?_ | refine wK (by omega) (by omega) ?_); conv => whnf)
  refine callX_pure (beginW_ok many m0 m1 [] n hn) ?_
  conv => whnf
  repeat ((first | refine bF ?_ | refine bT ?_ | refine dK (by kernel_rfl) ?_ | refine cK rfl ?_ | refine cK (by first | decide | omega) ?_ | refine wK (by omega) (by omega) ?_); conv => whnf)
  refine aloop (ι := Nat × TS) (fun k => [(9, .ptr 9 0 0), (10, .ptr 10 0 0), (48, .d (.lst (l.map encSt))), (49, .d (.int .i64 (l.map encSt).length)), (50, .d (.int .i64 k.1))])
    (fun k => [(9, .box (k.2.cells.map AV.d) false), (10, .box (k.2.cells.map AV.d) false)])
    (fun k => k.1 ≤ l.length ∧ GT 0 k.2) (fun k => l.length - k.1) (0, tsOf (start n [])) ⟨Nat.zero_le _, hG0⟩ (le0 (le_of_cov ⟨rfl, rfl, rfl, rfl, rfl, trivial⟩ ⟨rfl, rfl, trivial⟩ ⟨rfl, rfl, rfl, rfl⟩)) ?_
  rintro ⟨k, t⟩ ⟨hk, hG⟩
  simp only at hk hG ⊢
  conv => whnf
  refine bcase_p (fun h5 => ?_) (fun h5 => ?_) <;> conv => whnf
  rotate_left
  · repeat ((first | refine bF ?_ | refine bT ?_ | refine dK (by kernel_rfl) ?_ | refine cK rfl ?_ | refine cK (by first | decide | omega) ?_ | refine wK (by omega) (by omega) ?_); conv => whnf)
    refine callX_pure awake17_ok ?_
    conv => whnf
    repeat ((first | refine bF ?_ | refine bT ?_ | refine dK (by kernel_rfl) ?_ | refine cK rfl ?_ | refine cK (by first | decide | omega) ?_ | refine wK (by omega) (by omega) ?_); conv => whnf)
    exact ret_of rfl rfl
  have hk2 : k < l.length := by omega
  obtain ⟨k1, k2⟩ := small17_at h1 hll hk2
  have hG2 := hG.step l[k]
  repeat ((first | refine bF ?_ | refine bT ?_ | refine dK (by kernel_rfl) ?_ | refine cK rfl ?_ | refine cK (by first | decide | omega) ?_ | refine wK (by omega) (by omega) ?_); conv => whnf)
  refine idxK_nat (by omega) ?_
  conv => whnf
  refine getRow_of (x := encSt l[k]) (by simp [hk2]) ?_
  conv => whnf
  repeat ((first | refine bF ?_ | refine bT ?_ | refine dK (by kernel_rfl) ?_ | refine cK rfl ?_ | refine cK (by first | decide | omega) ?_ | refine wK (by omega) (by omega) ?_); conv => whnf)
  refine bcase_p (fun c1 => ?_) (fun c1 => ?_) <;> conv => whnf
  · rw [stepT, if_pos c1] at hG2
    repeat ((first | refine bF ?_ | refine bT ?_ | refine dK (by kernel_rfl) ?_ | refine cK rfl ?_ | refine cK (by first | decide | omega) ?_ | refine wK (by omega) (by omega) ?_); conv => whnf)
    refine callX_pure (armT_ok t l[k].n) ?_
    conv => whnf
    repeat ((first | refine bF ?_ | refine bT ?_ | refine dK (by kernel_rfl) ?_ | refine cK rfl ?_ | refine cK (by first | decide | omega) ?_ | refine wK (by omega) (by omega) ?_); conv => whnf)
    refine callX_pure (armT_ok t l[k].n) ?_
    conv => whnf
    repeat ((first | refine bF ?_ | refine bT ?_ | refine dK (by kernel_rfl) ?_ | refine cK rfl ?_ | refine cK (by first | decide | omega) ?_ | refine wK (by omega) (by omega) ?_); conv => whnf)
    have hs := hG2.gd.us.dr.s2
    have hc := hG2.gd.us.dr.c1
    refine callX_pure (rsameD_ok (armT t l[k].n).p.d (armT t l[k].n).p.d (by omega) (by omega)) ?_
    conv => whnf
    repeat ((first | refine bF ?_ | refine bT ?_ | refine dK (by kernel_rfl) ?_ | refine cK rfl ?_ | refine cK (by first | decide | omega) ?_ | refine wK (by omega) (by omega) ?_); conv => whnf)
    refine bcase_f (by simp) ?_
    conv => whnf
    repeat ((first | refine bF ?_ | refine bT ?_ | refine dK (by kernel_rfl) ?_ | refine cK rfl ?_ | refine cK (by first | decide | omega) ?_ | refine wK (by omega) (by omega) ?_); conv => whnf)
    refine bcase_f (by simp) ?_
    conv => whnf
    repeat ((first | refine bF ?_ | refine bT ?_ | refine dK (by kernel_rfl) ?_ | refine cK rfl ?_ | refine cK (by first | decide | omega) ?_ | refine wK (by omega) (by omega) ?_); conv => whnf)
    refine bcase_f (by simp) ?_
    conv => whnf
    repeat ((first | refine bF ?_ | refine bT ?_ | refine dK (by kernel_rfl) ?_ | refine cK rfl ?_ | refine cK (by first | decide | omega) ?_ | refine wK (by omega) (by omega) ?_); conv => whnf)
    exact ⟨(k + 1, armT t l[k].n), ⟨by simp only []; omega, hG2⟩, by simp only []; omega, (le0 (le_of_cov ⟨rfl, rfl, rfl, rfl, rfl, trivial⟩ ⟨rfl, rfl, trivial⟩ ⟨rfl, rfl, rfl, rfl⟩))⟩
  rw [stepT, if_neg c1] at hG2
  repeat ((first | refine bF ?_ | refine bT ?_ | refine dK (by kernel_rfl) ?_ | refine cK rfl ?_ | refine cK (by first | decide | omega) ?_ | refine wK (by omega) (by omega) ?_); conv => whnf)
  refine bcase_p (fun c2 => ?_) (fun c2 => ?_) <;> conv => whnf
  · rw [if_pos c2] at hG2
    repeat ((first | refine bF ?_ | refine bT ?_ | refine dK (by kernel_rfl) ?_ | refine cK rfl ?_ | refine cK (by first | decide | omega) ?_ | refine wK (by omega) (by omega) ?_); conv => whnf)
    refine callX_pure (crashT_ok t l[k].keep (by omega)) ?_
    conv => whnf
    repeat ((first | refine bF ?_ | refine bT ?_ | refine dK (by kernel_rfl) ?_ | refine cK rfl ?_ | refine cK (by first | decide | omega) ?_ | refine wK (by omega) (by omega) ?_); conv => whnf)
    refine callX_pure (crashT_ok t l[k].keep (by omega)) ?_
    conv => whnf
    repeat ((first | refine bF ?_ | refine bT ?_ | refine dK (by kernel_rfl) ?_ | refine cK rfl ?_ | refine cK (by first | decide | omega) ?_ | refine wK (by omega) (by omega) ?_); conv => whnf)
    have hs := hG2.gd.us.dr.s2
    have hc := hG2.gd.us.dr.c1
    refine callX_pure (rsameD_ok (crashT t l[k].keep).p.d (crashT t l[k].keep).p.d (by omega) (by omega)) ?_
    conv => whnf
    repeat ((first | refine bF ?_ | refine bT ?_ | refine dK (by kernel_rfl) ?_ | refine cK rfl ?_ | refine cK (by first | decide | omega) ?_ | refine wK (by omega) (by omega) ?_); conv => whnf)
    refine bcase_f (by simp) ?_
    conv => whnf
    repeat ((first | refine bF ?_ | refine bT ?_ | refine dK (by kernel_rfl) ?_ | refine cK rfl ?_ | refine cK (by first | decide | omega) ?_ | refine wK (by omega) (by omega) ?_); conv => whnf)
    refine bcase_f (by simp) ?_
    conv => whnf
    repeat ((first | refine bF ?_ | refine bT ?_ | refine dK (by kernel_rfl) ?_ | refine cK rfl ?_ | refine cK (by first | decide | omega) ?_ | refine wK (by omega) (by omega) ?_); conv => whnf)
    refine bcase_f (by simp) ?_
    conv => whnf
    repeat ((first | refine bF ?_ | refine bT ?_ | refine dK (by kernel_rfl) ?_ | refine cK rfl ?_ | refine cK (by first | decide | omega) ?_ | refine wK (by omega) (by omega) ?_); conv => whnf)
    exact ⟨(k + 1, crashT t l[k].keep), ⟨by simp only []; omega, hG2⟩, by simp only []; omega, (le0 (le_of_cov ⟨rfl, rfl, rfl, rfl, rfl, trivial⟩ ⟨rfl, rfl, trivial⟩ ⟨rfl, rfl, rfl, rfl⟩))⟩
  rw [if_neg c2] at hG2
  repeat ((first | refine bF ?_ | refine bT ?_ | refine dK (by kernel_rfl) ?_ | refine cK rfl ?_ | refine cK (by first | decide | omega) ?_ | refine wK (by omega) (by omega) ?_); conv => whnf)
  refine bcase_p (fun c3 => ?_) (fun c3 => ?_) <;> conv => whnf
  · rw [if_pos c3] at hG2
    repeat ((first | refine bF ?_ | refine bT ?_ | refine dK (by kernel_rfl) ?_ | refine cK rfl ?_ | refine cK (by first | decide | omega) ?_ | refine wK (by omega) (by omega) ?_); conv => whnf)
    refine callX_pure (cutT_ok t l[k].keep l[k].n l[k].keeps (by omega) (by omega)) ?_
    conv => whnf
    repeat ((first | refine bF ?_ | refine bT ?_ | refine dK (by kernel_rfl) ?_ | refine cK rfl ?_ | refine cK (by first | decide | omega) ?_ | refine wK (by omega) (by omega) ?_); conv => whnf)
    refine callX_pure (cutT_ok t l[k].keep l[k].n l[k].keeps (by omega) (by omega)) ?_
    conv => whnf
    repeat ((first | refine bF ?_ | refine bT ?_ | refine dK (by kernel_rfl) ?_ | refine cK rfl ?_ | refine cK (by first | decide | omega) ?_ | refine wK (by omega) (by omega) ?_); conv => whnf)
    have hs := hG2.gd.us.dr.s2
    have hc := hG2.gd.us.dr.c1
    refine callX_pure (rsameD_ok (cutT t l[k].keep l[k].n l[k].keeps).p.d (cutT t l[k].keep l[k].n l[k].keeps).p.d (by omega) (by omega)) ?_
    conv => whnf
    repeat ((first | refine bF ?_ | refine bT ?_ | refine dK (by kernel_rfl) ?_ | refine cK rfl ?_ | refine cK (by first | decide | omega) ?_ | refine wK (by omega) (by omega) ?_); conv => whnf)
    refine bcase_f (by simp) ?_
    conv => whnf
    repeat ((first | refine bF ?_ | refine bT ?_ | refine dK (by kernel_rfl) ?_ | refine cK rfl ?_ | refine cK (by first | decide | omega) ?_ | refine wK (by omega) (by omega) ?_); conv => whnf)
    refine bcase_f (by simp) ?_
    conv => whnf
    repeat ((first | refine bF ?_ | refine bT ?_ | refine dK (by kernel_rfl) ?_ | refine cK rfl ?_ | refine cK (by first | decide | omega) ?_ | refine wK (by omega) (by omega) ?_); conv => whnf)
    refine bcase_f (by simp) ?_
    conv => whnf
    repeat ((first | refine bF ?_ | refine bT ?_ | refine dK (by kernel_rfl) ?_ | refine cK rfl ?_ | refine cK (by first | decide | omega) ?_ | refine wK (by omega) (by omega) ?_); conv => whnf)
    exact ⟨(k + 1, cutT t l[k].keep l[k].n l[k].keeps), ⟨by simp only []; omega, hG2⟩, by simp only []; omega, (le0 (le_of_cov ⟨rfl, rfl, rfl, rfl, rfl, trivial⟩ ⟨rfl, rfl, trivial⟩ ⟨rfl, rfl, rfl, rfl⟩))⟩
  rw [if_neg c3] at hG2
  repeat ((first | refine bF ?_ | refine bT ?_ | refine dK (by kernel_rfl) ?_ | refine cK rfl ?_ | refine cK (by first | decide | omega) ?_ | refine wK (by omega) (by omega) ?_); conv => whnf)
  refine callX_pure (hG.ok (by decide) l[k].a) ?_
  conv => whnf
  repeat ((first | refine bF ?_ | refine bT ?_ | refine dK (by kernel_rfl) ?_ | refine cK rfl ?_ | refine cK (by first | decide | omega) ?_ | refine wK (by omega) (by omega) ?_); conv => whnf)
  refine callX_pure (hG.ok (by decide) l[k].a) ?_
  conv => whnf
  repeat ((first | refine bF ?_ | refine bT ?_ | refine dK (by kernel_rfl) ?_ | refine cK rfl ?_ | refine cK (by first | decide | omega) ?_ | refine wK (by omega) (by omega) ?_); conv => whnf)
  refine bcase_f (by simp) ?_
  conv => whnf
  refine bcase_f (by simp) ?_
  conv => whnf
  repeat ((first | refine bF ?_ | refine bT ?_ | refine dK (by kernel_rfl) ?_ | refine cK rfl ?_ | refine cK (by first | decide | omega) ?_ | refine wK (by omega) (by omega) ?_); conv => whnf)
  have hs := hG2.gd.us.dr.s2
  have hc := hG2.gd.us.dr.c1
  refine callX_pure (rsameD_ok ((doT t l[k].a).1).p.d ((doT t l[k].a).1).p.d (by omega) (by omega)) ?_
  conv => whnf
  repeat ((first | refine bF ?_ | refine bT ?_ | refine dK (by kernel_rfl) ?_ | refine cK rfl ?_ | refine cK (by first | decide | omega) ?_ | refine wK (by omega) (by omega) ?_); conv => whnf)
  refine bcase_f (by simp) ?_
  conv => whnf
  repeat ((first | refine bF ?_ | refine bT ?_ | refine dK (by kernel_rfl) ?_ | refine cK rfl ?_ | refine cK (by first | decide | omega) ?_ | refine wK (by omega) (by omega) ?_); conv => whnf)
  refine bcase_f (by simp) ?_
  conv => whnf
  repeat ((first | refine bF ?_ | refine bT ?_ | refine dK (by kernel_rfl) ?_ | refine cK rfl ?_ | refine cK (by first | decide | omega) ?_ | refine wK (by omega) (by omega) ?_); conv => whnf)
  refine bcase_f (by simp) ?_
  conv => whnf
  repeat ((first | refine bF ?_ | refine bT ?_ | refine dK (by kernel_rfl) ?_ | refine cK rfl ?_ | refine cK (by first | decide | omega) ?_ | refine wK (by omega) (by omega) ?_); conv => whnf)
  exact ⟨(k + 1, (doT t l[k].a).1), ⟨by simp only []; omega, hG2⟩, by simp only []; omega, (le0 (le_of_cov ⟨rfl, rfl, rfl, rfl, rfl, trivial⟩ ⟨rfl, rfl, trivial⟩ ⟨rfl, rfl, rfl, rfl⟩))⟩
end Go.Lk

