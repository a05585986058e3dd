/-
  What is proved here: what functions of the program compute, and what follows; no condition beyond each theorem's own.
-/
import Derived.Test.YtfpmffadpjoogaaGreatPn4
import Derived.Test.YtfpmffadpjoogaaGreatPq11
set_option linter.unusedSimpArgs false
set_option linter.unusedVariables false
set_option linter.unnecessarySimpa false
set_option linter.unusedSectionVars false
namespace Go.Lk
open Go Go.Proofs Go.RowKit

theorem bn_0 : bn (fun _ => 0) 16 = 0 := by decide +kernel
theorem ud_ud {W : Nat → Int} {id : Nat} {a b : Int} (h : W id = b) : ud (ud W id a) id b = W := by
  funext q
  simp only [ud]
  by_cases e : q = id
  · rw [if_pos e, e, h]
  · rw [if_neg e, if_neg e]
set_option maxRecDepth 100000 in
set_option maxHeartbeats 8000000 in
theorem poolAgain_ok (many then_ : Int) (m0 : 0 ≤ many) (m1 : many ≤ 255) (t0 : 0 ≤ then_) (t1 : then_ ≤ 255) (acts : List PAct) : ACall Tryz.prog 3 [.int .u8 many, .int .u8 then_, .lst (acts.map encPA)] (.bool true) := by
  obtain ⟨n, hn⟩ : ∃ n : Nat, 1 + many % 8 = (n : Int) := ⟨(1 + many % 8).toNat, by omega⟩
  obtain ⟨n', hn'⟩ : ∃ n : Nat, 1 + then_ % 8 = (n : Int) := ⟨(1 + then_ % 8).toNat, by omega⟩
  have hm : (acts.map encPA).length = acts.length := List.length_map ..
  have n1 : 1 ≤ n := by omega
  have n8 : n ≤ 8 := by omega
  refine acall_of Tryz.func3 3 rfl (by kernel_rfl) ?_
  conv => whnf
  repeat ((first | refine bF ?_ | refine bT ?_ | refine dK (by kernel_rfl) ?_ | refine cK rfl ?_ | refine cK (by first | decide | omega) ?_ | refine wK (by omega) (by omega) ?_); conv => whnf)
  refine callX_pure (small_ok acts) ?_
  conv => whnf
  repeat ((first | refine bF ?_ | refine bT ?_ | refine dK (by kernel_rfl) ?_ | refine cK rfl ?_ | refine cK (by first | decide | omega) ?_ | refine wK (by omega) (by omega) ?_); conv => whnf)
  refine bcase_intro (fun h1 => ?_) (fun h1 => ?_) <;> conv => whnf
  · refine callX_pure awake16_ok ?_
    conv => whnf
    repeat ((first | refine bF ?_ | refine bT ?_ | refine dK (by kernel_rfl) ?_ | refine cK rfl ?_ | refine cK (by first | decide | omega) ?_ | refine wK (by omega) (by omega) ?_); conv => whnf)
    exact ret_of rfl rfl
  repeat ((first | refine bF ?_ | refine bT ?_ | refine dK (by kernel_rfl) ?_ | refine cK rfl ?_ | refine cK (by first | decide | omega) ?_ | refine wK (by omega) (by omega) ?_); conv => whnf)
  refine callX_pure (new17_nil many m0 m1 n hn) ?_
  conv => whnf
  repeat ((first | refine bF ?_ | refine bT ?_ | refine dK (by kernel_rfl) ?_ | refine cK rfl ?_ | refine cK (by first | decide | omega) ?_ | refine wK (by omega) (by omega) ?_); conv => whnf)
  refine aloop (ι := Nat × PS × (Nat → Pg) × (Nat → Int)) (fun k => [(1, .d (.int .u8 then_)), (2, .d (.lst (acts.map encPA))), (7, .ptr 7 0 0), (8, .ptr 8 0 0), (10, .d (.int .i64 k.1))])
    (fun k => [(7, .box k.2.1.box false), (8, .box ((mL k.2.2.1 k.2.2.2 n).map AV.d) false)])
    (fun k => k.1 ≤ acts.length ∧ k.1 ≤ 60 ∧ Inv k.2.1 k.2.2.1 k.2.2.2 (1 + k.1) k.1 ∧ k.2.1.f.fr.length = n) (fun k => 60 - k.1)
    (0, p0 n, (fun _ => zP), fun _ => 0) ⟨Nat.zero_le _, Nat.zero_le _, p0_inv n1 n8, List.length_replicate ..⟩ (le0 (le_of_cov ⟨rfl, rfl, rfl, rfl, rfl, trivial⟩ ⟨rfl, rfl, trivial⟩ ⟨rfl, rfl, rfl, rfl⟩)) ?_
  rintro ⟨k, p, P, W⟩ ⟨hk, hk80, hI, hlen⟩
  simp only at hk hk80 hI hlen ⊢
  conv => whnf
  refine bcase_p (fun h5 => ?_) (fun h5 => ?_) <;> conv => whnf
  rotate_left
  · repeat ((first | refine bF ?_ | refine bT ?_ | refine dK (by kernel_rfl) ?_ | refine cK rfl ?_ | refine cK (by first | decide | omega) ?_ | refine wK (by omega) (by omega) ?_); conv => whnf)
    obtain ⟨q, l, e1, iq, qn, qdt, c8⟩ := age_all hI ByteArray.empty
    have hop : openM q.d n' = (⟨newFS n', ⟨q.d.sec, []⟩, 0⟩, 0) := by
      have := open_rest iq.pj.rest iq.pj.z0 (n := n') (by omega) (by omega)
      rw [Int.toNat_natCast] at this
      rw [iq.pj.d]; exact this
    have hon := iq.on
    rw [qdt] at hon
    have hI2 : Inv ⟨newFS n', ⟨q.d.sec, []⟩, 0⟩ P (fun _ => 0) (1 + (k : Int)) 0 := Inv.new (by omega) (by omega) iq.pj.rest iq.pj.z0 hon (by decide)
    have cop := open_ok q.d n'
    rw [hop] at cop
    have hlm : (mL P W n).length = 69 := rfl
    have hM := ML.of P W n
    refine callX_pure c8 ?_
    conv => whnf
    repeat ((first | refine bF ?_ | refine bT ?_ | refine dK (by kernel_rfl) ?_ | refine cK rfl ?_ | refine cK (by first | decide | omega) ?_ | refine wK (by omega) (by omega) ?_); conv => whnf)
    refine divK_rem (by decide) t0 ?_
    conv => whnf
    refine wrapK_in (w64 (by omega) (by omega)) ?_
    conv => whnf
    refine wrapK_in (w64 (by omega) (by omega)) ?_
    conv => whnf
    rw [hn']
    repeat ((first | refine bF ?_ | refine bT ?_ | refine dK (by kernel_rfl) ?_ | refine cK rfl ?_ | refine cK (by first | decide | omega) ?_ | refine wK (by omega) (by omega) ?_); conv => whnf)
    refine callX_pure cop ?_
    conv => whnf
    repeat ((first | refine bF ?_ | refine bT ?_ | refine dK (by kernel_rfl) ?_ | refine cK rfl ?_ | refine cK (by first | decide | omega) ?_ | refine wK (by omega) (by omega) ?_); conv => whnf)
    refine aloop (ι := Nat × PS) (fun j => [(8, .ptr 8 0 0), (21, .ptr 21 0 0), (23, .d (.int .i64 ((j.1 : Int) + 1)))])
      (fun j => [(8, .box ((mL P W n).map AV.d) false), (21, .box j.2.box false)])
      (fun j => j.1 ≤ 16 ∧ Inv j.2 P (fun _ => 0) (1 + (k : Int) + 2 * j.1) (2 * j.1) ∧ j.2.f.fr.length = n') (fun j => 16 - j.1) (0, ⟨newFS n', ⟨q.d.sec, []⟩, 0⟩) ⟨Nat.zero_le _, by simpa using hI2, List.length_replicate ..⟩ (le0 (le_of_cov ⟨rfl, rfl, rfl, trivial⟩ ⟨rfl, rfl, trivial⟩ ⟨rfl, rfl, rfl, rfl⟩)) ?_
    rintro ⟨j, r⟩ ⟨hj, hJ, hjl⟩
    simp only at hj hJ hjl ⊢
    conv => whnf
    refine bcase_p (fun f1 => ?_) (fun f1 => ?_) <;> conv => whnf
    rotate_left
    · repeat ((first | refine bF ?_ | refine bT ?_ | refine dK (by kernel_rfl) ?_ | refine cK rfl ?_ | refine cK (by first | decide | omega) ?_ | refine wK (by omega) (by omega) ?_); conv => whnf)
      refine callX_pure awake16_ok ?_
      conv => whnf
      repeat ((first | refine bF ?_ | refine bT ?_ | refine dK (by kernel_rfl) ?_ | refine cK rfl ?_ | refine cK (by first | decide | omega) ?_ | refine wK (by omega) (by omega) ?_); conv => whnf)
      exact ret_of rfl rfl
    have hj16 : j + 1 < 17 := by omega
    have hmp := hM.p (j := 0 + 0 + (j + 1) * (T 42).size) (q := j + 1) (by simp only [szs]; omega) hj16
    have hdF := docFetch (P := P) (W := fun _ => 0) (n := n') (id := j + 1) (by omega) (by omega) ByteArray.empty (fun _ => rfl) (by rw [bn_0]; omega)
    by_cases hz : (P (j + 1)).1 = 0
    · rw [if_pos hz] at hdF
      have hzz := iq.on.zz (q := j + 1) (by omega) (by omega) hz
      rw [hzz] at hmp
      obtain ⟨r2, l2, f2, ir, _, r2l, _, _, _, c1⟩ := act_known hJ (by omega) (by omega) (by omega) (by omega) hjl hdF
      have hdU := docUnpin (P := P) (W := fun _ => 0) (n := n') (id := j + 1) (by omega) (by omega) ByteArray.empty
      rw [if_pos rfl] at hdU
      obtain ⟨r3, l3, f3, ir3, _, r3l, _, _, _, c5⟩ := act_known ir (by omega) (by omega) (by omega) (by omega) r2l hdU
      repeat ((first | refine bF ?_ | refine bT ?_ | refine dK (by kernel_rfl) ?_ | refine cK rfl ?_ | refine cK (by first | decide | omega) ?_ | refine wK (by omega) (by omega) ?_); conv => whnf)
      refine callX_pure c1 ?_
      conv => whnf
      repeat ((first | refine bF ?_ | refine bT ?_ | refine dK (by kernel_rfl) ?_ | refine cK rfl ?_ | refine cK (by first | decide | omega) ?_ | refine wK (by omega) (by omega) ?_); conv => whnf)
      refine idxK_nat (i := j + 1) (by omega) ?_
      conv => whnf
      try (refine condK_of rfl ?_)
      refine (part_agg (l := mL P W n) (l2 := encP zP) (by first | rfl | simp only [killC_d]) (by first | omega | (simp only [szs]; omega)) (hmp) ?_)
      conv => whnf
      repeat ((first | refine bF ?_ | refine bT ?_ | refine dK (by kernel_rfl) ?_ | refine cK rfl ?_ | refine cK (by first | decide | omega) ?_ | refine wK (by omega) (by omega) ?_); conv => whnf)
      refine idxK_nat (i := j + 1) (by omega) ?_
      conv => whnf
      try (refine condK_of rfl ?_)
      refine (part_one (l := mL P W n) (.int .i64 (P (j + 1)).1) (by first | rfl | simp only [killC_d]) (ML.i (by simp only [szs]; omega) hj16) ?_)
      conv => whnf
      repeat ((first | refine bF ?_ | refine bT ?_ | refine dK (by kernel_rfl) ?_ | refine cK rfl ?_ | refine cK (by first | decide | omega) ?_ | refine wK (by omega) (by omega) ?_); conv => whnf)
      refine bcase_f (by simp [hz]) ?_
      conv => whnf
      repeat ((first | refine bF ?_ | refine bT ?_ | refine dK (by kernel_rfl) ?_ | refine cK rfl ?_ | refine cK (by first | decide | omega) ?_ | refine wK (by omega) (by omega) ?_); conv => whnf)
      refine callX_pure c5 ?_
      conv => whnf
      repeat ((first | refine bF ?_ | refine bT ?_ | refine dK (by kernel_rfl) ?_ | refine cK rfl ?_ | refine cK (by first | decide | omega) ?_ | refine wK (by omega) (by omega) ?_); conv => whnf)
      exact ⟨(j + 1, r3), ⟨by simp only []; omega, ir3.mono (by simp only []; omega) (by simp only []; omega), r3l⟩, by simp only []; omega, (le0 (le_of_cov ⟨rfl, rfl, rfl, trivial⟩ ⟨rfl, rfl, trivial⟩ ⟨rfl, rfl, rfl, rfl⟩))⟩
    · rw [if_neg hz] at hdF
      obtain ⟨r2, l2, f2, ir, _, r2l, _, _, _, c1⟩ := act_known hJ (by omega) (by omega) (by omega) (by omega) hjl hdF
      have hdU := docUnpin (P := P) (W := ud (fun _ => 0) (j + 1) 1) (n := n') (id := j + 1) (by omega) (by omega) ByteArray.empty
      rw [ud_at, if_neg (show ¬ (1 : Int) = 0 by decide), Int.sub_self, ud_ud (W := fun _ => 0) rfl] at hdU
      obtain ⟨r3, l3, f3, ir3, _, r3l, _, _, _, c5⟩ := act_known ir (by omega) (by omega) (by omega) (by omega) r2l hdU
      repeat ((first | refine bF ?_ | refine bT ?_ | refine dK (by kernel_rfl) ?_ | refine cK rfl ?_ | refine cK (by first | decide | omega) ?_ | refine wK (by omega) (by omega) ?_); conv => whnf)
      refine callX_pure c1 ?_
      conv => whnf
      repeat ((first | refine bF ?_ | refine bT ?_ | refine dK (by kernel_rfl) ?_ | refine cK rfl ?_ | refine cK (by first | decide | omega) ?_ | refine wK (by omega) (by omega) ?_); conv => whnf)
      refine idxK_nat (i := j + 1) (by omega) ?_
      conv => whnf
      try (refine condK_of rfl ?_)
      refine (part_agg (l := mL P W n) (l2 := encP (P (j + 1))) (by first | rfl | simp only [killC_d]) (by first | omega | (simp only [szs]; omega)) (hmp) ?_)
      conv => whnf
      repeat ((first | refine bF ?_ | refine bT ?_ | refine dK (by kernel_rfl) ?_ | refine cK rfl ?_ | refine cK (by first | decide | omega) ?_ | refine wK (by omega) (by omega) ?_); conv => whnf)
      refine bcase_f (by simp) ?_
      conv => whnf
      refine idxK_nat (i := j + 1) (by omega) ?_
      conv => whnf
      try (refine condK_of rfl ?_)
      refine (part_one (l := mL P W n) (.int .i64 (P (j + 1)).1) (by first | rfl | simp only [killC_d]) (ML.i (by simp only [szs]; omega) hj16) ?_)
      conv => whnf
      repeat ((first | refine bF ?_ | refine bT ?_ | refine dK (by kernel_rfl) ?_ | refine cK rfl ?_ | refine cK (by first | decide | omega) ?_ | refine wK (by omega) (by omega) ?_); conv => whnf)
      refine bcase_f (by simp [hz]) ?_
      conv => whnf
      repeat ((first | refine bF ?_ | refine bT ?_ | refine dK (by kernel_rfl) ?_ | refine cK rfl ?_ | refine cK (by first | decide | omega) ?_ | refine wK (by omega) (by omega) ?_); conv => whnf)
      refine callX_pure c5 ?_
      conv => whnf
      repeat ((first | refine bF ?_ | refine bT ?_ | refine dK (by kernel_rfl) ?_ | refine cK rfl ?_ | refine cK (by first | decide | omega) ?_ | refine wK (by omega) (by omega) ?_); conv => whnf)
      exact ⟨(j + 1, r3), ⟨by simp only []; omega, ir3.mono (by simp only []; omega) (by simp only []; omega), r3l⟩, by simp only []; omega, (le0 (le_of_cov ⟨rfl, rfl, rfl, trivial⟩ ⟨rfl, rfl, trivial⟩ ⟨rfl, rfl, rfl, rfl⟩))⟩
  refine bcase_p (fun h6 => ?_) (fun h6 => ?_) <;> conv => whnf
  rotate_left
  · repeat ((first | refine bF ?_ | refine bT ?_ | refine dK (by kernel_rfl) ?_ | refine cK rfl ?_ | refine cK (by first | decide | omega) ?_ | refine wK (by omega) (by omega) ?_); conv => whnf)
    obtain ⟨q, l, e1, iq, qn, qdt, c8⟩ := age_all hI ByteArray.empty
    have hop : openM q.d n' = (⟨newFS n', ⟨q.d.sec, []⟩, 0⟩, 0) := by
      have := open_rest iq.pj.rest iq.pj.z0 (n := n') (by omega) (by omega)
      rw [Int.toNat_natCast] at this
      rw [iq.pj.d]; exact this
    have hon := iq.on
    rw [qdt] at hon
    have hI2 : Inv ⟨newFS n', ⟨q.d.sec, []⟩, 0⟩ P (fun _ => 0) (1 + (k : Int)) 0 := Inv.new (by omega) (by omega) iq.pj.rest iq.pj.z0 hon (by decide)
    have cop := open_ok q.d n'
    rw [hop] at cop
    have hlm : (mL P W n).length = 69 := rfl
    have hM := ML.of P W n
    refine callX_pure c8 ?_
    conv => whnf
    repeat ((first | refine bF ?_ | refine bT ?_ | refine dK (by kernel_rfl) ?_ | refine cK rfl ?_ | refine cK (by first | decide | omega) ?_ | refine wK (by omega) (by omega) ?_); conv => whnf)
    refine divK_rem (by decide) t0 ?_
    conv => whnf
    refine wrapK_in (w64 (by omega) (by omega)) ?_
    conv => whnf
    refine wrapK_in (w64 (by omega) (by omega)) ?_
    conv => whnf
    rw [hn']
    repeat ((first | refine bF ?_ | refine bT ?_ | refine dK (by kernel_rfl) ?_ | refine cK rfl ?_ | refine cK (by first | decide | omega) ?_ | refine wK (by omega) (by omega) ?_); conv => whnf)
    refine callX_pure cop ?_
    conv => whnf
    repeat ((first | refine bF ?_ | refine bT ?_ | refine dK (by kernel_rfl) ?_ | refine cK rfl ?_ | refine cK (by first | decide | omega) ?_ | refine wK (by omega) (by omega) ?_); conv => whnf)
    refine aloop (ι := Nat × PS) (fun j => [(8, .ptr 8 0 0), (21, .ptr 21 0 0), (23, .d (.int .i64 ((j.1 : Int) + 1)))])
      (fun j => [(8, .box ((mL P W n).map AV.d) false), (21, .box j.2.box false)])
      (fun j => j.1 ≤ 16 ∧ Inv j.2 P (fun _ => 0) (1 + (k : Int) + 2 * j.1) (2 * j.1) ∧ j.2.f.fr.length = n') (fun j => 16 - j.1) (0, ⟨newFS n', ⟨q.d.sec, []⟩, 0⟩) ⟨Nat.zero_le _, by simpa using hI2, List.length_replicate ..⟩ (le0 (le_of_cov ⟨rfl, rfl, rfl, trivial⟩ ⟨rfl, rfl, trivial⟩ ⟨rfl, rfl, rfl, rfl⟩)) ?_
    rintro ⟨j, r⟩ ⟨hj, hJ, hjl⟩
    simp only at hj hJ hjl ⊢
    conv => whnf
    refine bcase_p (fun f1 => ?_) (fun f1 => ?_) <;> conv => whnf
    rotate_left
    · repeat ((first | refine bF ?_ | refine bT ?_ | refine dK (by kernel_rfl) ?_ | refine cK rfl ?_ | refine cK (by first | decide | omega) ?_ | refine wK (by omega) (by omega) ?_); conv => whnf)
      refine callX_pure awake16_ok ?_
      conv => whnf
      repeat ((first | refine bF ?_ | refine bT ?_ | refine dK (by kernel_rfl) ?_ | refine cK rfl ?_ | refine cK (by first | decide | omega) ?_ | refine wK (by omega) (by omega) ?_); conv => whnf)
      exact ret_of rfl rfl
    have hj16 : j + 1 < 17 := by omega
    have hmp := hM.p (j := 0 + 0 + (j + 1) * (T 42).size) (q := j + 1) (by simp only [szs]; omega) hj16
    have hdF := docFetch (P := P) (W := fun _ => 0) (n := n') (id := j + 1) (by omega) (by omega) ByteArray.empty (fun _ => rfl) (by rw [bn_0]; omega)
    by_cases hz : (P (j + 1)).1 = 0
    · rw [if_pos hz] at hdF
      have hzz := iq.on.zz (q := j + 1) (by omega) (by omega) hz
      rw [hzz] at hmp
      obtain ⟨r2, l2, f2, ir, _, r2l, _, _, _, c1⟩ := act_known hJ (by omega) (by omega) (by omega) (by omega) hjl hdF
      have hdU := docUnpin (P := P) (W := fun _ => 0) (n := n') (id := j + 1) (by omega) (by omega) ByteArray.empty
      rw [if_pos rfl] at hdU
      obtain ⟨r3, l3, f3, ir3, _, r3l, _, _, _, c5⟩ := act_known ir (by omega) (by omega) (by omega) (by omega) r2l hdU
      repeat ((first | refine bF ?_ | refine bT ?_ | refine dK (by kernel_rfl) ?_ | refine cK rfl ?_ | refine cK (by first | decide | omega) ?_ | refine wK (by omega) (by omega) ?_); conv => whnf)
      refine callX_pure c1 ?_
      conv => whnf
      repeat ((first | refine bF ?_ | refine bT ?_ | refine dK (by kernel_rfl) ?_ | refine cK rfl ?_ | refine cK (by first | decide | omega) ?_ | refine wK (by omega) (by omega) ?_); conv => whnf)
      refine idxK_nat (i := j + 1) (by omega) ?_
      conv => whnf
      try (refine condK_of rfl ?_)
      refine (part_agg (l := mL P W n) (l2 := encP zP) (by first | rfl | simp only [killC_d]) (by first | omega | (simp only [szs]; omega)) (hmp) ?_)
      conv => whnf
      repeat ((first | refine bF ?_ | refine bT ?_ | refine dK (by kernel_rfl) ?_ | refine cK rfl ?_ | refine cK (by first | decide | omega) ?_ | refine wK (by omega) (by omega) ?_); conv => whnf)
      refine idxK_nat (i := j + 1) (by omega) ?_
      conv => whnf
      try (refine condK_of rfl ?_)
      refine (part_one (l := mL P W n) (.int .i64 (P (j + 1)).1) (by first | rfl | simp only [killC_d]) (ML.i (by simp only [szs]; omega) hj16) ?_)
      conv => whnf
      repeat ((first | refine bF ?_ | refine bT ?_ | refine dK (by kernel_rfl) ?_ | refine cK rfl ?_ | refine cK (by first | decide | omega) ?_ | refine wK (by omega) (by omega) ?_); conv => whnf)
      refine bcase_f (by simp [hz]) ?_
      conv => whnf
      repeat ((first | refine bF ?_ | refine bT ?_ | refine dK (by kernel_rfl) ?_ | refine cK rfl ?_ | refine cK (by first | decide | omega) ?_ | refine wK (by omega) (by omega) ?_); conv => whnf)
      refine callX_pure c5 ?_
      conv => whnf
      repeat ((first | refine bF ?_ | refine bT ?_ | refine dK (by kernel_rfl) ?_ | refine cK rfl ?_ | refine cK (by first | decide | omega) ?_ | refine wK (by omega) (by omega) ?_); conv => whnf)
      exact ⟨(j + 1, r3), ⟨by simp only []; omega, ir3.mono (by simp only []; omega) (by simp only []; omega), r3l⟩, by simp only []; omega, (le0 (le_of_cov ⟨rfl, rfl, rfl, trivial⟩ ⟨rfl, rfl, trivial⟩ ⟨rfl, rfl, rfl, rfl⟩))⟩
    · rw [if_neg hz] at hdF
      obtain ⟨r2, l2, f2, ir, _, r2l, _, _, _, c1⟩ := act_known hJ (by omega) (by omega) (by omega) (by omega) hjl hdF
      have hdU := docUnpin (P := P) (W := ud (fun _ => 0) (j + 1) 1) (n := n') (id := j + 1) (by omega) (by omega) ByteArray.empty
      rw [ud_at, if_neg (show ¬ (1 : Int) = 0 by decide), Int.sub_self, ud_ud (W := fun _ => 0) rfl] at hdU
      obtain ⟨r3, l3, f3, ir3, _, r3l, _, _, _, c5⟩ := act_known ir (by omega) (by omega) (by omega) (by omega) r2l hdU
      repeat ((first | refine bF ?_ | refine bT ?_ | refine dK (by kernel_rfl) ?_ | refine cK rfl ?_ | refine cK (by first | decide | omega) ?_ | refine wK (by omega) (by omega) ?_); conv => whnf)
      refine callX_pure c1 ?_
      conv => whnf
      repeat ((first | refine bF ?_ | refine bT ?_ | refine dK (by kernel_rfl) ?_ | refine cK rfl ?_ | refine cK (by first | decide | omega) ?_ | refine wK (by omega) (by omega) ?_); conv => whnf)
      refine idxK_nat (i := j + 1) (by omega) ?_
      conv => whnf
      try (refine condK_of rfl ?_)
      refine (part_agg (l := mL P W n) (l2 := encP (P (j + 1))) (by first | rfl | simp only [killC_d]) (by first | omega | (simp only [szs]; omega)) (hmp) ?_)
      conv => whnf
      repeat ((first | refine bF ?_ | refine bT ?_ | refine dK (by kernel_rfl) ?_ | refine cK rfl ?_ | refine cK (by first | decide | omega) ?_ | refine wK (by omega) (by omega) ?_); conv => whnf)
      refine bcase_f (by simp) ?_
      conv => whnf
      refine idxK_nat (i := j + 1) (by omega) ?_
      conv => whnf
      try (refine condK_of rfl ?_)
      refine (part_one (l := mL P W n) (.int .i64 (P (j + 1)).1) (by first | rfl | simp only [killC_d]) (ML.i (by simp only [szs]; omega) hj16) ?_)
      conv => whnf
      repeat ((first | refine bF ?_ | refine bT ?_ | refine dK (by kernel_rfl) ?_ | refine cK rfl ?_ | refine cK (by first | decide | omega) ?_ | refine wK (by omega) (by omega) ?_); conv => whnf)
      refine bcase_f (by simp [hz]) ?_
      conv => whnf
      repeat ((first | refine bF ?_ | refine bT ?_ | refine dK (by kernel_rfl) ?_ | refine cK rfl ?_ | refine cK (by first | decide | omega) ?_ | refine wK (by omega) (by omega) ?_); conv => whnf)
      refine callX_pure c5 ?_
      conv => whnf
      repeat ((first | refine bF ?_ | refine bT ?_ | refine dK (by kernel_rfl) ?_ | refine cK rfl ?_ | refine cK (by first | decide | omega) ?_ | refine wK (by omega) (by omega) ?_); conv => whnf)
      exact ⟨(j + 1, r3), ⟨by simp only []; omega, ir3.mono (by simp only []; omega) (by simp only []; omega), r3l⟩, by simp only []; omega, (le0 (le_of_cov ⟨rfl, rfl, rfl, trivial⟩ ⟨rfl, rfl, trivial⟩ ⟨rfl, rfl, rfl, rfl⟩))⟩
  have hk2 : k < acts.length := by omega
  obtain ⟨q, P', W', x, l, e, e1, iq, qn, qlen, run, few, none, hdoc, c18, c19⟩ := act_facts hI (by omega) (by omega) (by omega) (by omega) acts[k] hlen
  repeat ((first | refine bF ?_ | refine bT ?_ | refine dK (by kernel_rfl) ?_ | refine cK rfl ?_ | refine cK (by first | decide | omega) ?_ | refine wK (by omega) (by omega) ?_); conv => whnf)
  refine idxK_nat (by omega) ?_
  conv => whnf
  refine getRow_of (x := encPA acts[k]) (by simp [hk2]) ?_
  conv => whnf
  repeat ((first | refine bF ?_ | refine bT ?_ | refine dK (by kernel_rfl) ?_ | refine cK rfl ?_ | refine cK (by first | decide | omega) ?_ | refine wK (by omega) (by omega) ?_); conv => whnf)
  refine callX_pure c18 ?_
  conv => whnf
  repeat ((first | refine bF ?_ | refine bT ?_ | refine dK (by kernel_rfl) ?_ | refine cK rfl ?_ | refine cK (by first | decide | omega) ?_ | refine wK (by omega) (by omega) ?_); conv => whnf)
  refine idxK_nat (by omega) ?_
  conv => whnf
  refine getRow_of (x := encPA acts[k]) (by simp [hk2]) ?_
  conv => whnf
  repeat ((first | refine bF ?_ | refine bT ?_ | refine dK (by kernel_rfl) ?_ | refine cK rfl ?_ | refine cK (by first | decide | omega) ?_ | refine wK (by omega) (by omega) ?_); conv => whnf)
  refine idxK_nat (by omega) ?_
  conv => whnf
  refine getRow_of (x := encPA acts[k]) (by simp [hk2]) ?_
  conv => whnf
  repeat ((first | refine bF ?_ | refine bT ?_ | refine dK (by kernel_rfl) ?_ | refine cK rfl ?_ | refine cK (by first | decide | omega) ?_ | refine wK (by omega) (by omega) ?_); conv => whnf)
  refine idxK_nat (by omega) ?_
  conv => whnf
  refine getRow_of (x := encPA acts[k]) (by simp [hk2]) ?_
  conv => whnf
  repeat ((first | refine bF ?_ | refine bT ?_ | refine dK (by kernel_rfl) ?_ | refine cK rfl ?_ | refine cK (by first | decide | omega) ?_ | refine wK (by omega) (by omega) ?_); conv => whnf)
  refine callX_pure c19 ?_
  conv => whnf
  repeat ((first | refine bF ?_ | refine bT ?_ | refine dK (by kernel_rfl) ?_ | refine cK rfl ?_ | refine cK (by first | decide | omega) ?_ | refine wK (by omega) (by omega) ?_); conv => whnf)
  exact ⟨(k + 1, q, P', W'), ⟨by simp only []; omega, by simp only []; omega, by simp only [Int.natCast_succ]; rw [← Int.add_assoc]; exact iq, qlen⟩, by simp only []; omega, (le0 (le_of_cov ⟨rfl, rfl, rfl, rfl, rfl, trivial⟩ ⟨rfl, rfl, trivial⟩ ⟨rfl, rfl, rfl, rfl⟩))⟩
end Go.Lk

