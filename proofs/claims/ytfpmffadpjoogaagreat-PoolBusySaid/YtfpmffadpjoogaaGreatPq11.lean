/-
  What is proved here: what functions of the program compute, and what follows; no condition beyond each theorem's own.
-/
import Derived.Test.YtfpmffadpjoogaaGreatBAn
set_option linter.unusedSimpArgs false
set_option linter.unusedVariables false
set_option linter.unnecessarySimpa false
set_option linter.unusedSectionVars false
namespace Go.Lk
open Go Go.Proofs Go.RowKit

theorem newG_nil : newG [] = (List.replicate 35 nul16, fun _ => zP) := rfl
theorem new17_nil (many : Int) (m0 : 0 ≤ many) (m1 : many ≤ 255) (n : Nat) (hn : 1 + many % 8 = (n : Int)) : ACall Tryz.prog 17 [.int .u8 many, .lst []]
    (.tup [encPS (p0 n), .agg (mL (fun _ => zP) (fun _ => 0) n), .bool true]) := new17_ok many m0 m1 [] n hn
set_option maxRecDepth 100000 in
theorem poolBusy_ok (many back : Int) (m0 : 0 ≤ many) (m1 : many ≤ 255) (b0 : 0 ≤ back) (b1 : back ≤ 255) : ACall Tryz.prog 5 [.int .u8 many, .int .u8 back] (.bool true) := by
  obtain ⟨n, hn⟩ : ∃ n : Nat, 1 + many % 8 = (n : Int) := ⟨(1 + many % 8).toNat, by omega⟩
  have n1 : 1 ≤ n := by omega
  have n8 : n ≤ 8 := by omega
  refine acall_of Tryz.func5 2 rfl (by kernel_rfl) ?_
  conv => whnf
  repeat ((first | refine bF ?_ | refine bT ?_ | refine dK (by kernel_rfl) ?_ | refine cK rfl ?_ | refine cK (by first | decide | omega) ?_ | refine wK (by omega) (by omega) ?_); conv => whnf)
  refine callX_pure (new17_nil many m0 m1 n hn) ?_
  conv => whnf
  repeat ((first | refine bF ?_ | refine bT ?_ | refine dK (by kernel_rfl) ?_ | refine cK rfl ?_ | refine cK (by first | decide | omega) ?_ | refine wK (by omega) (by omega) ?_); conv => whnf)
  refine divK_rem (by decide) m0 ?_
  conv => whnf
  refine wrapK_in (w64 (by omega) (by omega)) ?_
  conv => whnf
  refine wrapK_in (w64 (by omega) (by omega)) ?_
  conv => whnf
  rw [hn]
  repeat ((first | refine bF ?_ | refine bT ?_ | refine dK (by kernel_rfl) ?_ | refine cK rfl ?_ | refine cK (by first | decide | omega) ?_ | refine wK (by omega) (by omega) ?_); conv => whnf)
  refine aloop (ι := Nat × PS) (fun k => [(1, .d (.int .u8 back)), (5, .ptr 5 0 0), (8, .d (.int .i64 n)), (9, .d (.int .i64 ((k.1 : Int) + 1)))])
    (fun k => [(5, .box k.2.box false)])
    (fun k => k.1 ≤ n ∧ BI n k.1 k.2) (fun k => n - k.1) (0, p0 n) ⟨Nat.zero_le _, BI.new n1 n8⟩ (le0 (le_of_cov ⟨rfl, rfl, rfl, rfl, trivial⟩ ⟨rfl, trivial⟩ ⟨rfl, rfl, rfl, rfl⟩)) ?_
  rintro ⟨k, p⟩ ⟨hk, hB⟩
  simp only at hk hB ⊢
  conv => whnf
  refine bcase_p (fun h5 => ?_) (fun h5 => ?_) <;> conv => whnf
  · obtain ⟨q, e1, hB2⟩ := hB.step n8 (by omega) ByteArray.empty
    have c18 := poolDo_ok p (2, ((k + 1 : Nat) : Int), ByteArray.empty) hB.inv.pj.fm hB.inv.pj.n1
    rw [e1] at c18
    repeat ((first | refine bF ?_ | refine bT ?_ | refine dK (by kernel_rfl) ?_ | refine cK rfl ?_ | refine cK (by first | decide | omega) ?_ | refine wK (by omega) (by omega) ?_); conv => whnf)
    refine callX_pure c18 ?_
    conv => whnf
    repeat ((first | refine bF ?_ | refine bT ?_ | refine dK (by kernel_rfl) ?_ | refine cK rfl ?_ | refine cK (by first | decide | omega) ?_ | refine wK (by omega) (by omega) ?_); conv => whnf)
    repeat ((first | refine bF ?_ | refine bT ?_ | refine dK (by kernel_rfl) ?_ | refine cK rfl ?_ | refine cK (by first | decide | omega) ?_ | refine wK (by omega) (by omega) ?_); conv => whnf)
    exact ⟨(k + 1, q), ⟨by simp only []; omega, hB2⟩, by simp only []; omega, (le0 (le_of_cov ⟨rfl, rfl, rfl, rfl, trivial⟩ ⟨rfl, trivial⟩ ⟨rfl, rfl, rfl, rfl⟩))⟩
  have ek : k = n := by omega
  subst ek
  obtain ⟨e2, hall⟩ := hB.full n1 n8 ByteArray.empty
  have c18 := poolDo_ok p (2, ((k + 1 : Nat) : Int), ByteArray.empty) hB.inv.pj.fm hB.inv.pj.n1
  rw [e2] at c18
  have hs := hB.inv.pj.rest.m
  have hc : p.d.ca.length ≤ 1000 := by rw [hB.inv.pj.ca]; decide
  repeat ((first | refine bF ?_ | refine bT ?_ | refine dK (by kernel_rfl) ?_ | refine cK rfl ?_ | refine cK (by first | decide | omega) ?_ | refine wK (by omega) (by omega) ?_); conv => whnf)
  refine callX_pure c18 ?_
  conv => whnf
  repeat ((first | refine bF ?_ | refine bT ?_ | refine dK (by kernel_rfl) ?_ | refine cK rfl ?_ | refine cK (by first | decide | omega) ?_ | refine wK (by omega) (by omega) ?_); conv => whnf)
  refine callX_pure (rsameD_ok p.d p.d (by omega) hc) ?_
  conv => whnf
  repeat ((first | refine bF ?_ | refine bT ?_ | refine dK (by kernel_rfl) ?_ | refine cK rfl ?_ | refine cK (by first | decide | omega) ?_ | refine wK (by omega) (by omega) ?_); conv => whnf)
  refine bcase_f (by simp) ?_
  conv => whnf
  repeat ((first | refine bF ?_ | refine bT ?_ | refine dK (by kernel_rfl) ?_ | refine cK rfl ?_ | refine cK (by first | decide | omega) ?_ | refine wK (by omega) (by omega) ?_); conv => whnf)
  refine aloop (ι := Nat) (fun j => [(1, .d (.int .u8 back)), (8, .d (.int .i64 k)), (14, .ptr 14 0 0), (18, .d (.int .i64 ((j : Int) + 1)))])
    (fun j => [(14, .box p.box false)])
    (fun j => j ≤ k) (fun j => k - j) 0 (Nat.zero_le _) (le0 (le_of_cov ⟨rfl, rfl, rfl, rfl, trivial⟩ ⟨rfl, trivial⟩ ⟨rfl, rfl, rfl, rfl⟩)) ?_
  intro j hj
  conv => whnf
  refine bcase_p (fun h6 => ?_) (fun h6 => ?_) <;> conv => whnf
  · obtain ⟨q, l, e1⟩ := hB.read n1 n8 (id := j + 1) (by omega) (by omega) ByteArray.empty
    have c18 := poolDo_ok p (3, ((j + 1 : Nat) : Int), ByteArray.empty) hB.inv.pj.fm hB.inv.pj.n1
    rw [e1] at c18
    repeat ((first | refine bF ?_ | refine bT ?_ | refine dK (by kernel_rfl) ?_ | refine cK rfl ?_ | refine cK (by first | decide | omega) ?_ | refine wK (by omega) (by omega) ?_); conv => whnf)
    refine callX_pure c18 ?_
    conv => whnf
    repeat ((first | refine bF ?_ | refine bT ?_ | refine dK (by kernel_rfl) ?_ | refine cK rfl ?_ | refine cK (by first | decide | omega) ?_ | refine wK (by omega) (by omega) ?_); conv => whnf)
    refine bcase_f (by simp [newP]) ?_
    conv => whnf
    repeat ((first | refine bF ?_ | refine bT ?_ | refine dK (by kernel_rfl) ?_ | refine cK rfl ?_ | refine cK (by first | decide | omega) ?_ | refine wK (by omega) (by omega) ?_); conv => whnf)
    exact ⟨j + 1, by omega, by omega, (le0 (le_of_cov ⟨rfl, rfl, rfl, rfl, trivial⟩ ⟨rfl, trivial⟩ ⟨rfl, rfl, rfl, rfl⟩))⟩
  have hk0 : (k : Int) ≠ 0 := by omega
  obtain ⟨id, hid⟩ : ∃ id : Nat, 1 + back % (k : Int) = (id : Int) := ⟨(1 + back % (k : Int)).toNat, by have := Int.emod_nonneg back hk0; omega⟩
  have i1 : 1 ≤ id := by have := Int.emod_nonneg back hk0; omega
  have i2 : id ≤ k := by have := Int.emod_lt_of_pos back (show (0 : Int) < k by omega); omega
  have hem := Int.emod_nonneg back hk0
  have hem2 := Int.emod_lt_of_pos back (show (0 : Int) < k by omega)
  repeat ((first | refine bF ?_ | refine bT ?_ | refine dK (by kernel_rfl) ?_ | refine cK rfl ?_ | refine cK (by first | decide | omega) ?_ | refine wK (by omega) (by omega) ?_); conv => whnf)
  refine divK_rem hk0 b0 ?_
  conv => whnf
  refine wrapK_in (w64 (by omega) (by omega)) ?_
  conv => whnf
  rw [hid]
  have hPk : bP k id = newP id := by rw [bP, if_pos ⟨i1, i2⟩]
  obtain ⟨c, e, l, t1, t2, t3, t4, t5, t6, t7, t8⟩ := ten hB.inv (by omega) (by omega) (by omega) (by omega) (k := id) (id := k + 1) i1 (by omega) (by omega) (by omega) (by omega) hall (by rw [bW, if_pos ⟨i1, i2⟩]) (by rw [bW, if_neg (by omega)]) (by rw [bP, if_neg (by omega)]; rfl)
    (by rw [hPk]; show (id : Int) ≠ 0; omega) (by rw [hB.d]; exact get_new (by omega)) (by rw [hB.len]; exact bW_bn2 k (by omega) id (by omega) i1 i2) ByteArray.empty ByteArray.empty
  have c5 := poolDo_ok p (5, (id : Int), ByteArray.empty) hB.inv.pj.fm hB.inv.pj.n1
  rw [t1] at c5
  have c2 := poolDo_ok c (2, ((k + 1 : Nat) : Int), ByteArray.empty) t2 (by rw [t3]; exact hB.inv.pj.n1)
  rw [t4] at c2
  have c26 := rgetS_ok e.d id
  rw [t8, hPk] at c26
  have hll : (l.map encJ).length = 10 := by rw [List.length_map]; exact t5
  repeat ((first | refine bF ?_ | refine bT ?_ | refine dK (by kernel_rfl) ?_ | refine cK rfl ?_ | refine cK (by first | decide | omega) ?_ | refine wK (by omega) (by omega) ?_); conv => whnf)
  refine callX_pure c5 ?_
  conv => whnf
  repeat ((first | refine bF ?_ | refine bT ?_ | refine dK (by kernel_rfl) ?_ | refine cK rfl ?_ | refine cK (by first | decide | omega) ?_ | refine wK (by omega) (by omega) ?_); conv => whnf)
  refine callX_pure c2 ?_
  conv => whnf
  repeat ((first | refine bF ?_ | refine bT ?_ | refine dK (by kernel_rfl) ?_ | refine cK rfl ?_ | refine cK (by first | decide | omega) ?_ | refine wK (by omega) (by omega) ?_); conv => whnf)
  refine callX_pure c26 ?_
  conv => whnf
  repeat ((first | refine bF ?_ | refine bT ?_ | refine dK (by kernel_rfl) ?_ | refine cK rfl ?_ | refine cK (by first | decide | omega) ?_ | refine wK (by omega) (by omega) ?_); conv => whnf)
  refine bcase_t (by simp only [hll]; rfl) ?_
  conv => whnf
  repeat ((first | refine bF ?_ | refine bT ?_ | refine dK (by kernel_rfl) ?_ | refine cK rfl ?_ | refine cK (by first | decide | omega) ?_ | refine wK (by omega) (by omega) ?_); conv => whnf)
  refine bcase_t (by simp [newP]) ?_
  conv => whnf
  repeat ((first | refine bF ?_ | refine bT ?_ | refine dK (by kernel_rfl) ?_ | refine cK rfl ?_ | refine cK (by first | decide | omega) ?_ | refine wK (by omega) (by omega) ?_); conv => whnf)
  refine callX_pure awake16_ok ?_
  conv => whnf
  repeat ((first | refine bF ?_ | refine bT ?_ | refine dK (by kernel_rfl) ?_ | refine cK rfl ?_ | refine cK (by first | decide | omega) ?_ | refine wK (by omega) (by omega) ?_); conv => whnf)
  exact ret_of rfl rfl
end Go.Lk

