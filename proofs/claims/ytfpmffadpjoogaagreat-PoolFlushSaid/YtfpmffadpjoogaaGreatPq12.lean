/-
  What is proved here: what functions of the program compute, and what follows; no condition beyond each theorem's own.
-/
import Derived.Test.YtfpmffadpjoogaaGreatBAn
set_option linter.unusedSimpArgs false
set_option linter.unusedVariables false
set_option linter.unnecessarySimpa false
set_option linter.unusedSectionVars false
namespace Go.Lk
open Go Go.Proofs Go.RowKit

/-- one act whose answer is known -/
theorem act_known {p P W v u} (h : Inv p P W v u) (hv1 : 1 ≤ v) (hv : v < 2147483647) (hu0 : 0 ≤ u) (hu : u < 2147483647) {a : PAct} {n : Nat} (hl : p.f.fr.length = n) {P' W' x e} (hd : docM P W n a = (P', W', x, e)) :
    ∃ q l, poolDo p a = (q, x, l, e) ∧ Inv q P' W' (v + 1) (u + 1) ∧ q.now = p.now ∧ q.f.fr.length = n ∧ runL p.d l = q.d ∧ l.length ≤ 170 ∧ (e ≠ 0 → l = []) ∧ ACall Tryz.prog 18 [encPS p, .agg (encPA a)] (encR4 (q, x, l, e)) := by
  have d := do_did h hv1 hv hu0 hu a hl
  rw [hd] at d
  obtain ⟨q, l, e1, iq, qn, qlen, run, few, none⟩ := d.eq
  have h1 := poolDo_ok p a h.pj.fm h.pj.n1
  rw [e1] at h1
  exact ⟨q, l, e1, iq, qn, qlen.trans hl, run, few, none, h1⟩
def n9 : Pg := (9, 5, { data := #[110, 105, 110, 101] })
def P9 : Nat → Pg := ud (fun _ => zP) 9 n9
def W9 (k : Int) : Nat → Int := ud (fun _ => 0) 9 k
theorem P9_at : P9 9 = n9 := rfl
theorem W9_at (k : Int) : W9 k 9 = k := rfl
theorem W9_next (k j : Int) : ud (W9 k) 9 j = W9 j := by
  funext q
  simp only [W9, ud]
  split <;> rfl
theorem n9_ok : pgR n9 = true := pgR_out.2 ⟨by decide, by decide, by decide, by decide, by decide⟩
theorem newG_9 : (newG [n9]).2 = P9 := by
  show (newStep new0 n9).2 = P9
  rw [newStep, if_pos ⟨n9_ok, by decide⟩]
  rfl
theorem doc_pre {P W n k} {b : ByteArray} (hk : 1 ≤ k) (hk2 : k ≤ 7) : docM P W n (k, 9, b) = if 2 < k ∧ k < 6 ∧ W 9 = 0 then (P, W, zP, 12)
    else if k = 3 then (P, W, P 9, 0)
    else if k = 4 then (if 16 < b.size then (P, W, zP, 5) else (ud P 9 (wrPg (P 9) b), W, wrPg (P 9) b, 0))
    else if k = 5 then (P, ud W 9 (W 9 - 1), zP, 0)
    else if k = 6 then (if 0 < W 9 then (P, W, zP, 6) else if (P 9).1 = 0 then (P, W, zP, 3) else (ud P 9 zP, W, zP, 0))
    else if k = 7 then (if (P 9).1 = 0 then (P, W, zP, 3) else (P, W, zP, 0))
    else thereM P W n k 9 := by
  rw [docM, if_neg (by simp only []; omega), if_neg (by simp only []; omega)]
  rfl
theorem bn_9 : bn (W9 0) 16 = 0 := by decide +kernel
theorem d9_fetch {n : Nat} (h1 : 1 ≤ n) {k : Int} (hk : 0 ≤ k) : docM P9 (W9 k) n (1, 9, ByteArray.empty) = (P9, W9 (k + 1), n9, 0) := by
  rw [doc_pre (by decide) (by decide), if_neg (fun g => absurd g.1 (by decide)), if_neg (by decide), if_neg (by decide), if_neg (by decide), if_neg (by decide), if_neg (by decide)]
  rw [thereM, if_neg (fun g => absurd g.2 (by decide)), if_neg (fun g => absurd g.1 (by decide)), if_neg (fun g => ?_), if_neg (by decide), ud_self, W9_at, W9_next, P9_at]
  obtain ⟨g1, g2⟩ := g
  rw [W9_at] at g1
  subst g1
  rw [bn_9] at g2
  omega
theorem d9_del {n : Nat} {k : Int} (hk : 0 < k) : docM P9 (W9 k) n (6, 9, ByteArray.empty) = (P9, W9 k, zP, 6) := by
  rw [doc_pre (by decide) (by decide), if_neg (fun g => absurd g.2.1 (by decide)), if_neg (by decide), if_neg (by decide), if_neg (by decide), if_pos rfl, W9_at, if_pos hk]
theorem d9_unpin {n : Nat} {k : Int} (hk : 0 < k) : docM P9 (W9 k) n (5, 9, ByteArray.empty) = (P9, W9 (k - 1), zP, 0) := by
  rw [doc_pre (by decide) (by decide), if_neg (fun g => by rw [W9_at] at g; omega), if_neg (by decide), if_neg (by decide), if_pos rfl, W9_at, W9_next]
theorem d9_un0 {n : Nat} : docM P9 (W9 0) n (5, 9, ByteArray.empty) = (P9, W9 0, zP, 12) := by
  rw [doc_pre (by decide) (by decide), if_pos ⟨by decide, by decide, rfl⟩]
theorem d9_del0 {n : Nat} : docM P9 (W9 0) n (6, 9, ByteArray.empty) = (ud P9 9 zP, W9 0, zP, 0) := by
  rw [doc_pre (by decide) (by decide), if_neg (fun g => absurd g.2.1 (by decide)), if_neg (by decide), if_neg (by decide), if_neg (by decide), if_pos rfl, W9_at, if_neg (by decide), if_neg (by decide)]
theorem d9_none {n : Nat} : docM (ud P9 9 zP) (W9 0) n (1, 9, ByteArray.empty) = (ud P9 9 zP, W9 0, zP, 3) := by
  rw [doc_pre (by decide) (by decide), if_neg (fun g => absurd g.1 (by decide)), if_neg (by decide), if_neg (by decide), if_neg (by decide), if_neg (by decide), if_neg (by decide)]
  rw [thereM, if_pos ⟨rfl, rfl⟩]
theorem new17_9 (many : Int) (m0 : 0 ≤ many) (m1 : many ≤ 255) (n : Nat) (hn : 1 + many % 8 = (n : Int)) : ACall Tryz.prog 17 [.int .u8 many, .lst [[.int .i64 9, .int .i64 5, .str { data := #[110, 105, 110, 101] }]]]
    (.tup [encPS ⟨newFS n, ⟨(newG [n9]).1, []⟩, 0⟩, .agg (mL P9 (fun _ => 0) n), .bool true]) := by
  have := new17_ok many m0 m1 [n9] n hn
  rw [newG_9] at this
  exact this
set_option maxRecDepth 100000 in
theorem poolPins_ok (many pins : Int) (m0 : 0 ≤ many) (m1 : many ≤ 255) (p0 : 0 ≤ pins) (p1 : pins ≤ 255) : ACall Tryz.prog 6 [.int .u8 many, .int .u8 pins] (.bool true) := by
  obtain ⟨n, hn⟩ : ∃ n : Nat, 1 + many % 8 = (n : Int) := ⟨(1 + many % 8).toNat, by omega⟩
  have n1 : 1 ≤ n := by omega
  have n8 : n ≤ 8 := by omega
  obtain ⟨m, hm⟩ : ∃ m : Nat, 1 + pins % 50 = (m : Int) := ⟨(1 + pins % 50).toNat, by omega⟩
  have m50 : m ≤ 50 := by omega
  refine acall_of Tryz.func6 2 rfl (by kernel_rfl) ?_
  conv => whnf
  repeat ((first | refine bF ?_ | refine bT ?_ | refine dK (by kernel_rfl) ?_ | refine cK rfl ?_ | refine cK (by first | decide | omega) ?_ | refine wK (by omega) (by omega) ?_); conv => whnf)
  refine callX_pure (new17_9 many m0 m1 n hn) ?_
  conv => whnf
  repeat ((first | refine bF ?_ | refine bT ?_ | refine dK (by kernel_rfl) ?_ | refine cK rfl ?_ | refine cK (by first | decide | omega) ?_ | refine wK (by omega) (by omega) ?_); conv => whnf)
  refine divK_rem (by decide) p0 ?_
  conv => whnf
  refine wrapK_in (w64 (by omega) (by omega)) ?_
  conv => whnf
  refine wrapK_in (w64 (by omega) (by omega)) ?_
  conv => whnf
  rw [hm]
  repeat ((first | refine bF ?_ | refine bT ?_ | refine dK (by kernel_rfl) ?_ | refine cK rfl ?_ | refine cK (by first | decide | omega) ?_ | refine wK (by omega) (by omega) ?_); conv => whnf)
  have hI0 := start_inv [n9] n1 n8
  rw [newG_9] at hI0
  refine aloop (ι := Nat × PS) (fun k => [(5, .ptr 5 0 0), (8, .d (.int .i64 m)), (47, .d (.int .i64 m)), (48, .d (.int .i64 k.1))])
    (fun k => [(5, .box k.2.box false)])
    (fun k => k.1 ≤ m ∧ Inv k.2 P9 (W9 k.1) (1073741824 + k.1) k.1 ∧ k.2.f.fr.length = n) (fun k => m - k.1) (0, ⟨newFS n, ⟨(newG [n9]).1, []⟩, 0⟩) ⟨Nat.zero_le _, by
      have e : W9 ((0 : Nat) : Int) = fun _ => 0 := by funext q; simp [W9, ud]
      simp only [e]; exact hI0, List.length_replicate ..⟩ (le0 (le_of_cov ⟨rfl, rfl, rfl, rfl, trivial⟩ ⟨rfl, trivial⟩ ⟨rfl, rfl, rfl, rfl⟩)) ?_
  rintro ⟨k, p⟩ ⟨hk, hI, hlen⟩
  simp only at hk hI hlen ⊢
  conv => whnf
  refine bcase_p (fun h5 => ?_) (fun h5 => ?_) <;> conv => whnf
  · obtain ⟨q, l, e1, iq, qn, qlen, _, _, _, c18⟩ := act_known hI (by omega) (by omega) (by omega) (by omega) hlen (d9_fetch n1 (by omega))
    repeat ((first | refine bF ?_ | refine bT ?_ | refine dK (by kernel_rfl) ?_ | refine cK rfl ?_ | refine cK (by first | decide | omega) ?_ | refine wK (by omega) (by omega) ?_); conv => whnf)
    refine callX_pure c18 ?_
    conv => whnf
    repeat ((first | refine bF ?_ | refine bT ?_ | refine dK (by kernel_rfl) ?_ | refine cK rfl ?_ | refine cK (by first | decide | omega) ?_ | refine wK (by omega) (by omega) ?_); conv => whnf)
    exact ⟨(k + 1, q), ⟨by simp only []; omega, by simp only [Int.natCast_succ]; rw [← Int.add_assoc]; exact iq, qlen⟩, by simp only []; omega, (le0 (le_of_cov ⟨rfl, rfl, rfl, rfl, trivial⟩ ⟨rfl, trivial⟩ ⟨rfl, rfl, rfl, rfl⟩))⟩
  have ek : k = m := by omega
  subst ek
  repeat ((first | refine bF ?_ | refine bT ?_ | refine dK (by kernel_rfl) ?_ | refine cK rfl ?_ | refine cK (by first | decide | omega) ?_ | refine wK (by omega) (by omega) ?_); conv => whnf)
  refine aloop (ι := Nat × PS) (fun j => [(5, .ptr 5 0 0), (67, .d (.int .i64 k)), (68, .d (.int .i64 j.1))])
    (fun j => [(5, .box j.2.box false)])
    (fun j => j.1 ≤ k ∧ Inv j.2 P9 (W9 ((k : Int) - j.1)) (1073741924 + 2 * j.1) (100 + 2 * j.1) ∧ j.2.f.fr.length = n) (fun j => k - j.1) (0, p) ⟨Nat.zero_le _, by
      have := hI.mono (show (1073741824 + (k : Int)) ≤ 1073741924 + 2 * ((0 : Nat) : Int) by omega) (show (k : Int) ≤ 100 + 2 * ((0 : Nat) : Int) by omega)
      simp only [Int.sub_zero, Int.natCast_zero]
      exact this, hlen⟩ (le0 (le_of_cov ⟨rfl, rfl, rfl, trivial⟩ ⟨rfl, trivial⟩ ⟨rfl, rfl, rfl, rfl⟩)) ?_
  rintro ⟨j, p⟩ ⟨hj, hJ, hlen⟩
  simp only at hj hJ hlen ⊢
  conv => whnf
  refine bcase_p (fun h6 => ?_) (fun h6 => ?_) <;> conv => whnf
  · obtain ⟨q6, l6, e6, _, _, _, _, _, _, c6⟩ := act_known hJ (by omega) (by omega) (by omega) (by omega) hlen (d9_del (by omega))
    obtain ⟨q5, l5, e5, iq, qn, qlen, _, _, _, c5⟩ := act_known hJ (by omega) (by omega) (by omega) (by omega) hlen (d9_unpin (by omega))
    repeat ((first | refine bF ?_ | refine bT ?_ | refine dK (by kernel_rfl) ?_ | refine cK rfl ?_ | refine cK (by first | decide | omega) ?_ | refine wK (by omega) (by omega) ?_); conv => whnf)
    refine callX_pure c6 ?_
    conv => whnf
    repeat ((first | refine bF ?_ | refine bT ?_ | refine dK (by kernel_rfl) ?_ | refine cK rfl ?_ | refine cK (by first | decide | omega) ?_ | refine wK (by omega) (by omega) ?_); conv => whnf)
    refine callX_pure c5 ?_
    conv => whnf
    repeat ((first | refine bF ?_ | refine bT ?_ | refine dK (by kernel_rfl) ?_ | refine cK rfl ?_ | refine cK (by first | decide | omega) ?_ | refine wK (by omega) (by omega) ?_); conv => whnf)
    exact ⟨(j + 1, q5), ⟨by simp only []; omega, by
      have e : (k : Int) - ((j + 1 : Nat) : Int) = (k : Int) - j - 1 := by omega
      simp only [e]
      exact iq.mono (by omega) (by omega), qlen⟩, by simp only []; omega, (le0 (le_of_cov ⟨rfl, rfl, rfl, trivial⟩ ⟨rfl, trivial⟩ ⟨rfl, rfl, rfl, rfl⟩))⟩
  have ek : j = k := by omega
  subst ek
  rw [Int.sub_self] at hJ
  obtain ⟨q5, l5, e5, _, _, _, _, _, _, c5⟩ := act_known hJ (by omega) (by omega) (by omega) (by omega) hlen d9_un0
  obtain ⟨q6, l6, e6, iq, qn, qlen, _, _, _, c6⟩ := act_known hJ (by omega) (by omega) (by omega) (by omega) hlen d9_del0
  obtain ⟨q1, l1, e1, _, _, _, _, _, _, c1⟩ := act_known iq (by omega) (by omega) (by omega) (by omega) qlen d9_none
  repeat ((first | refine bF ?_ | refine bT ?_ | refine dK (by kernel_rfl) ?_ | refine cK rfl ?_ | refine cK (by first | decide | omega) ?_ | refine wK (by omega) (by omega) ?_); conv => whnf)
  refine callX_pure c5 ?_
  conv => whnf
  repeat ((first | refine bF ?_ | refine bT ?_ | refine dK (by kernel_rfl) ?_ | refine cK rfl ?_ | refine cK (by first | decide | omega) ?_ | refine wK (by omega) (by omega) ?_); conv => whnf)
  refine callX_pure c6 ?_
  conv => whnf
  repeat ((first | refine bF ?_ | refine bT ?_ | refine dK (by kernel_rfl) ?_ | refine cK rfl ?_ | refine cK (by first | decide | omega) ?_ | refine wK (by omega) (by omega) ?_); conv => whnf)
  refine callX_pure c1 ?_
  conv => whnf
  repeat ((first | refine bF ?_ | refine bT ?_ | refine dK (by kernel_rfl) ?_ | refine cK rfl ?_ | refine cK (by first | decide | omega) ?_ | refine wK (by omega) (by omega) ?_); conv => whnf)
  refine callX_pure awake16_ok ?_
  conv => whnf
  repeat ((first | refine bF ?_ | refine bT ?_ | refine dK (by kernel_rfl) ?_ | refine cK rfl ?_ | refine cK (by first | decide | omega) ?_ | refine wK (by omega) (by omega) ?_); conv => whnf)
  exact ret_of rfl rfl
end Go.Lk

