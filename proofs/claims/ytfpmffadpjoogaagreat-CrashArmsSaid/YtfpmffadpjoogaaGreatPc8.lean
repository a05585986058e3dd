/-
  What is proved here: what functions of the program compute, and what follows; no condition beyond each theorem's own.
-/
import Derived.Test.YtfpmffadpjoogaaGreatBAm
set_option linter.unusedSimpArgs false
set_option linter.unusedVariables false
set_option linter.unnecessarySimpa false
set_option linter.unusedSectionVars false
namespace Go.Lk
open Go Go.Proofs Go.RowKit

theorem armT_up (p : PS) (n : Int) (h0 : 0 ≤ n) (h1 : n ≤ 1048576) : armT (tsOf p) n = ⟨p, n, true, false⟩ := by
  show (if (false = true) then _ else (⟨p, min (max n 0) 1048576, true, false⟩ : TS)) = _
  rw [if_neg (by decide), show min (max n 0) 1048576 = n by omega]
theorem doT_yes {p q : PS} {a : PAct} {x : Pg} {l : List Jo} {e n : Int} (h : poolDo p a = (q, x, l, e)) (hn : (l.length : Int) ≤ n) : doT ⟨p, n, true, false⟩ a = (⟨q, n - l.length, true, false⟩, x, e) := by
  rw [doT, if_neg (show ¬ (false = true) by decide), h, if_neg (fun g => by have := g.2; simp at this; omega), if_pos rfl]
theorem doT_down {p q : PS} {a : PAct} {x : Pg} {l : List Jo} {e n : Int} (h : poolDo p a = (q, x, l, e)) (hn : n < (l.length : Int)) : doT ⟨p, n, true, false⟩ a = (⟨⟨p.f, runM p.d l n, p.now⟩, 0, true, true⟩, zP, 13) := by
  rw [doT, if_neg (show ¬ (false = true) by decide), h, if_pos ⟨rfl, hn⟩]
theorem Us.len {d : DS} (h : Us d) : d.sec.length ≤ 1000 ∧ d.ca.length ≤ 1000 := by
  have := h.dr.s2; have := h.dr.c1; omega
/-- an act of a pool that may be any -/
theorem Gd.facts {p : PS} (h : Gd 0 p) (a : PAct) : ∃ q x l e, poolDo p a = (q, x, l, e) ∧ Gd 0 q ∧ l.length ≤ 170 ∧ ACall Tryz.prog 18 [encPS p, .agg (encPA a)] (encR4 (q, x, l, e)) ∧
    ACall Tryz.prog 32 [encTS (tsOf p), .agg (encPA a)] (.tup [encTS (tsOf q), .agg (encP x), .int .i64 e]) := by
  obtain ⟨q, x, l, e, he⟩ : ∃ q x l e, poolDo p a = (q, x, l, e) := ⟨_, _, _, _, rfl⟩
  have h1 := h.act a
  rw [he] at h1
  have c1 := poolDo_ok p a h.fm (by rw [h.now]; decide)
  rw [he] at c1
  have c2 := h.t.ok (by decide) a
  rw [doT_of he] at c2
  exact ⟨q, x, l, e, he, h1.1, h1.2, c1, c2⟩
set_option maxRecDepth 100000 in
set_option maxHeartbeats 8000000 in
theorem crashArms_ok (many : Int) (m0 : 0 ≤ many) (m1 : many ≤ 255) (acts : List PAct) (last : PAct) : ACall Tryz.prog 11 [.int .u8 many, .lst (acts.map encPA), .agg (encPA last)] (.bool true) := by
  obtain ⟨n, hn⟩ : ∃ n : Nat, 1 + many % 8 = (n : Int) := ⟨(1 + many % 8).toNat, by omega⟩
  have hm : (acts.map encPA).length = acts.length := List.length_map ..
  have hI := NI.ofG []
  have hst := start_inv [] (n := n) (by omega) (by omega)
  have hG0 : Gd 0 (start n []) := ⟨hst.pj.fm, hI.us, rfl⟩
  have hop : openM ⟨(newG []).1, []⟩ n = (start n [], 0) := by
    have := open_rest hI.rest hI.z (n := n) (by omega) (by omega)
    rw [Int.toNat_natCast] at this; exact this
  have cN := newT_ok ⟨(newG []).1, []⟩ n
  rw [newT_of hop] at cN
  refine acall_of Tryz.func11 3 rfl (by kernel_rfl) ?_
  conv => whnf
  repeat ((first | refine bF ?_ | refine bT ?_ | refine dK (by kernel_rfl) ?_ | refine cK rfl ?_ | refine cK (by first | decide | omega) ?_ | refine wK (by omega) (by omega) ?_); conv => whnf)
  refine callX_pure (new17_ok many m0 m1 [] n hn) ?_
  conv => whnf
  repeat ((first | refine bF ?_ | refine bT ?_ | refine dK (by kernel_rfl) ?_ | refine cK rfl ?_ | refine cK (by first | decide | omega) ?_ | refine wK (by omega) (by omega) ?_); conv => whnf)
  refine divK_rem (by decide) m0 ?_
  conv => whnf
  refine wrapK_in (w64 (by omega) (by omega)) ?_
  conv => whnf
  refine wrapK_in (w64 (by omega) (by omega)) ?_
  conv => whnf
  rw [hn]
  repeat ((first | refine bF ?_ | refine bT ?_ | refine dK (by kernel_rfl) ?_ | refine cK rfl ?_ | refine cK (by first | decide | omega) ?_ | refine wK (by omega) (by omega) ?_); conv => whnf)
  refine callX_pure cN ?_
  conv => whnf
  repeat ((first | refine bF ?_ | refine bT ?_ | refine dK (by kernel_rfl) ?_ | refine cK rfl ?_ | refine cK (by first | decide | omega) ?_ | refine wK (by omega) (by omega) ?_); conv => whnf)
  refine bcase_p (fun h1 => ?_) (fun h1 => ?_) <;> conv => whnf
  · repeat ((first | refine bF ?_ | refine bT ?_ | refine dK (by kernel_rfl) ?_ | refine cK rfl ?_ | refine cK (by first | decide | omega) ?_ | refine wK (by omega) (by omega) ?_); conv => whnf)
    refine callX_pure awake17_ok ?_
    conv => whnf
    repeat ((first | refine bF ?_ | refine bT ?_ | refine dK (by kernel_rfl) ?_ | refine cK rfl ?_ | refine cK (by first | decide | omega) ?_ | refine wK (by omega) (by omega) ?_); conv => whnf)
    exact ret_of rfl rfl
  repeat ((first | refine bF ?_ | refine bT ?_ | refine dK (by kernel_rfl) ?_ | refine cK rfl ?_ | refine cK (by first | decide | omega) ?_ | refine wK (by omega) (by omega) ?_); conv => whnf)
  refine bcase_p (fun h2 => ?_) (fun h2 => ?_) <;> conv => whnf
  · repeat ((first | refine bF ?_ | refine bT ?_ | refine dK (by kernel_rfl) ?_ | refine cK rfl ?_ | refine cK (by first | decide | omega) ?_ | refine wK (by omega) (by omega) ?_); conv => whnf)
    refine callX_pure awake17_ok ?_
    conv => whnf
    repeat ((first | refine bF ?_ | refine bT ?_ | refine dK (by kernel_rfl) ?_ | refine cK rfl ?_ | refine cK (by first | decide | omega) ?_ | refine wK (by omega) (by omega) ?_); conv => whnf)
    exact ret_of rfl rfl
  repeat ((first | refine bF ?_ | refine bT ?_ | refine dK (by kernel_rfl) ?_ | refine cK rfl ?_ | refine cK (by first | decide | omega) ?_ | refine wK (by omega) (by omega) ?_); conv => whnf)
  refine aloop (ι := Nat × PS) (fun k => [(5, .ptr 5 0 0), (7, .ptr 7 0 0), (10, .ptr 10 0 0), (64, .d (.lst (acts.map encPA))), (65, .d (.int .i64 (acts.map encPA).length)), (66, .d (.int .i64 k.1))])
    (fun k => [(5, .box ((encPA last).map AV.d) false), (7, .box k.2.box false), (10, .box ((tsOf k.2).cells.map AV.d) false)])
    (fun k => k.1 ≤ acts.length ∧ Gd 0 k.2) (fun k => acts.length - k.1) (0, start n []) ⟨Nat.zero_le _, hG0⟩ (le0 (le_of_cov ⟨rfl, rfl, rfl, rfl, rfl, rfl, trivial⟩ ⟨rfl, rfl, rfl, trivial⟩ ⟨rfl, rfl, rfl, rfl⟩)) ?_
  rintro ⟨k, p⟩ ⟨hk, hG⟩
  simp only at hk hG ⊢
  conv => whnf
  refine bcase_p (fun h5 => ?_) (fun h5 => ?_) <;> conv => whnf
  · have hk2 : k < acts.length := by omega
    repeat ((first | refine bF ?_ | refine bT ?_ | refine dK (by kernel_rfl) ?_ | refine cK rfl ?_ | refine cK (by first | decide | omega) ?_ | refine wK (by omega) (by omega) ?_); conv => whnf)
    refine idxK_nat (by omega) ?_
    conv => whnf
    refine getRow_of (x := encPA acts[k]) (by simp [hk2]) ?_
    conv => whnf
    repeat ((first | refine bF ?_ | refine bT ?_ | refine dK (by kernel_rfl) ?_ | refine cK rfl ?_ | refine cK (by first | decide | omega) ?_ | refine wK (by omega) (by omega) ?_); conv => whnf)
    refine bcase_p (fun h6 => ?_) (fun h6 => ?_) <;> conv => whnf
    · repeat ((first | refine bF ?_ | refine bT ?_ | refine dK (by kernel_rfl) ?_ | refine cK rfl ?_ | refine cK (by first | decide | omega) ?_ | refine wK (by omega) (by omega) ?_); conv => whnf)
      refine callX_pure awake17_ok ?_
      conv => whnf
      repeat ((first | refine bF ?_ | refine bT ?_ | refine dK (by kernel_rfl) ?_ | refine cK rfl ?_ | refine cK (by first | decide | omega) ?_ | refine wK (by omega) (by omega) ?_); conv => whnf)
      exact ret_of rfl rfl
    obtain ⟨q, x, l, e, he, gq, hl, c1, c2⟩ := hG.facts acts[k]
    obtain ⟨s1, s2⟩ := gq.us.len
    repeat ((first | refine bF ?_ | refine bT ?_ | refine dK (by kernel_rfl) ?_ | refine cK rfl ?_ | refine cK (by first | decide | omega) ?_ | refine wK (by omega) (by omega) ?_); conv => whnf)
    refine callX_pure c1 ?_
    conv => whnf
    repeat ((first | refine bF ?_ | refine bT ?_ | refine dK (by kernel_rfl) ?_ | refine cK rfl ?_ | refine cK (by first | decide | omega) ?_ | refine wK (by omega) (by omega) ?_); conv => whnf)
    refine callX_pure c2 ?_
    conv => whnf
    repeat ((first | refine bF ?_ | refine bT ?_ | refine dK (by kernel_rfl) ?_ | refine cK rfl ?_ | refine cK (by first | decide | omega) ?_ | refine wK (by omega) (by omega) ?_); conv => whnf)
    refine bcase_f (by simp) ?_
    conv => whnf
    refine bcase_f (by simp) ?_
    conv => whnf
    repeat ((first | refine bF ?_ | refine bT ?_ | refine dK (by kernel_rfl) ?_ | refine cK rfl ?_ | refine cK (by first | decide | omega) ?_ | refine wK (by omega) (by omega) ?_); conv => whnf)
    refine callX_pure (rsameD_ok q.d q.d s1 s2) ?_
    conv => whnf
    repeat ((first | refine bF ?_ | refine bT ?_ | refine dK (by kernel_rfl) ?_ | refine cK rfl ?_ | refine cK (by first | decide | omega) ?_ | refine wK (by omega) (by omega) ?_); conv => whnf)
    refine bcase_f (by simp) ?_
    conv => whnf
    repeat ((first | refine bF ?_ | refine bT ?_ | refine dK (by kernel_rfl) ?_ | refine cK rfl ?_ | refine cK (by first | decide | omega) ?_ | refine wK (by omega) (by omega) ?_); conv => whnf)
    exact ⟨(k + 1, q), ⟨by simp only []; omega, gq⟩, by simp only []; omega, (le0 (le_of_cov ⟨rfl, rfl, rfl, rfl, rfl, rfl, trivial⟩ ⟨rfl, rfl, rfl, trivial⟩ ⟨rfl, rfl, rfl, rfl⟩))⟩
  obtain ⟨q, x, l, e, he, gq, hl, c1, c2⟩ := hG.facts last
  obtain ⟨s1, s2⟩ := gq.us.len
  have hll : (l.map encJ).length = l.length := List.length_map ..
  have hA := armT_up p (l.length : Nat) (by omega) (by omega)
  have cA := armT_ok (tsOf p) (l.length : Nat)
  rw [hA] at cA
  have gA : GT 0 ⟨p, (l.length : Nat), true, false⟩ := hA ▸ hG.t.arm (l.length : Nat)
  have c3 := gA.ok (by decide) last
  rw [doT_yes he (Int.le_refl _), Int.sub_self] at c3
  repeat ((first | refine bF ?_ | refine bT ?_ | refine dK (by kernel_rfl) ?_ | refine cK rfl ?_ | refine cK (by first | decide | omega) ?_ | refine wK (by omega) (by omega) ?_); conv => whnf)
  refine callX_pure c1 ?_
  conv => whnf
  repeat ((first | refine bF ?_ | refine bT ?_ | refine dK (by kernel_rfl) ?_ | refine cK rfl ?_ | refine cK (by first | decide | omega) ?_ | refine wK (by omega) (by omega) ?_); conv => whnf)
  rw [hll]
  refine callX_pure cA ?_
  conv => whnf
  repeat ((first | refine bF ?_ | refine bT ?_ | refine dK (by kernel_rfl) ?_ | refine cK rfl ?_ | refine cK (by first | decide | omega) ?_ | refine wK (by omega) (by omega) ?_); conv => whnf)
  refine callX_pure c3 ?_
  conv => whnf
  repeat ((first | refine bF ?_ | refine bT ?_ | refine dK (by kernel_rfl) ?_ | refine cK rfl ?_ | refine cK (by first | decide | omega) ?_ | refine wK (by omega) (by omega) ?_); conv => whnf)
  refine bcase_f (by simp) ?_
  conv => whnf
  refine bcase_f (by simp) ?_
  conv => whnf
  repeat ((first | refine bF ?_ | refine bT ?_ | refine dK (by kernel_rfl) ?_ | refine cK rfl ?_ | refine cK (by first | decide | omega) ?_ | refine wK (by omega) (by omega) ?_); conv => whnf)
  refine callX_pure (rsameD_ok q.d q.d s1 s2) ?_
  conv => whnf
  repeat ((first | refine bF ?_ | refine bT ?_ | refine dK (by kernel_rfl) ?_ | refine cK rfl ?_ | refine cK (by first | decide | omega) ?_ | refine wK (by omega) (by omega) ?_); conv => whnf)
  refine bcase_f (by simp) ?_
  conv => whnf
  repeat ((first | refine bF ?_ | refine bT ?_ | refine dK (by kernel_rfl) ?_ | refine cK rfl ?_ | refine cK (by first | decide | omega) ?_ | refine wK (by omega) (by omega) ?_); conv => whnf)
  rw [hll]
  refine bcase_p (fun h7 => ?_) (fun h7 => ?_) <;> conv => whnf
  · refine callX_pure awake17_ok ?_
    conv => whnf
    repeat ((first | refine bF ?_ | refine bT ?_ | refine dK (by kernel_rfl) ?_ | refine cK rfl ?_ | refine cK (by first | decide | omega) ?_ | refine wK (by omega) (by omega) ?_); conv => whnf)
    exact ret_of rfl rfl
  have h8 : l.length ≠ 0 := fun g => h7 (by rw [g]; rfl)
  have cB := armT_ok (tsOf p) ((l.length : Nat) - 1)
  have hB := armT_up p ((l.length : Nat) - 1) (by omega) (by omega)
  rw [hB] at cB
  have gB : GT 0 ⟨p, (l.length : Nat) - 1, true, false⟩ := hB ▸ hG.t.arm ((l.length : Nat) - 1)
  have c4 := gB.ok (by decide) last
  have gC := gB.do last
  rw [doT_down he (by omega)] at c4 gC
  have c5 := armT_ok ⟨⟨p.f, runM p.d l ((l.length : Nat) - 1), p.now⟩, 0, true, true⟩ 50
  rw [show armT ⟨⟨p.f, runM p.d l ((l.length : Nat) - 1), p.now⟩, 0, true, true⟩ 50 = ⟨⟨p.f, runM p.d l ((l.length : Nat) - 1), p.now⟩, 0, true, true⟩ from if_pos rfl] at c5
  obtain ⟨r1, r2⟩ := gC.gd.us.len
  repeat ((first | refine bF ?_ | refine bT ?_ | refine dK (by kernel_rfl) ?_ | refine cK rfl ?_ | refine cK (by first | decide | omega) ?_ | refine wK (by omega) (by omega) ?_); conv => whnf)
  simp only [hll]
  refine wrapK_in (w64 (by omega) (by omega)) ?_
  conv => whnf
  repeat ((first | refine bF ?_ | refine bT ?_ | refine dK (by kernel_rfl) ?_ | refine cK rfl ?_ | refine cK (by first | decide | omega) ?_ | refine wK (by omega) (by omega) ?_); conv => whnf)
  refine callX_pure cB ?_
  conv => whnf
  repeat ((first | refine bF ?_ | refine bT ?_ | refine dK (by kernel_rfl) ?_ | refine cK rfl ?_ | refine cK (by first | decide | omega) ?_ | refine wK (by omega) (by omega) ?_); conv => whnf)
  refine callX_pure c4 ?_
  conv => whnf
  repeat ((first | refine bF ?_ | refine bT ?_ | refine dK (by kernel_rfl) ?_ | refine cK rfl ?_ | refine cK (by first | decide | omega) ?_ | refine wK (by omega) (by omega) ?_); conv => whnf)
  refine callX_pure c5 ?_
  conv => whnf
  repeat ((first | refine bF ?_ | refine bT ?_ | refine dK (by kernel_rfl) ?_ | refine cK rfl ?_ | refine cK (by first | decide | omega) ?_ | refine wK (by omega) (by omega) ?_); conv => whnf)
  rw [hll]
  refine callX_pure (run_ok p.d l ((l.length : Nat) - 1) (by omega)) ?_
  conv => whnf
  repeat ((first | refine bF ?_ | refine bT ?_ | refine dK (by kernel_rfl) ?_ | refine cK rfl ?_ | refine cK (by first | decide | omega) ?_ | refine wK (by omega) (by omega) ?_); conv => whnf)
  refine callX_pure (rsameD_ok (runM p.d l ((l.length : Nat) - 1)) (runM p.d l ((l.length : Nat) - 1)) r1 r2) ?_
  conv => whnf
  repeat ((first | refine bF ?_ | refine bT ?_ | refine dK (by kernel_rfl) ?_ | refine cK rfl ?_ | refine cK (by first | decide | omega) ?_ | refine wK (by omega) (by omega) ?_); conv => whnf)
  refine bcase_t (by simp) ?_
  conv => whnf
  repeat ((first | refine bF ?_ | refine bT ?_ | refine dK (by kernel_rfl) ?_ | refine cK rfl ?_ | refine cK (by first | decide | omega) ?_ | refine wK (by omega) (by omega) ?_); conv => whnf)
  refine callX_pure awake17_ok ?_
  conv => whnf
  repeat ((first | refine bF ?_ | refine bT ?_ | refine dK (by kernel_rfl) ?_ | refine cK rfl ?_ | refine cK (by first | decide | omega) ?_ | refine wK (by omega) (by omega) ?_); conv => whnf)
  exact ret_of rfl rfl
end Go.Lk

