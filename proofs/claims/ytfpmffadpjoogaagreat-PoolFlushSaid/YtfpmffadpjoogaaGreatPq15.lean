/-
  What is proved here: what functions of the program compute, and what follows; no condition beyond each theorem's own.
-/
import Derived.Test.YtfpmffadpjoogaaGreatPn4
import Derived.Test.YtfpmffadpjoogaaGreatPq11
set_option linter.unusedSimpArgs false
set_option linter.unusedVariables false
set_option linter.unnecessarySimpa false
set_option linter.unusedSectionVars false
namespace Go.Lk
open Go Go.Proofs Go.RowKit

/-- a page that is flushed -/
theorem flush_known {p P W v u} (h : Inv p P W v u) {q : Nat} (h1 : 1 ≤ q) (h16 : q ≤ 16) (b : ByteArray) : ∃ r l e, poolDo p (7, (q : Int), b) = (r, zP, l, e) ∧ e = (if (P q).1 = 0 then 3 else 0) ∧ Inv r P W v u ∧ r.now = p.now ∧ r.f.fr.length = p.f.fr.length ∧
    ((P q).1 ≠ 0 → getS r.d q = (P q, 0)) ∧ ACall Tryz.prog 18 [encPS p, .agg (encPA (7, (q : Int), b))] (encR4 (r, zP, l, e)) := by
  obtain ⟨d1, d2⟩ := flush_did h h1 h16
  have hd : (if (P q).1 = 0 then (P, W, zP, (3 : Int)) else (P, W, zP, 0)) = (P, W, zP, if (P q).1 = 0 then 3 else 0) := by split <;> rfl
  rw [hd] at d1
  obtain ⟨r, l, e1, ir, rn, rl, run, few, _⟩ := d1.eq
  rw [e1] at d2
  have c := poolDo_ok p (7, (q : Int), b) h.pj.fm h.pj.n1
  rw [do_flush (by omega) (by omega), e1] at c
  refine ⟨r, l, _, (do_flush (by omega) (by omega)).trans e1, rfl, ir, rn, rl, fun hz => ?_, c⟩
  rw [ir.pj.get h1 h16, ir.on.dsk q h1 h16 (fun x hx => d2 hz x hx), if_neg hz]
set_option maxRecDepth 100000 in
set_option maxHeartbeats 8000000 in
theorem poolFlushL_ok (many id age : Int) (m0 : 0 ≤ many) (m1 : many ≤ 255) (i0 : 0 ≤ id) (i1 : id ≤ 255) (a0 : 0 ≤ age) (a1 : age ≤ 255) (acts : List PAct) : ACall Tryz.prog 10 [.int .u8 many, .lst (acts.map encPA), .int .u8 id, .int .u8 age] (.bool true) := by
  obtain ⟨n, hn⟩ : ∃ n : Nat, 1 + many % 8 = (n : Int) := ⟨(1 + many % 8).toNat, by omega⟩
  obtain ⟨c, hc⟩ : ∃ n : Nat, 1 + id % 16 = (n : Int) := ⟨(1 + id % 16).toNat, by omega⟩
  have hm : (acts.map encPA).length = acts.length := List.length_map ..
  have n1 : 1 ≤ n := by omega
  have n8 : n ≤ 8 := by omega
  have c1 : 1 ≤ c := by omega
  have c16 : c ≤ 16 := by omega
  refine acall_of Tryz.func10 4 rfl (by kernel_rfl) ?_
  conv => whnf
  repeat ((first | refine bF ?_ | refine bT ?_ | refine dK (by kernel_rfl) ?_ | refine cK rfl ?_ | refine cK (by first | decide | omega) ?_ | refine wK (by omega) (by omega) ?_); conv => whnf)
  refine callX_pure (small_ok acts) ?_
  conv => whnf
  repeat ((first | refine bF ?_ | refine bT ?_ | refine dK (by kernel_rfl) ?_ | refine cK rfl ?_ | refine cK (by first | decide | omega) ?_ | refine wK (by omega) (by omega) ?_); conv => whnf)
  refine bcase_intro (fun h1 => ?_) (fun h1 => ?_) <;> conv => whnf
  · refine callX_pure awake16_ok ?_
    conv => whnf
    repeat ((first | refine bF ?_ | refine bT ?_ | refine dK (by kernel_rfl) ?_ | refine cK rfl ?_ | refine cK (by first | decide | omega) ?_ | refine wK (by omega) (by omega) ?_); conv => whnf)
    exact ret_of rfl rfl
  repeat ((first | refine bF ?_ | refine bT ?_ | refine dK (by kernel_rfl) ?_ | refine cK rfl ?_ | refine cK (by first | decide | omega) ?_ | refine wK (by omega) (by omega) ?_); conv => whnf)
  refine callX_pure (new17_nil many m0 m1 n hn) ?_
  conv => whnf
  repeat ((first | refine bF ?_ | refine bT ?_ | refine dK (by kernel_rfl) ?_ | refine cK rfl ?_ | refine cK (by first | decide | omega) ?_ | refine wK (by omega) (by omega) ?_); conv => whnf)
  refine aloop (ι := Nat × PS × (Nat → Pg) × (Nat → Int)) (fun k => [(1, .d (.lst (acts.map encPA))), (2, .d (.int .u8 id)), (3, .d (.int .u8 age)), (9, .ptr 9 0 0), (10, .ptr 10 0 0), (12, .d (.int .i64 k.1))])
    (fun k => [(9, .box k.2.1.box false), (10, .box ((mL k.2.2.1 k.2.2.2 n).map AV.d) false)])
    (fun k => k.1 ≤ acts.length ∧ k.1 ≤ 60 ∧ Inv k.2.1 k.2.2.1 k.2.2.2 (1 + k.1) k.1 ∧ k.2.1.now = 3 * k.1 ∧ k.2.1.f.fr.length = n) (fun k => 60 - k.1)
    (0, p0 n, (fun _ => zP), fun _ => 0) ⟨Nat.zero_le _, Nat.zero_le _, p0_inv n1 n8, rfl, List.length_replicate ..⟩ (le0 (le_of_cov ⟨rfl, rfl, rfl, rfl, rfl, rfl, trivial⟩ ⟨rfl, rfl, trivial⟩ ⟨rfl, rfl, rfl, rfl⟩)) ?_
  rintro ⟨k, p, P, W⟩ ⟨hk, hk80, hI, hnow, hlen⟩
  simp only at hk hk80 hI hnow hlen ⊢
  conv => whnf
  refine bcase_p (fun h5 => ?_) (fun h5 => ?_) <;> conv => whnf
  rotate_left
  · repeat ((first | refine bF ?_ | refine bT ?_ | refine dK (by kernel_rfl) ?_ | refine cK rfl ?_ | refine cK (by first | decide | omega) ?_ | refine wK (by omega) (by omega) ?_); conv => whnf)
    obtain ⟨r, l, e, f1, f2, ir, _, _, fg, c7⟩ := flush_known hI c1 c16 ByteArray.empty
    have hlm : (mL P W n).length = 69 := rfl
    have hM := ML.of P W n
    have hc17 : c < 17 := by omega
    have hmp := hM.p (j := 0 + 0 + c * (T 42).size) (q := c) (by simp only [szs]; omega) hc17
    have cg := rgetS_ok r.d c
    refine divK_rem (by decide) i0 ?_
    conv => whnf
    refine wrapK_in (w64 (by omega) (by omega)) ?_
    conv => whnf
    refine wrapK_in (w64 (by omega) (by omega)) ?_
    conv => whnf
    rw [hc]
    repeat ((first | refine bF ?_ | refine bT ?_ | refine dK (by kernel_rfl) ?_ | refine cK rfl ?_ | refine cK (by first | decide | omega) ?_ | refine wK (by omega) (by omega) ?_); conv => whnf)
    refine callX_pure c7 ?_
    conv => whnf
    repeat ((first | refine bF ?_ | refine bT ?_ | refine dK (by kernel_rfl) ?_ | refine cK rfl ?_ | refine cK (by first | decide | omega) ?_ | refine wK (by omega) (by omega) ?_); conv => whnf)
    by_cases hz : (P c).1 = 0
    · rw [if_pos hz] at f2
      subst f2
      refine callX_pure cg ?_
      conv => whnf
      repeat ((first | refine bF ?_ | refine bT ?_ | refine dK (by kernel_rfl) ?_ | refine cK rfl ?_ | refine cK (by first | decide | omega) ?_ | refine wK (by omega) (by omega) ?_); conv => whnf)
      refine idxK_nat (i := c) (by omega) ?_
      conv => whnf
      try (refine condK_of rfl ?_)
      refine (part_one (l := mL P W n) (.int .i64 (P c).1) (by first | rfl | simp only [killC_d]) (ML.i (by simp only [szs]; omega) hc17) ?_)
      conv => whnf
      repeat ((first | refine bF ?_ | refine bT ?_ | refine dK (by kernel_rfl) ?_ | refine cK rfl ?_ | refine cK (by first | decide | omega) ?_ | refine wK (by omega) (by omega) ?_); conv => whnf)
      refine bcase_f (by simp [hz]) ?_
      conv => whnf
      repeat ((first | refine bF ?_ | refine bT ?_ | refine dK (by kernel_rfl) ?_ | refine cK rfl ?_ | refine cK (by first | decide | omega) ?_ | refine wK (by omega) (by omega) ?_); conv => whnf)
      obtain ⟨g, l2, e2, ig, _, _, _, _, gd, c8⟩ := age_known hI age ByteArray.empty
      have hdt := hI.pj.fm.dl
      have hdl : (p.f.dt.map encI).length = p.f.dt.length := List.length_map ..
      refine callX_pure c8 ?_
      conv => whnf
      repeat ((first | refine bF ?_ | refine bT ?_ | refine dK (by kernel_rfl) ?_ | refine cK rfl ?_ | refine cK (by first | decide | omega) ?_ | refine wK (by omega) (by omega) ?_); conv => whnf)
      refine aloop (ι := Nat) (fun j => [(3, .d (.int .u8 age)), (9, .ptr 9 0 0), (10, .ptr 10 0 0), (27, .ptr 27 0 0), (151, .d (encIs p.f.dt)), (152, .d (.int .i64 (p.f.dt.map encI).length)), (153, .d (.int .i64 j))])
        (fun j => [(9, .box p.box false), (10, .box ((mL P W n).map AV.d) false), (27, .box g.box false)])
        (fun j => j ≤ p.f.dt.length) (fun j => p.f.dt.length - j) 0 (Nat.zero_le _) (le0 (le_of_cov ⟨rfl, rfl, rfl, rfl, rfl, rfl, rfl, trivial⟩ ⟨rfl, rfl, rfl, trivial⟩ ⟨rfl, rfl, rfl, rfl⟩)) ?_
      intro j hj
      conv => whnf
      refine bcase_p (fun f1 => ?_) (fun f1 => ?_) <;> conv => whnf
      rotate_left
      · repeat ((first | refine bF ?_ | refine bT ?_ | refine dK (by kernel_rfl) ?_ | refine cK rfl ?_ | refine cK (by first | decide | omega) ?_ | refine wK (by omega) (by omega) ?_); conv => whnf)
        refine callX_pure awake16_ok ?_
        conv => whnf
        repeat ((first | refine bF ?_ | refine bT ?_ | refine dK (by kernel_rfl) ?_ | refine cK rfl ?_ | refine cK (by first | decide | omega) ?_ | refine wK (by omega) (by omega) ?_); conv => whnf)
        exact ret_of rfl rfl
      have hj2 : j < p.f.dt.length := by omega
      obtain ⟨x, hx⟩ : ∃ x, p.f.dt[j] = x := ⟨_, rfl⟩
      have hxm : x ∈ p.f.dt := by rw [← hx]; exact List.getElem_mem hj2
      obtain ⟨x1, x16, x0⟩ := right_id hI.pj.fm.dt hxm
      have hxn := hI.pj.dt x hxm
      have hxs : (p.f.dt.map encI)[j]? = some (encI x) := by simp [hj2, hx]
      obtain ⟨d, hd⟩ : ∃ d : Nat, x.1 = (d : Int) := ⟨x.1.toNat, by omega⟩
      have hd17 : d < 17 := by omega
      have cg2 := rgetS_ok g.d x.1
      refine idxK_nat (by omega) ?_
      conv => whnf
      refine getRow_of hxs ?_
      conv => whnf
      repeat ((first | refine bF ?_ | refine bT ?_ | refine dK (by kernel_rfl) ?_ | refine cK rfl ?_ | refine cK (by first | decide | omega) ?_ | refine wK (by omega) (by omega) ?_); conv => whnf)
      refine callX_pure cg2 ?_
      conv => whnf
      repeat ((first | refine bF ?_ | refine bT ?_ | refine dK (by kernel_rfl) ?_ | refine cK rfl ?_ | refine cK (by first | decide | omega) ?_ | refine wK (by omega) (by omega) ?_); conv => whnf)
      refine bcase_p (fun f2 => ?_) (fun f2 => ?_) <;> conv => whnf
      rotate_left
      · repeat ((first | refine bF ?_ | refine bT ?_ | refine dK (by kernel_rfl) ?_ | refine cK rfl ?_ | refine cK (by first | decide | omega) ?_ | refine wK (by omega) (by omega) ?_); conv => whnf)
        exact ⟨j + 1, by omega, by omega, (le0 (le_of_cov ⟨rfl, rfl, rfl, rfl, rfl, rfl, rfl, trivial⟩ ⟨rfl, rfl, rfl, trivial⟩ ⟨rfl, rfl, rfl, rfl⟩))⟩
      repeat ((first | refine bF ?_ | refine bT ?_ | refine dK (by kernel_rfl) ?_ | refine cK rfl ?_ | refine cK (by first | decide | omega) ?_ | refine wK (by omega) (by omega) ?_); conv => whnf)
      refine bcase_p (fun f3 => ?_) (fun f3 => ?_) <;> conv => whnf
      · omega
      repeat ((first | refine bF ?_ | refine bT ?_ | refine dK (by kernel_rfl) ?_ | refine cK rfl ?_ | refine cK (by first | decide | omega) ?_ | refine wK (by omega) (by omega) ?_); conv => whnf)
      refine bcase_p (fun f4 => ?_) (fun f4 => ?_) <;> conv => whnf
      · omega
      repeat ((first | refine bF ?_ | refine bT ?_ | refine dK (by kernel_rfl) ?_ | refine cK rfl ?_ | refine cK (by first | decide | omega) ?_ | refine wK (by omega) (by omega) ?_); conv => whnf)
      have hgp : (getS g.d x.1).1 = P d := by
        have hno : ∀ y ∈ g.f.dt, y.1 ≠ (d : Int) := fun y hy e => by
          obtain ⟨y1, y2⟩ := (gd a0 y).1 hy
          have := dt_one hI.pj.fm.dt y1 hxm (by omega)
          subst this
          omega
        rw [hd, ig.pj.get (by omega) (by omega), ig.on.dsk d (by omega) (by omega) hno]
        split
        · rename_i hz2
          exact (ig.on.zz (by omega) (by omega) hz2).symm
        · rfl
      have hxd : x.1.toNat = d := by omega
      have hmd := hM.p (j := 0 + 0 + x.1.toNat * (T 42).size) (q := d) (by simp only [szs]; omega) hd17
      rw [hgp]
      refine idxK_int (by omega) (by omega) ?_
      conv => whnf
      try (refine condK_of rfl ?_)
      refine (part_agg (l := mL P W n) (l2 := encP (P d)) (by first | rfl | simp only [killC_d]) (by first | omega | (simp only [szs]; omega)) (hmd) ?_)
      conv => whnf
      repeat ((first | refine bF ?_ | refine bT ?_ | refine dK (by kernel_rfl) ?_ | refine cK rfl ?_ | refine cK (by first | decide | omega) ?_ | refine wK (by omega) (by omega) ?_); conv => whnf)
      refine bcase_f (by simp) ?_
      conv => whnf
      repeat ((first | refine bF ?_ | refine bT ?_ | refine dK (by kernel_rfl) ?_ | refine cK rfl ?_ | refine cK (by first | decide | omega) ?_ | refine wK (by omega) (by omega) ?_); conv => whnf)
      exact ⟨j + 1, by omega, by omega, (le0 (le_of_cov ⟨rfl, rfl, rfl, rfl, rfl, rfl, rfl, trivial⟩ ⟨rfl, rfl, rfl, trivial⟩ ⟨rfl, rfl, rfl, rfl⟩))⟩
    · rw [if_neg hz] at f2
      subst f2
      rw [fg hz] at cg
      refine callX_pure cg ?_
      conv => whnf
      repeat ((first | refine bF ?_ | refine bT ?_ | refine dK (by kernel_rfl) ?_ | refine cK rfl ?_ | refine cK (by first | decide | omega) ?_ | refine wK (by omega) (by omega) ?_); conv => whnf)
      refine idxK_nat (i := c) (by omega) ?_
      conv => whnf
      try (refine condK_of rfl ?_)
      refine (part_one (l := mL P W n) (.int .i64 (P c).1) (by first | rfl | simp only [killC_d]) (ML.i (by simp only [szs]; omega) hc17) ?_)
      conv => whnf
      repeat ((first | refine bF ?_ | refine bT ?_ | refine dK (by kernel_rfl) ?_ | refine cK rfl ?_ | refine cK (by first | decide | omega) ?_ | refine wK (by omega) (by omega) ?_); conv => whnf)
      refine bcase_f (by simp [hz]) ?_
      conv => whnf
      repeat ((first | refine bF ?_ | refine bT ?_ | refine dK (by kernel_rfl) ?_ | refine cK rfl ?_ | refine cK (by first | decide | omega) ?_ | refine wK (by omega) (by omega) ?_); conv => whnf)
      refine idxK_nat (i := c) (by omega) ?_
      conv => whnf
      try (refine condK_of rfl ?_)
      refine (part_agg (l := mL P W n) (l2 := encP (P c)) (by first | rfl | simp only [killC_d]) (by first | omega | (simp only [szs]; omega)) (hmp) ?_)
      conv => whnf
      repeat ((first | refine bF ?_ | refine bT ?_ | refine dK (by kernel_rfl) ?_ | refine cK rfl ?_ | refine cK (by first | decide | omega) ?_ | refine wK (by omega) (by omega) ?_); conv => whnf)
      refine bcase_f (by simp) ?_
      conv => whnf
      repeat ((first | refine bF ?_ | refine bT ?_ | refine dK (by kernel_rfl) ?_ | refine cK rfl ?_ | refine cK (by first | decide | omega) ?_ | refine wK (by omega) (by omega) ?_); conv => whnf)
      obtain ⟨g, l2, e2, ig, _, _, _, _, gd, c8⟩ := age_known hI age ByteArray.empty
      have hdt := hI.pj.fm.dl
      have hdl : (p.f.dt.map encI).length = p.f.dt.length := List.length_map ..
      refine callX_pure c8 ?_
      conv => whnf
      repeat ((first | refine bF ?_ | refine bT ?_ | refine dK (by kernel_rfl) ?_ | refine cK rfl ?_ | refine cK (by first | decide | omega) ?_ | refine wK (by omega) (by omega) ?_); conv => whnf)
      refine aloop (ι := Nat) (fun j => [(3, .d (.int .u8 age)), (9, .ptr 9 0 0), (10, .ptr 10 0 0), (27, .ptr 27 0 0), (151, .d (encIs p.f.dt)), (152, .d (.int .i64 (p.f.dt.map encI).length)), (153, .d (.int .i64 j))])
        (fun j => [(9, .box p.box false), (10, .box ((mL P W n).map AV.d) false), (27, .box g.box false)])
        (fun j => j ≤ p.f.dt.length) (fun j => p.f.dt.length - j) 0 (Nat.zero_le _) (le0 (le_of_cov ⟨rfl, rfl, rfl, rfl, rfl, rfl, rfl, trivial⟩ ⟨rfl, rfl, rfl, trivial⟩ ⟨rfl, rfl, rfl, rfl⟩)) ?_
      intro j hj
      conv => whnf
      refine bcase_p (fun f1 => ?_) (fun f1 => ?_) <;> conv => whnf
      rotate_left
      · repeat ((first | refine bF ?_ | refine bT ?_ | refine dK (by kernel_rfl) ?_ | refine cK rfl ?_ | refine cK (by first | decide | omega) ?_ | refine wK (by omega) (by omega) ?_); conv => whnf)
        refine callX_pure awake16_ok ?_
        conv => whnf
        repeat ((first | refine bF ?_ | refine bT ?_ | refine dK (by kernel_rfl) ?_ | refine cK rfl ?_ | refine cK (by first | decide | omega) ?_ | refine wK (by omega) (by omega) ?_); conv => whnf)
        exact ret_of rfl rfl
      have hj2 : j < p.f.dt.length := by omega
      obtain ⟨x, hx⟩ : ∃ x, p.f.dt[j] = x := ⟨_, rfl⟩
      have hxm : x ∈ p.f.dt := by rw [← hx]; exact List.getElem_mem hj2
      obtain ⟨x1, x16, x0⟩ := right_id hI.pj.fm.dt hxm
      have hxn := hI.pj.dt x hxm
      have hxs : (p.f.dt.map encI)[j]? = some (encI x) := by simp [hj2, hx]
      obtain ⟨d, hd⟩ : ∃ d : Nat, x.1 = (d : Int) := ⟨x.1.toNat, by omega⟩
      have hd17 : d < 17 := by omega
      have cg2 := rgetS_ok g.d x.1
      refine idxK_nat (by omega) ?_
      conv => whnf
      refine getRow_of hxs ?_
      conv => whnf
      repeat ((first | refine bF ?_ | refine bT ?_ | refine dK (by kernel_rfl) ?_ | refine cK rfl ?_ | refine cK (by first | decide | omega) ?_ | refine wK (by omega) (by omega) ?_); conv => whnf)
      refine callX_pure cg2 ?_
      conv => whnf
      repeat ((first | refine bF ?_ | refine bT ?_ | refine dK (by kernel_rfl) ?_ | refine cK rfl ?_ | refine cK (by first | decide | omega) ?_ | refine wK (by omega) (by omega) ?_); conv => whnf)
      refine bcase_p (fun f2 => ?_) (fun f2 => ?_) <;> conv => whnf
      rotate_left
      · repeat ((first | refine bF ?_ | refine bT ?_ | refine dK (by kernel_rfl) ?_ | refine cK rfl ?_ | refine cK (by first | decide | omega) ?_ | refine wK (by omega) (by omega) ?_); conv => whnf)
        exact ⟨j + 1, by omega, by omega, (le0 (le_of_cov ⟨rfl, rfl, rfl, rfl, rfl, rfl, rfl, trivial⟩ ⟨rfl, rfl, rfl, trivial⟩ ⟨rfl, rfl, rfl, rfl⟩))⟩
      repeat ((first | refine bF ?_ | refine bT ?_ | refine dK (by kernel_rfl) ?_ | refine cK rfl ?_ | refine cK (by first | decide | omega) ?_ | refine wK (by omega) (by omega) ?_); conv => whnf)
      refine bcase_p (fun f3 => ?_) (fun f3 => ?_) <;> conv => whnf
      · omega
      repeat ((first | refine bF ?_ | refine bT ?_ | refine dK (by kernel_rfl) ?_ | refine cK rfl ?_ | refine cK (by first | decide | omega) ?_ | refine wK (by omega) (by omega) ?_); conv => whnf)
      refine bcase_p (fun f4 => ?_) (fun f4 => ?_) <;> conv => whnf
      · omega
      repeat ((first | refine bF ?_ | refine bT ?_ | refine dK (by kernel_rfl) ?_ | refine cK rfl ?_ | refine cK (by first | decide | omega) ?_ | refine wK (by omega) (by omega) ?_); conv => whnf)
      have hgp : (getS g.d x.1).1 = P d := by
        have hno : ∀ y ∈ g.f.dt, y.1 ≠ (d : Int) := fun y hy e => by
          obtain ⟨y1, y2⟩ := (gd a0 y).1 hy
          have := dt_one hI.pj.fm.dt y1 hxm (by omega)
          subst this
          omega
        rw [hd, ig.pj.get (by omega) (by omega), ig.on.dsk d (by omega) (by omega) hno]
        split
        · rename_i hz2
          exact (ig.on.zz (by omega) (by omega) hz2).symm
        · rfl
      have hxd : x.1.toNat = d := by omega
      have hmd := hM.p (j := 0 + 0 + x.1.toNat * (T 42).size) (q := d) (by simp only [szs]; omega) hd17
      rw [hgp]
      refine idxK_int (by omega) (by omega) ?_
      conv => whnf
      try (refine condK_of rfl ?_)
      refine (part_agg (l := mL P W n) (l2 := encP (P d)) (by first | rfl | simp only [killC_d]) (by first | omega | (simp only [szs]; omega)) (hmd) ?_)
      conv => whnf
      repeat ((first | refine bF ?_ | refine bT ?_ | refine dK (by kernel_rfl) ?_ | refine cK rfl ?_ | refine cK (by first | decide | omega) ?_ | refine wK (by omega) (by omega) ?_); conv => whnf)
      refine bcase_f (by simp) ?_
      conv => whnf
      repeat ((first | refine bF ?_ | refine bT ?_ | refine dK (by kernel_rfl) ?_ | refine cK rfl ?_ | refine cK (by first | decide | omega) ?_ | refine wK (by omega) (by omega) ?_); conv => whnf)
      exact ⟨j + 1, by omega, by omega, (le0 (le_of_cov ⟨rfl, rfl, rfl, rfl, rfl, rfl, rfl, trivial⟩ ⟨rfl, rfl, rfl, trivial⟩ ⟨rfl, rfl, rfl, rfl⟩))⟩
  refine bcase_p (fun h6 => ?_) (fun h6 => ?_) <;> conv => whnf
  rotate_left
  · repeat ((first | refine bF ?_ | refine bT ?_ | refine dK (by kernel_rfl) ?_ | refine cK rfl ?_ | refine cK (by first | decide | omega) ?_ | refine wK (by omega) (by omega) ?_); conv => whnf)
    obtain ⟨r, l, e, f1, f2, ir, _, _, fg, c7⟩ := flush_known hI c1 c16 ByteArray.empty
    have hlm : (mL P W n).length = 69 := rfl
    have hM := ML.of P W n
    have hc17 : c < 17 := by omega
    have hmp := hM.p (j := 0 + 0 + c * (T 42).size) (q := c) (by simp only [szs]; omega) hc17
    have cg := rgetS_ok r.d c
    refine divK_rem (by decide) i0 ?_
    conv => whnf
    refine wrapK_in (w64 (by omega) (by omega)) ?_
    conv => whnf
    refine wrapK_in (w64 (by omega) (by omega)) ?_
    conv => whnf
    rw [hc]
    repeat ((first | refine bF ?_ | refine bT ?_ | refine dK (by kernel_rfl) ?_ | refine cK rfl ?_ | refine cK (by first | decide | omega) ?_ | refine wK (by omega) (by omega) ?_); conv => whnf)
    refine callX_pure c7 ?_
    conv => whnf
    repeat ((first | refine bF ?_ | refine bT ?_ | refine dK (by kernel_rfl) ?_ | refine cK rfl ?_ | refine cK (by first | decide | omega) ?_ | refine wK (by omega) (by omega) ?_); conv => whnf)
    by_cases hz : (P c).1 = 0
    · rw [if_pos hz] at f2
      subst f2
      refine callX_pure cg ?_
      conv => whnf
      repeat ((first | refine bF ?_ | refine bT ?_ | refine dK (by kernel_rfl) ?_ | refine cK rfl ?_ | refine cK (by first | decide | omega) ?_ | refine wK (by omega) (by omega) ?_); conv => whnf)
      refine idxK_nat (i := c) (by omega) ?_
      conv => whnf
      try (refine condK_of rfl ?_)
      refine (part_one (l := mL P W n) (.int .i64 (P c).1) (by first | rfl | simp only [killC_d]) (ML.i (by simp only [szs]; omega) hc17) ?_)
      conv => whnf
      repeat ((first | refine bF ?_ | refine bT ?_ | refine dK (by kernel_rfl) ?_ | refine cK rfl ?_ | refine cK (by first | decide | omega) ?_ | refine wK (by omega) (by omega) ?_); conv => whnf)
      refine bcase_f (by simp [hz]) ?_
      conv => whnf
      repeat ((first | refine bF ?_ | refine bT ?_ | refine dK (by kernel_rfl) ?_ | refine cK rfl ?_ | refine cK (by first | decide | omega) ?_ | refine wK (by omega) (by omega) ?_); conv => whnf)
      obtain ⟨g, l2, e2, ig, _, _, _, _, gd, c8⟩ := age_known hI age ByteArray.empty
      have hdt := hI.pj.fm.dl
      have hdl : (p.f.dt.map encI).length = p.f.dt.length := List.length_map ..
      refine callX_pure c8 ?_
      conv => whnf
      repeat ((first | refine bF ?_ | refine bT ?_ | refine dK (by kernel_rfl) ?_ | refine cK rfl ?_ | refine cK (by first | decide | omega) ?_ | refine wK (by omega) (by omega) ?_); conv => whnf)
      refine aloop (ι := Nat) (fun j => [(3, .d (.int .u8 age)), (9, .ptr 9 0 0), (10, .ptr 10 0 0), (27, .ptr 27 0 0), (151, .d (encIs p.f.dt)), (152, .d (.int .i64 (p.f.dt.map encI).length)), (153, .d (.int .i64 j))])
        (fun j => [(9, .box p.box false), (10, .box ((mL P W n).map AV.d) false), (27, .box g.box false)])
        (fun j => j ≤ p.f.dt.length) (fun j => p.f.dt.length - j) 0 (Nat.zero_le _) (le0 (le_of_cov ⟨rfl, rfl, rfl, rfl, rfl, rfl, rfl, trivial⟩ ⟨rfl, rfl, rfl, trivial⟩ ⟨rfl, rfl, rfl, rfl⟩)) ?_
      intro j hj
      conv => whnf
      refine bcase_p (fun f1 => ?_) (fun f1 => ?_) <;> conv => whnf
      rotate_left
      · repeat ((first | refine bF ?_ | refine bT ?_ | refine dK (by kernel_rfl) ?_ | refine cK rfl ?_ | refine cK (by first | decide | omega) ?_ | refine wK (by omega) (by omega) ?_); conv => whnf)
        refine callX_pure awake16_ok ?_
        conv => whnf
        repeat ((first | refine bF ?_ | refine bT ?_ | refine dK (by kernel_rfl) ?_ | refine cK rfl ?_ | refine cK (by first | decide | omega) ?_ | refine wK (by omega) (by omega) ?_); conv => whnf)
        exact ret_of rfl rfl
      have hj2 : j < p.f.dt.length := by omega
      obtain ⟨x, hx⟩ : ∃ x, p.f.dt[j] = x := ⟨_, rfl⟩
      have hxm : x ∈ p.f.dt := by rw [← hx]; exact List.getElem_mem hj2
      obtain ⟨x1, x16, x0⟩ := right_id hI.pj.fm.dt hxm
      have hxn := hI.pj.dt x hxm
      have hxs : (p.f.dt.map encI)[j]? = some (encI x) := by simp [hj2, hx]
      obtain ⟨d, hd⟩ : ∃ d : Nat, x.1 = (d : Int) := ⟨x.1.toNat, by omega⟩
      have hd17 : d < 17 := by omega
      have cg2 := rgetS_ok g.d x.1
      refine idxK_nat (by omega) ?_
      conv => whnf
      refine getRow_of hxs ?_
      conv => whnf
      repeat ((first | refine bF ?_ | refine bT ?_ | refine dK (by kernel_rfl) ?_ | refine cK rfl ?_ | refine cK (by first | decide | omega) ?_ | refine wK (by omega) (by omega) ?_); conv => whnf)
      refine callX_pure cg2 ?_
      conv => whnf
      repeat ((first | refine bF ?_ | refine bT ?_ | refine dK (by kernel_rfl) ?_ | refine cK rfl ?_ | refine cK (by first | decide | omega) ?_ | refine wK (by omega) (by omega) ?_); conv => whnf)
      refine bcase_p (fun f2 => ?_) (fun f2 => ?_) <;> conv => whnf
      rotate_left
      · repeat ((first | refine bF ?_ | refine bT ?_ | refine dK (by kernel_rfl) ?_ | refine cK rfl ?_ | refine cK (by first | decide | omega) ?_ | refine wK (by omega) (by omega) ?_); conv => whnf)
        exact ⟨j + 1, by omega, by omega, (le0 (le_of_cov ⟨rfl, rfl, rfl, rfl, rfl, rfl, rfl, trivial⟩ ⟨rfl, rfl, rfl, trivial⟩ ⟨rfl, rfl, rfl, rfl⟩))⟩
      repeat ((first | refine bF ?_ | refine bT ?_ | refine dK (by kernel_rfl) ?_ | refine cK rfl ?_ | refine cK (by first | decide | omega) ?_ | refine wK (by omega) (by omega) ?_); conv => whnf)
      refine bcase_p (fun f3 => ?_) (fun f3 => ?_) <;> conv => whnf
      · omega
      repeat ((first | refine bF ?_ | refine bT ?_ | refine dK (by kernel_rfl) ?_ | refine cK rfl ?_ | refine cK (by first | decide | omega) ?_ | refine wK (by omega) (by omega) ?_); conv => whnf)
      refine bcase_p (fun f4 => ?_) (fun f4 => ?_) <;> conv => whnf
      · omega
      repeat ((first | refine bF ?_ | refine bT ?_ | refine dK (by kernel_rfl) ?_ | refine cK rfl ?_ | refine cK (by first | decide | omega) ?_ | refine wK (by omega) (by omega) ?_); conv => whnf)
      have hgp : (getS g.d x.1).1 = P d := by
        have hno : ∀ y ∈ g.f.dt, y.1 ≠ (d : Int) := fun y hy e => by
          obtain ⟨y1, y2⟩ := (gd a0 y).1 hy
          have := dt_one hI.pj.fm.dt y1 hxm (by omega)
          subst this
          omega
        rw [hd, ig.pj.get (by omega) (by omega), ig.on.dsk d (by omega) (by omega) hno]
        split
        · rename_i hz2
          exact (ig.on.zz (by omega) (by omega) hz2).symm
        · rfl
      have hxd : x.1.toNat = d := by omega
      have hmd := hM.p (j := 0 + 0 + x.1.toNat * (T 42).size) (q := d) (by simp only [szs]; omega) hd17
      rw [hgp]
      refine idxK_int (by omega) (by omega) ?_
      conv => whnf
      try (refine condK_of rfl ?_)
      refine (part_agg (l := mL P W n) (l2 := encP (P d)) (by first | rfl | simp only [killC_d]) (by first | omega | (simp only [szs]; omega)) (hmd) ?_)
      conv => whnf
      repeat ((first | refine bF ?_ | refine bT ?_ | refine dK (by kernel_rfl) ?_ | refine cK rfl ?_ | refine cK (by first | decide | omega) ?_ | refine wK (by omega) (by omega) ?_); conv => whnf)
      refine bcase_f (by simp) ?_
      conv => whnf
      repeat ((first | refine bF ?_ | refine bT ?_ | refine dK (by kernel_rfl) ?_ | refine cK rfl ?_ | refine cK (by first | decide | omega) ?_ | refine wK (by omega) (by omega) ?_); conv => whnf)
      exact ⟨j + 1, by omega, by omega, (le0 (le_of_cov ⟨rfl, rfl, rfl, rfl, rfl, rfl, rfl, trivial⟩ ⟨rfl, rfl, rfl, trivial⟩ ⟨rfl, rfl, rfl, rfl⟩))⟩
    · rw [if_neg hz] at f2
      subst f2
      rw [fg hz] at cg
      refine callX_pure cg ?_
      conv => whnf
      repeat ((first | refine bF ?_ | refine bT ?_ | refine dK (by kernel_rfl) ?_ | refine cK rfl ?_ | refine cK (by first | decide | omega) ?_ | refine wK (by omega) (by omega) ?_); conv => whnf)
      refine idxK_nat (i := c) (by omega) ?_
      conv => whnf
      try (refine condK_of rfl ?_)
      refine (part_one (l := mL P W n) (.int .i64 (P c).1) (by first | rfl | simp only [killC_d]) (ML.i (by simp only [szs]; omega) hc17) ?_)
      conv => whnf
      repeat ((first | refine bF ?_ | refine bT ?_ | refine dK (by kernel_rfl) ?_ | refine cK rfl ?_ | refine cK (by first | decide | omega) ?_ | refine wK (by omega) (by omega) ?_); conv => whnf)
      refine bcase_f (by simp [hz]) ?_
      conv => whnf
      repeat ((first | refine bF ?_ | refine bT ?_ | refine dK (by kernel_rfl) ?_ | refine cK rfl ?_ | refine cK (by first | decide | omega) ?_ | refine wK (by omega) (by omega) ?_); conv => whnf)
      refine idxK_nat (i := c) (by omega) ?_
      conv => whnf
      try (refine condK_of rfl ?_)
      refine (part_agg (l := mL P W n) (l2 := encP (P c)) (by first | rfl | simp only [killC_d]) (by first | omega | (simp only [szs]; omega)) (hmp) ?_)
      conv => whnf
      repeat ((first | refine bF ?_ | refine bT ?_ | refine dK (by kernel_rfl) ?_ | refine cK rfl ?_ | refine cK (by first | decide | omega) ?_ | refine wK (by omega) (by omega) ?_); conv => whnf)
      refine bcase_f (by simp) ?_
      conv => whnf
      repeat ((first | refine bF ?_ | refine bT ?_ | refine dK (by kernel_rfl) ?_ | refine cK rfl ?_ | refine cK (by first | decide | omega) ?_ | refine wK (by omega) (by omega) ?_); conv => whnf)
      obtain ⟨g, l2, e2, ig, _, _, _, _, gd, c8⟩ := age_known hI age ByteArray.empty
      have hdt := hI.pj.fm.dl
      have hdl : (p.f.dt.map encI).length = p.f.dt.length := List.length_map ..
      refine callX_pure c8 ?_
      conv => whnf
      repeat ((first | refine bF ?_ | refine bT ?_ | refine dK (by kernel_rfl) ?_ | refine cK rfl ?_ | refine cK (by first | decide | omega) ?_ | refine wK (by omega) (by omega) ?_); conv => whnf)
      refine aloop (ι := Nat) (fun j => [(3, .d (.int .u8 age)), (9, .ptr 9 0 0), (10, .ptr 10 0 0), (27, .ptr 27 0 0), (151, .d (encIs p.f.dt)), (152, .d (.int .i64 (p.f.dt.map encI).length)), (153, .d (.int .i64 j))])
        (fun j => [(9, .box p.box false), (10, .box ((mL P W n).map AV.d) false), (27, .box g.box false)])
        (fun j => j ≤ p.f.dt.length) (fun j => p.f.dt.length - j) 0 (Nat.zero_le _) (le0 (le_of_cov ⟨rfl, rfl, rfl, rfl, rfl, rfl, rfl, trivial⟩ ⟨rfl, rfl, rfl, trivial⟩ ⟨rfl, rfl, rfl, rfl⟩)) ?_
      intro j hj
      conv => whnf
      refine bcase_p (fun f1 => ?_) (fun f1 => ?_) <;> conv => whnf
      rotate_left
      · repeat ((first | refine bF ?_ | refine bT ?_ | refine dK (by kernel_rfl) ?_ | refine cK rfl ?_ | refine cK (by first | decide | omega) ?_ | refine wK (by omega) (by omega) ?_); conv => whnf)
        refine callX_pure awake16_ok ?_
        conv => whnf
        repeat ((first | refine bF ?_ | refine bT ?_ | refine dK (by kernel_rfl) ?_ | refine cK rfl ?_ | refine cK (by first | decide | omega) ?_ | refine wK (by omega) (by omega) ?_); conv => whnf)
        exact ret_of rfl rfl
      have hj2 : j < p.f.dt.length := by omega
      obtain ⟨x, hx⟩ : ∃ x, p.f.dt[j] = x := ⟨_, rfl⟩
      have hxm : x ∈ p.f.dt := by rw [← hx]; exact List.getElem_mem hj2
      obtain ⟨x1, x16, x0⟩ := right_id hI.pj.fm.dt hxm
      have hxn := hI.pj.dt x hxm
      have hxs : (p.f.dt.map encI)[j]? = some (encI x) := by simp [hj2, hx]
      obtain ⟨d, hd⟩ : ∃ d : Nat, x.1 = (d : Int) := ⟨x.1.toNat, by omega⟩
      have hd17 : d < 17 := by omega
      have cg2 := rgetS_ok g.d x.1
      refine idxK_nat (by omega) ?_
      conv => whnf
      refine getRow_of hxs ?_
      conv => whnf
      repeat ((first | refine bF ?_ | refine bT ?_ | refine dK (by kernel_rfl) ?_ | refine cK rfl ?_ | refine cK (by first | decide | omega) ?_ | refine wK (by omega) (by omega) ?_); conv => whnf)
      refine callX_pure cg2 ?_
      conv => whnf
      repeat ((first | refine bF ?_ | refine bT ?_ | refine dK (by kernel_rfl) ?_ | refine cK rfl ?_ | refine cK (by first | decide | omega) ?_ | refine wK (by omega) (by omega) ?_); conv => whnf)
      refine bcase_p (fun f2 => ?_) (fun f2 => ?_) <;> conv => whnf
      rotate_left
      · repeat ((first | refine bF ?_ | refine bT ?_ | refine dK (by kernel_rfl) ?_ | refine cK rfl ?_ | refine cK (by first | decide | omega) ?_ | refine wK (by omega) (by omega) ?_); conv => whnf)
        exact ⟨j + 1, by omega, by omega, (le0 (le_of_cov ⟨rfl, rfl, rfl, rfl, rfl, rfl, rfl, trivial⟩ ⟨rfl, rfl, rfl, trivial⟩ ⟨rfl, rfl, rfl, rfl⟩))⟩
      repeat ((first | refine bF ?_ | refine bT ?_ | refine dK (by kernel_rfl) ?_ | refine cK rfl ?_ | refine cK (by first | decide | omega) ?_ | refine wK (by omega) (by omega) ?_); conv => whnf)
      refine bcase_p (fun f3 => ?_) (fun f3 => ?_) <;> conv => whnf
      · omega
      repeat ((first | refine bF ?_ | refine bT ?_ | refine dK (by kernel_rfl) ?_ | refine cK rfl ?_ | refine cK (by first | decide | omega) ?_ | refine wK (by omega) (by omega) ?_); conv => whnf)
      refine bcase_p (fun f4 => ?_) (fun f4 => ?_) <;> conv => whnf
      · omega
      repeat ((first | refine bF ?_ | refine bT ?_ | refine dK (by kernel_rfl) ?_ | refine cK rfl ?_ | refine cK (by first | decide | omega) ?_ | refine wK (by omega) (by omega) ?_); conv => whnf)
      have hgp : (getS g.d x.1).1 = P d := by
        have hno : ∀ y ∈ g.f.dt, y.1 ≠ (d : Int) := fun y hy e => by
          obtain ⟨y1, y2⟩ := (gd a0 y).1 hy
          have := dt_one hI.pj.fm.dt y1 hxm (by omega)
          subst this
          omega
        rw [hd, ig.pj.get (by omega) (by omega), ig.on.dsk d (by omega) (by omega) hno]
        split
        · rename_i hz2
          exact (ig.on.zz (by omega) (by omega) hz2).symm
        · rfl
      have hxd : x.1.toNat = d := by omega
      have hmd := hM.p (j := 0 + 0 + x.1.toNat * (T 42).size) (q := d) (by simp only [szs]; omega) hd17
      rw [hgp]
      refine idxK_int (by omega) (by omega) ?_
      conv => whnf
      try (refine condK_of rfl ?_)
      refine (part_agg (l := mL P W n) (l2 := encP (P d)) (by first | rfl | simp only [killC_d]) (by first | omega | (simp only [szs]; omega)) (hmd) ?_)
      conv => whnf
      repeat ((first | refine bF ?_ | refine bT ?_ | refine dK (by kernel_rfl) ?_ | refine cK rfl ?_ | refine cK (by first | decide | omega) ?_ | refine wK (by omega) (by omega) ?_); conv => whnf)
      refine bcase_f (by simp) ?_
      conv => whnf
      repeat ((first | refine bF ?_ | refine bT ?_ | refine dK (by kernel_rfl) ?_ | refine cK rfl ?_ | refine cK (by first | decide | omega) ?_ | refine wK (by omega) (by omega) ?_); conv => whnf)
      exact ⟨j + 1, by omega, by omega, (le0 (le_of_cov ⟨rfl, rfl, rfl, rfl, rfl, rfl, rfl, trivial⟩ ⟨rfl, rfl, rfl, trivial⟩ ⟨rfl, rfl, rfl, rfl⟩))⟩
  have hk2 : k < acts.length := by omega
  obtain ⟨q, P', W', x, l, e, e1, iq, qn, qlen, run, few, none, hdoc, c18, c19⟩ := act_facts hI (by omega) (by omega) (by omega) (by omega) acts[k] hlen
  have hq0 := iq.pj.n0
  have hq1 := iq.pj.n1
  have iq2 := iq.tick (n := 3 * ((k : Int) + 1)) (by omega) (by omega)
  repeat ((first | refine bF ?_ | refine bT ?_ | refine dK (by kernel_rfl) ?_ | refine cK rfl ?_ | refine cK (by first | decide | omega) ?_ | refine wK (by omega) (by omega) ?_); conv => whnf)
  refine idxK_nat (by omega) ?_
  conv => whnf
  refine getRow_of (x := encPA acts[k]) (by simp [hk2]) ?_
  conv => whnf
  repeat ((first | refine bF ?_ | refine bT ?_ | refine dK (by kernel_rfl) ?_ | refine cK rfl ?_ | refine cK (by first | decide | omega) ?_ | refine wK (by omega) (by omega) ?_); conv => whnf)
  refine callX_pure c18 ?_
  conv => whnf
  repeat ((first | refine bF ?_ | refine bT ?_ | refine dK (by kernel_rfl) ?_ | refine cK rfl ?_ | refine cK (by first | decide | omega) ?_ | refine wK (by omega) (by omega) ?_); conv => whnf)
  refine idxK_nat (by omega) ?_
  conv => whnf
  refine getRow_of (x := encPA acts[k]) (by simp [hk2]) ?_
  conv => whnf
  repeat ((first | refine bF ?_ | refine bT ?_ | refine dK (by kernel_rfl) ?_ | refine cK rfl ?_ | refine cK (by first | decide | omega) ?_ | refine wK (by omega) (by omega) ?_); conv => whnf)
  refine idxK_nat (by omega) ?_
  conv => whnf
  refine getRow_of (x := encPA acts[k]) (by simp [hk2]) ?_
  conv => whnf
  repeat ((first | refine bF ?_ | refine bT ?_ | refine dK (by kernel_rfl) ?_ | refine cK rfl ?_ | refine cK (by first | decide | omega) ?_ | refine wK (by omega) (by omega) ?_); conv => whnf)
  refine idxK_nat (by omega) ?_
  conv => whnf
  refine getRow_of (x := encPA acts[k]) (by simp [hk2]) ?_
  conv => whnf
  repeat ((first | refine bF ?_ | refine bT ?_ | refine dK (by kernel_rfl) ?_ | refine cK rfl ?_ | refine cK (by first | decide | omega) ?_ | refine wK (by omega) (by omega) ?_); conv => whnf)
  refine callX_pure c19 ?_
  conv => whnf
  repeat ((first | refine bF ?_ | refine bT ?_ | refine dK (by kernel_rfl) ?_ | refine cK rfl ?_ | refine cK (by first | decide | omega) ?_ | refine wK (by omega) (by omega) ?_); conv => whnf)
  refine callX_pure (tick_ok q 3 hq0 hq1) ?_
  conv => whnf
  repeat ((first | refine bF ?_ | refine bT ?_ | refine dK (by kernel_rfl) ?_ | refine cK rfl ?_ | refine cK (by first | decide | omega) ?_ | refine wK (by omega) (by omega) ?_); conv => whnf)
  rw [tickP_3 (show 3 * ((k : Int) + 1) ≤ 2147483647 by omega) (by omega)]
  repeat ((first | refine bF ?_ | refine bT ?_ | refine dK (by kernel_rfl) ?_ | refine cK rfl ?_ | refine cK (by first | decide | omega) ?_ | refine wK (by omega) (by omega) ?_); conv => whnf)
  exact ⟨(k + 1, ⟨q.f, q.d, 3 * ((k : Int) + 1)⟩, P', W'), ⟨by simp only []; omega, by simp only []; omega, by simp only [Int.natCast_succ]; rw [← Int.add_assoc]; exact iq2, by simp only []; omega, qlen⟩, by simp only []; omega, (le0 (le_of_cov ⟨rfl, rfl, rfl, rfl, rfl, rfl, trivial⟩ ⟨rfl, rfl, trivial⟩ ⟨rfl, rfl, rfl, rfl⟩))⟩
end Go.Lk

