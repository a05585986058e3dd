/-
  What is proved here: what functions of the program compute, and what follows; no condition beyond each theorem's own.
-/
import Derived.Test.YtfpmffadpjoogaaGreatBAn
set_option linter.unusedSimpArgs false
set_option linter.unusedVariables false
set_option linter.unnecessarySimpa false
set_option linter.unusedSectionVars false
namespace Go.Lk
open Go Go.Proofs Go.RowKit

def bL (w : Nat → Bool) : List D := (List.range 17).map fun q => D.bool (w q)
theorem bL_len {w} : (bL w).length = 17 := rfl
theorem bL_at {w} {q : Nat} (h : q < 17) : (bL w)[q]? = some (.bool (w q)) := by
  rw [bL, List.getElem?_map, List.getElem?_range h]; rfl
theorem bL_set {w} {q : Nat} (h : q < 17) : (bL w).set q (.bool true) = bL (ud w q true) := by
  apply List.ext_getElem
  · rw [List.length_set]; rfl
  · intro i h1 h2
    have hi : i < 17 := h2
    rw [List.getElem_set]
    simp only [bL, List.getElem_map, List.getElem_range, ud]
    by_cases e : q = i
    · rw [if_pos e, if_pos e.symm]
    · rw [if_neg e, if_neg (fun g => e g.symm)]
def wtB (l : List (Int × Int)) (q : Nat) : Bool := l.any fun x => decide (x.1 = (q : Int))
theorem wtB_snoc {l : List (Int × Int)} {x : Int × Int} (h : 0 ≤ x.1) : wtB (l ++ [x]) = ud (wtB l) x.1.toNat true := by
  funext q
  simp only [wtB, ud, List.any_append, List.any_cons, List.any_nil, Bool.or_false]
  by_cases e : q = x.1.toNat
  · rw [if_pos e, decide_eq_true (by omega), Bool.or_true]
  · rw [if_neg e, decide_eq_false (by omega), Bool.or_false]
theorem wtB_no {l : List (Int × Int)} {q : Nat} (h : wtB l q = false) : ∀ x ∈ l, x.1 ≠ (q : Int) := by
  intro x hx e
  have : wtB l q = true := List.any_eq_true.2 ⟨x, hx, decide_eq_true e⟩
  rw [h] at this; cases this
set_option maxRecDepth 100000 in
set_option maxHeartbeats 8000000 in
theorem poolDisk_ok (many : Int) (m0 : 0 ≤ many) (m1 : many ≤ 255) (pages : List Pg) (acts : List PAct) : ACall Tryz.prog 9 [.int .u8 many, .lst (pages.map encP), .lst (acts.map encPA)] (.bool true) := by
  obtain ⟨n, hn⟩ : ∃ n : Nat, 1 + many % 8 = (n : Int) := ⟨(1 + many % 8).toNat, by omega⟩
  have hm : (acts.map encPA).length = acts.length := List.length_map ..
  have n1 : 1 ≤ n := by omega
  have n8 : n ≤ 8 := by omega
  refine acall_of Tryz.func9 3 rfl (by kernel_rfl) ?_
  conv => whnf
  repeat ((first | refine bF ?_ | refine bT ?_ | refine dK (by kernel_rfl) ?_ | refine cK rfl ?_ | refine cK (by first | decide | omega) ?_ | refine wK (by omega) (by omega) ?_); conv => whnf)
  refine callX_pure (small_ok acts) ?_
  conv => whnf
  repeat ((first | refine bF ?_ | refine bT ?_ | refine dK (by kernel_rfl) ?_ | refine cK rfl ?_ | refine cK (by first | decide | omega) ?_ | refine wK (by omega) (by omega) ?_); conv => whnf)
  refine bcase_intro (fun h1 => ?_) (fun h1 => ?_) <;> conv => whnf
  · refine callX_pure awake16_ok ?_
    conv => whnf
    repeat ((first | refine bF ?_ | refine bT ?_ | refine dK (by kernel_rfl) ?_ | refine cK rfl ?_ | refine cK (by first | decide | omega) ?_ | refine wK (by omega) (by omega) ?_); conv => whnf)
    exact ret_of rfl rfl
  repeat ((first | refine bF ?_ | refine bT ?_ | refine dK (by kernel_rfl) ?_ | refine cK rfl ?_ | refine cK (by first | decide | omega) ?_ | refine wK (by omega) (by omega) ?_); conv => whnf)
  refine callX_pure (new17_ok many m0 m1 pages n hn) ?_
  conv => whnf
  repeat ((first | refine bF ?_ | refine bT ?_ | refine dK (by kernel_rfl) ?_ | refine cK rfl ?_ | refine cK (by first | decide | omega) ?_ | refine wK (by omega) (by omega) ?_); conv => whnf)
  refine aloop (ι := Nat × PS × (Nat → Pg) × (Nat → Int)) (fun k => [(2, .d (.lst (acts.map encPA))), (7, .ptr 7 0 0), (8, .ptr 8 0 0), (10, .d (.int .i64 k.1))])
    (fun k => [(7, .box k.2.1.box false), (8, .box ((mL k.2.2.1 k.2.2.2 n).map AV.d) false)])
    (fun k => k.1 ≤ acts.length ∧ k.1 ≤ 80 ∧ Inv k.2.1 k.2.2.1 k.2.2.2 (1073741824 + k.1) k.1 ∧ k.2.1.now = 3 * k.1 ∧ k.2.1.f.fr.length = n) (fun k => 80 - k.1)
    (0, ⟨newFS n, ⟨(newG pages).1, []⟩, 0⟩, (newG pages).2, fun _ => 0) ⟨Nat.zero_le _, Nat.zero_le _, start_inv pages n1 n8, rfl, List.length_replicate ..⟩ (le0 (le_of_cov ⟨rfl, rfl, rfl, rfl, trivial⟩ ⟨rfl, rfl, trivial⟩ ⟨rfl, rfl, rfl, rfl⟩)) ?_
  rintro ⟨k, p, P, W⟩ ⟨hk, hk80, hI, hnow, hlen⟩
  simp only at hk hk80 hI hnow hlen ⊢
  conv => whnf
  refine bcase_p (fun h5 => ?_) (fun h5 => ?_) <;> conv => whnf
  rotate_left
  · repeat ((first | refine bF ?_ | refine bT ?_ | refine dK (by kernel_rfl) ?_ | refine cK rfl ?_ | refine cK (by first | decide | omega) ?_ | refine wK (by omega) (by omega) ?_); conv => whnf)
    refine callX_pure awake16_ok ?_
    conv => whnf
    repeat ((first | refine bF ?_ | refine bT ?_ | refine dK (by kernel_rfl) ?_ | refine cK rfl ?_ | refine cK (by first | decide | omega) ?_ | refine wK (by omega) (by omega) ?_); conv => whnf)
    exact ret_of rfl rfl
  refine bcase_p (fun h6 => ?_) (fun h6 => ?_) <;> conv => whnf
  rotate_left
  · repeat ((first | refine bF ?_ | refine bT ?_ | refine dK (by kernel_rfl) ?_ | refine cK rfl ?_ | refine cK (by first | decide | omega) ?_ | refine wK (by omega) (by omega) ?_); conv => whnf)
    refine callX_pure awake16_ok ?_
    conv => whnf
    repeat ((first | refine bF ?_ | refine bT ?_ | refine dK (by kernel_rfl) ?_ | refine cK rfl ?_ | refine cK (by first | decide | omega) ?_ | refine wK (by omega) (by omega) ?_); conv => whnf)
    exact ret_of rfl rfl
  have hk2 : k < acts.length := by omega
  obtain ⟨q, P', W', x, l, e, e1, iq, qn, qlen, run, few, none, hdoc, c18, c19⟩ := act_facts hI (by omega) (by omega) (by omega) (by omega) acts[k] hlen
  have hl0 : (l.map encJ).length = l.length := List.length_map ..
  have hrun : runM p.d l (l.length : Nat) = q.d := by
    rw [runM, Int.toNat_natCast, List.take_length]; exact run
  have hs := iq.pj.rest.m
  have hca := iq.pj.ca
  have hc : q.d.ca.length ≤ 1000 := by rw [hca]; decide
  have hq0 := iq.pj.n0
  have hq1 := iq.pj.n1
  have iq2 := iq.tick (n := 3 * ((k : Int) + 1)) (by omega) (by omega)
  repeat ((first | refine bF ?_ | refine bT ?_ | refine dK (by kernel_rfl) ?_ | refine cK rfl ?_ | refine cK (by first | decide | omega) ?_ | refine wK (by omega) (by omega) ?_); conv => whnf)
  refine idxK_nat (by omega) ?_
  conv => whnf
  refine getRow_of (x := encPA acts[k]) (by simp [hk2]) ?_
  conv => whnf
  repeat ((first | refine bF ?_ | refine bT ?_ | refine dK (by kernel_rfl) ?_ | refine cK rfl ?_ | refine cK (by first | decide | omega) ?_ | refine wK (by omega) (by omega) ?_); conv => whnf)
  refine callX_pure c18 ?_
  conv => whnf
  repeat ((first | refine bF ?_ | refine bT ?_ | refine dK (by kernel_rfl) ?_ | refine cK rfl ?_ | refine cK (by first | decide | omega) ?_ | refine wK (by omega) (by omega) ?_); conv => whnf)
  refine bcase_f (by simp [hl0]; omega) ?_
  conv => whnf
  repeat ((first | refine bF ?_ | refine bT ?_ | refine dK (by kernel_rfl) ?_ | refine cK rfl ?_ | refine cK (by first | decide | omega) ?_ | refine wK (by omega) (by omega) ?_); conv => whnf)
  rw [hl0]
  refine callX_pure (run_ok p.d l (l.length : Nat) (by omega)) ?_
  conv => whnf
  repeat ((first | refine bF ?_ | refine bT ?_ | refine dK (by kernel_rfl) ?_ | refine cK rfl ?_ | refine cK (by first | decide | omega) ?_ | refine wK (by omega) (by omega) ?_); conv => whnf)
  rw [hrun]
  refine callX_pure (rsameD_ok q.d q.d (by omega) hc) ?_
  conv => whnf
  repeat ((first | refine bF ?_ | refine bT ?_ | refine dK (by kernel_rfl) ?_ | refine cK rfl ?_ | refine cK (by first | decide | omega) ?_ | refine wK (by omega) (by omega) ?_); conv => whnf)
  refine bcase_f (by simp) ?_
  conv => whnf
  repeat ((first | refine bF ?_ | refine bT ?_ | refine dK (by kernel_rfl) ?_ | refine cK rfl ?_ | refine cK (by first | decide | omega) ?_ | refine wK (by omega) (by omega) ?_); conv => whnf)
  refine bcase_f (by simp [hca]) ?_
  conv => whnf
  repeat ((first | refine bF ?_ | refine bT ?_ | refine dK (by kernel_rfl) ?_ | refine cK rfl ?_ | refine cK (by first | decide | omega) ?_ | refine wK (by omega) (by omega) ?_); conv => whnf)
  by_cases he : e = 0
  · subst he
    repeat ((first | refine bF ?_ | refine bT ?_ | refine dK (by kernel_rfl) ?_ | refine cK rfl ?_ | refine cK (by first | decide | omega) ?_ | refine wK (by omega) (by omega) ?_); conv => whnf)
    refine idxK_nat (by omega) ?_
    conv => whnf
    refine getRow_of (x := encPA acts[k]) (by simp [hk2]) ?_
    conv => whnf
    repeat ((first | refine bF ?_ | refine bT ?_ | refine dK (by kernel_rfl) ?_ | refine cK rfl ?_ | refine cK (by first | decide | omega) ?_ | refine wK (by omega) (by omega) ?_); conv => whnf)
    refine idxK_nat (by omega) ?_
    conv => whnf
    refine getRow_of (x := encPA acts[k]) (by simp [hk2]) ?_
    conv => whnf
    repeat ((first | refine bF ?_ | refine bT ?_ | refine dK (by kernel_rfl) ?_ | refine cK rfl ?_ | refine cK (by first | decide | omega) ?_ | refine wK (by omega) (by omega) ?_); conv => whnf)
    refine idxK_nat (by omega) ?_
    conv => whnf
    refine getRow_of (x := encPA acts[k]) (by simp [hk2]) ?_
    conv => whnf
    repeat ((first | refine bF ?_ | refine bT ?_ | refine dK (by kernel_rfl) ?_ | refine cK rfl ?_ | refine cK (by first | decide | omega) ?_ | refine wK (by omega) (by omega) ?_); conv => whnf)
    refine callX_pure c19 ?_
    conv => whnf
    repeat ((first | refine bF ?_ | refine bT ?_ | refine dK (by kernel_rfl) ?_ | refine cK rfl ?_ | refine cK (by first | decide | omega) ?_ | refine wK (by omega) (by omega) ?_); conv => whnf)
    refine callX_pure (tick_ok q 3 hq0 hq1) ?_
    conv => whnf
    repeat ((first | refine bF ?_ | refine bT ?_ | refine dK (by kernel_rfl) ?_ | refine cK rfl ?_ | refine cK (by first | decide | omega) ?_ | refine wK (by omega) (by omega) ?_); conv => whnf)
    rw [tickP_3 (show 3 * ((k : Int) + 1) ≤ 2147483647 by omega) (by omega)]
    repeat ((first | refine bF ?_ | refine bT ?_ | refine dK (by kernel_rfl) ?_ | refine cK rfl ?_ | refine cK (by first | decide | omega) ?_ | refine wK (by omega) (by omega) ?_); conv => whnf)
    refine aloop (ι := Nat) (fun j => [(2, .d (.lst (acts.map encPA))), (7, .ptr 7 0 0), (8, .ptr 8 0 0), (10, .d (.int .i64 k)), (18, .ptr 18 0 0), (123, .d (encIs q.f.dt)), (124, .d (.int .i64 (q.f.dt.map encI).length)), (125, .d (.int .i64 j))])
      (fun j => [(7, .box (PS.box ⟨q.f, q.d, 3 * ((k : Int) + 1)⟩) false), (8, .box ((mL P' W' n).map AV.d) false), (18, .box ((bL (wtB (q.f.dt.take j))).map AV.d) false)])
      (fun j => j ≤ q.f.dt.length) (fun j => q.f.dt.length - j) 0 (Nat.zero_le _) (le0 (le_of_cov ⟨rfl, rfl, rfl, rfl, rfl, rfl, rfl, rfl, trivial⟩ ⟨rfl, rfl, rfl, trivial⟩ ⟨rfl, rfl, rfl, rfl⟩)) ?_
    intro j hj
    have hdt := iq.pj.fm.dl
    have hdl : (q.f.dt.map encI).length = q.f.dt.length := List.length_map ..
    conv => whnf
    refine bcase_p (fun f1 => ?_) (fun f1 => ?_) <;> conv => whnf
    · have hj2 : j < q.f.dt.length := by omega
      obtain ⟨x1, x16, _⟩ := right_id iq.pj.fm.dt (List.getElem_mem hj2)
      have hin : q.f.dt[j].1.toNat < 17 := by omega
      refine idxK_nat (by omega) ?_
      conv => whnf
      refine getRow_of (x := encI q.f.dt[j]) (by simp [hj2]) ?_
      conv => whnf
      repeat ((first | refine bF ?_ | refine bT ?_ | refine dK (by kernel_rfl) ?_ | refine cK rfl ?_ | refine cK (by first | decide | omega) ?_ | refine wK (by omega) (by omega) ?_); conv => whnf)
      refine bcase_p (fun f2 => ?_) (fun f2 => ?_) <;> conv => whnf
      rotate_left
      · exact absurd x1 f2
      repeat ((first | refine bF ?_ | refine bT ?_ | refine dK (by kernel_rfl) ?_ | refine cK rfl ?_ | refine cK (by first | decide | omega) ?_ | refine wK (by omega) (by omega) ?_); conv => whnf)
      refine bcase_p (fun f3 => ?_) (fun f3 => ?_) <;> conv => whnf
      rotate_left
      · exact absurd x16 f3
      repeat ((first | refine bF ?_ | refine bT ?_ | refine dK (by kernel_rfl) ?_ | refine cK rfl ?_ | refine cK (by first | decide | omega) ?_ | refine wK (by omega) (by omega) ?_); conv => whnf)
      refine idxK_int (by omega) (by omega) ?_
      conv => whnf
      refine condK_of rfl (store_tt (c := (bL (wtB (q.f.dt.take j))).map AV.d) (c' := ((bL (wtB (q.f.dt.take j))).map AV.d).set q.f.dt[j].1.toNat .tt) (by show 0 + _ * 1 < 17; omega) (by rw [show 0 + q.f.dt[j].1.toNat * (T 4).size = q.f.dt[j].1.toNat by show 0 + _ * 1 = _; omega]) ?_)
      conv => whnf
      repeat ((first | refine bF ?_ | refine bT ?_ | refine dK (by kernel_rfl) ?_ | refine cK rfl ?_ | refine cK (by first | decide | omega) ?_ | refine wK (by omega) (by omega) ?_); conv => whnf)
      have ebx : (((bL (wtB (q.f.dt.take j))).map AV.d).set q.f.dt[j].1.toNat .tt).set q.f.dt[j].1.toNat (.d (.bool true)) = (bL (wtB (q.f.dt.take (j + 1)))).map AV.d := by
        rw [List.set_set, take_snoc hj2, wtB_snoc (by omega), ← bL_set hin, List.map_set]
      have eat : (((bL (wtB (q.f.dt.take j))).map AV.d).set q.f.dt[j].1.toNat .tt)[q.f.dt[j].1.toNat]? = some .tt := by
        rw [List.getElem?_set_self]; exact hin
      refine ⟨j + 1, by omega, by omega, len [.wkc 18 q.f.dt[j].1.toNat (.d (.bool true))] ⟨⟨⟨.tt, eat, wk_tt⟩, rfl⟩, trivial⟩ (le_of_cov ⟨rfl, rfl, rfl, rfl, rfl, rfl, rfl, rfl, trivial⟩ ⟨rfl, rfl, ?_, trivial⟩ ⟨rfl, rfl, rfl, rfl⟩)⟩
      rw [← ebx]
      rfl
    have ej : j = q.f.dt.length := by omega
    subst ej
    rw [List.take_length]
    refine aloop (ι := Nat) (fun j => [(2, .d (.lst (acts.map encPA))), (7, .ptr 7 0 0), (8, .ptr 8 0 0), (10, .d (.int .i64 k)), (18, .ptr 18 0 0), (21, .d (.int .i64 ((j : Int) + 1)))])
      (fun j => [(7, .box (PS.box ⟨q.f, q.d, 3 * ((k : Int) + 1)⟩) false), (8, .box ((mL P' W' n).map AV.d) false), (18, .box ((bL (wtB q.f.dt)).map AV.d) false)])
      (fun j => j ≤ 16) (fun j => 16 - j) 0 (Nat.zero_le _) (le0 (le_of_cov ⟨rfl, rfl, rfl, rfl, rfl, rfl, trivial⟩ ⟨rfl, rfl, rfl, trivial⟩ ⟨rfl, rfl, rfl, rfl⟩)) ?_
    intro j hj
    conv => whnf
    refine bcase_p (fun f4 => ?_) (fun f4 => ?_) <;> conv => whnf
    · have hw16 : j + 1 < 17 := by omega
      have hM := ML.of P' W' n
      repeat ((first | refine bF ?_ | refine bT ?_ | refine dK (by kernel_rfl) ?_ | refine cK rfl ?_ | refine cK (by first | decide | omega) ?_ | refine wK (by omega) (by omega) ?_); conv => whnf)
      rw [← Int.natCast_succ]
      have hget := rgetS_ok q.d ((j + 1 : Nat) : Int)
      have hdsk := fun g => iq.on.dsk (j + 1) (by omega) (by omega) g
      rw [iq.pj.get (by omega) (by omega)] at hget
      have hbw := bL_at (w := wtB q.f.dt) hw16
      by_cases hwt : wtB q.f.dt (j + 1) = true
      · refine callX_pure hget ?_
        conv => whnf
        repeat ((first | refine bF ?_ | refine bT ?_ | refine dK (by kernel_rfl) ?_ | refine cK rfl ?_ | refine cK (by first | decide | omega) ?_ | refine wK (by omega) (by omega) ?_); conv => whnf)
        refine idxK_nat (i := j + 1) (by omega) ?_
        conv => whnf
        try (refine condK_of rfl ?_)
        refine (part_one (l := bL (wtB q.f.dt)) (.bool (wtB q.f.dt (j + 1))) (by first | rfl | simp only [killC_d]) (by rw [show 0 + (j + 1) * (T 4).size = j + 1 by show 0 + _ * 1 = _; omega]; exact hbw) ?_)
        conv => whnf
        repeat ((first | refine bF ?_ | refine bT ?_ | refine dK (by kernel_rfl) ?_ | refine cK rfl ?_ | refine cK (by first | decide | omega) ?_ | refine wK (by omega) (by omega) ?_); conv => whnf)
        refine bcase_f (by rw [hwt]; rfl) ?_
        conv => whnf
        repeat ((first | refine bF ?_ | refine bT ?_ | refine dK (by kernel_rfl) ?_ | refine cK rfl ?_ | refine cK (by first | decide | omega) ?_ | refine wK (by omega) (by omega) ?_); conv => whnf)
        exact ⟨j + 1, by omega, by omega, (le0 (le_of_cov ⟨rfl, rfl, rfl, rfl, rfl, rfl, trivial⟩ ⟨rfl, rfl, rfl, trivial⟩ ⟨rfl, rfl, rfl, rfl⟩))⟩
      have hwf : wtB q.f.dt (j + 1) = false := by simpa using hwt
      have hg := hdsk (wtB_no hwf)
      have hmp := hM.p (j := 0 + 0 + (j + 1) * (T 42).size) (q := j + 1) (by simp only [szs]; omega) hw16
      have hml : (mL P' W' n).length = 69 := rfl
      by_cases hz : (P' (j + 1)).1 = 0
      · rw [hg, if_pos hz] at hget
        have hzz := iq.on.zz (q := j + 1) (by omega) (by omega) hz
        rw [hzz] at hmp
        refine callX_pure hget ?_
        conv => whnf
        repeat ((first | refine bF ?_ | refine bT ?_ | refine dK (by kernel_rfl) ?_ | refine cK rfl ?_ | refine cK (by first | decide | omega) ?_ | refine wK (by omega) (by omega) ?_); conv => whnf)
        refine idxK_nat (i := j + 1) (by omega) ?_
        conv => whnf
        try (refine condK_of rfl ?_)
        refine (part_one (l := bL (wtB q.f.dt)) (.bool (wtB q.f.dt (j + 1))) (by first | rfl | simp only [killC_d]) (by rw [show 0 + (j + 1) * (T 4).size = j + 1 by show 0 + _ * 1 = _; omega]; exact hbw) ?_)
        conv => whnf
        repeat ((first | refine bF ?_ | refine bT ?_ | refine dK (by kernel_rfl) ?_ | refine cK rfl ?_ | refine cK (by first | decide | omega) ?_ | refine wK (by omega) (by omega) ?_); conv => whnf)
        refine bcase_t (by rw [hwf]; rfl) ?_
        conv => whnf
        repeat ((first | refine bF ?_ | refine bT ?_ | refine dK (by kernel_rfl) ?_ | refine cK rfl ?_ | refine cK (by first | decide | omega) ?_ | refine wK (by omega) (by omega) ?_); conv => whnf)
        refine idxK_nat (i := j + 1) (by omega) ?_
        conv => whnf
        try (refine condK_of rfl ?_)
        refine (part_agg (l := mL P' W' n) (l2 := encP zP) (by first | rfl | simp only [killC_d]) (by first | omega | (simp only [szs]; omega)) (hmp) ?_)
        conv => whnf
        repeat ((first | refine bF ?_ | refine bT ?_ | refine dK (by kernel_rfl) ?_ | refine cK rfl ?_ | refine cK (by first | decide | omega) ?_ | refine wK (by omega) (by omega) ?_); conv => whnf)
        exact ⟨j + 1, by omega, by omega, (le0 (le_of_cov ⟨rfl, rfl, rfl, rfl, rfl, rfl, trivial⟩ ⟨rfl, rfl, rfl, trivial⟩ ⟨rfl, rfl, rfl, rfl⟩))⟩
      · rw [hg, if_neg hz] at hget
        refine callX_pure hget ?_
        conv => whnf
        repeat ((first | refine bF ?_ | refine bT ?_ | refine dK (by kernel_rfl) ?_ | refine cK rfl ?_ | refine cK (by first | decide | omega) ?_ | refine wK (by omega) (by omega) ?_); conv => whnf)
        refine idxK_nat (i := j + 1) (by omega) ?_
        conv => whnf
        try (refine condK_of rfl ?_)
        refine (part_one (l := bL (wtB q.f.dt)) (.bool (wtB q.f.dt (j + 1))) (by first | rfl | simp only [killC_d]) (by rw [show 0 + (j + 1) * (T 4).size = j + 1 by show 0 + _ * 1 = _; omega]; exact hbw) ?_)
        conv => whnf
        repeat ((first | refine bF ?_ | refine bT ?_ | refine dK (by kernel_rfl) ?_ | refine cK rfl ?_ | refine cK (by first | decide | omega) ?_ | refine wK (by omega) (by omega) ?_); conv => whnf)
        refine bcase_t (by rw [hwf]; rfl) ?_
        conv => whnf
        repeat ((first | refine bF ?_ | refine bT ?_ | refine dK (by kernel_rfl) ?_ | refine cK rfl ?_ | refine cK (by first | decide | omega) ?_ | refine wK (by omega) (by omega) ?_); conv => whnf)
        refine idxK_nat (i := j + 1) (by omega) ?_
        conv => whnf
        try (refine condK_of rfl ?_)
        refine (part_agg (l := mL P' W' n) (l2 := encP (P' (j + 1))) (by first | rfl | simp only [killC_d]) (by first | omega | (simp only [szs]; omega)) (hmp) ?_)
        conv => whnf
        repeat ((first | refine bF ?_ | refine bT ?_ | refine dK (by kernel_rfl) ?_ | refine cK rfl ?_ | refine cK (by first | decide | omega) ?_ | refine wK (by omega) (by omega) ?_); conv => whnf)
        refine bcase_f (by simp) ?_
        conv => whnf
        repeat ((first | refine bF ?_ | refine bT ?_ | refine dK (by kernel_rfl) ?_ | refine cK rfl ?_ | refine cK (by first | decide | omega) ?_ | refine wK (by omega) (by omega) ?_); conv => whnf)
        exact ⟨j + 1, by omega, by omega, (le0 (le_of_cov ⟨rfl, rfl, rfl, rfl, rfl, rfl, trivial⟩ ⟨rfl, rfl, rfl, trivial⟩ ⟨rfl, rfl, rfl, rfl⟩))⟩
    have ej : j = 16 := by omega
    subst ej
    repeat ((first | refine bF ?_ | refine bT ?_ | refine dK (by kernel_rfl) ?_ | refine cK rfl ?_ | refine cK (by first | decide | omega) ?_ | refine wK (by omega) (by omega) ?_); conv => whnf)
    exact ⟨(k + 1, ⟨q.f, q.d, 3 * ((k : Int) + 1)⟩, P', W'), ⟨by simp only []; omega, by simp only []; omega, by simp only [Int.natCast_succ]; rw [← Int.add_assoc]; exact iq2, by simp only []; omega, qlen⟩, by simp only []; omega, (le0 (le_of_cov ⟨rfl, rfl, rfl, rfl, trivial⟩ ⟨rfl, rfl, trivial⟩ ⟨rfl, rfl, rfl, rfl⟩))⟩
  have hl := none he
  subst hl
  refine bcase_p (fun g1 => ?_) (fun g1 => ?_) <;> conv => whnf
  · repeat ((first | refine bF ?_ | refine bT ?_ | refine dK (by kernel_rfl) ?_ | refine cK rfl ?_ | refine cK (by first | decide | omega) ?_ | refine wK (by omega) (by omega) ?_); conv => whnf)
    refine idxK_nat (by omega) ?_
    conv => whnf
    refine getRow_of (x := encPA acts[k]) (by simp [hk2]) ?_
    conv => whnf
    repeat ((first | refine bF ?_ | refine bT ?_ | refine dK (by kernel_rfl) ?_ | refine cK rfl ?_ | refine cK (by first | decide | omega) ?_ | refine wK (by omega) (by omega) ?_); conv => whnf)
    refine idxK_nat (by omega) ?_
    conv => whnf
    refine getRow_of (x := encPA acts[k]) (by simp [hk2]) ?_
    conv => whnf
    repeat ((first | refine bF ?_ | refine bT ?_ | refine dK (by kernel_rfl) ?_ | refine cK rfl ?_ | refine cK (by first | decide | omega) ?_ | refine wK (by omega) (by omega) ?_); conv => whnf)
    refine idxK_nat (by omega) ?_
    conv => whnf
    refine getRow_of (x := encPA acts[k]) (by simp [hk2]) ?_
    conv => whnf
    repeat ((first | refine bF ?_ | refine bT ?_ | refine dK (by kernel_rfl) ?_ | refine cK rfl ?_ | refine cK (by first | decide | omega) ?_ | refine wK (by omega) (by omega) ?_); conv => whnf)
    refine callX_pure c19 ?_
    conv => whnf
    repeat ((first | refine bF ?_ | refine bT ?_ | refine dK (by kernel_rfl) ?_ | refine cK rfl ?_ | refine cK (by first | decide | omega) ?_ | refine wK (by omega) (by omega) ?_); conv => whnf)
    refine callX_pure (tick_ok q 3 hq0 hq1) ?_
    conv => whnf
    repeat ((first | refine bF ?_ | refine bT ?_ | refine dK (by kernel_rfl) ?_ | refine cK rfl ?_ | refine cK (by first | decide | omega) ?_ | refine wK (by omega) (by omega) ?_); conv => whnf)
    rw [tickP_3 (show 3 * ((k : Int) + 1) ≤ 2147483647 by omega) (by omega)]
    repeat ((first | refine bF ?_ | refine bT ?_ | refine dK (by kernel_rfl) ?_ | refine cK rfl ?_ | refine cK (by first | decide | omega) ?_ | refine wK (by omega) (by omega) ?_); conv => whnf)
    refine aloop (ι := Nat) (fun j => [(2, .d (.lst (acts.map encPA))), (7, .ptr 7 0 0), (8, .ptr 8 0 0), (10, .d (.int .i64 k)), (18, .ptr 18 0 0), (123, .d (encIs q.f.dt)), (124, .d (.int .i64 (q.f.dt.map encI).length)), (125, .d (.int .i64 j))])
      (fun j => [(7, .box (PS.box ⟨q.f, q.d, 3 * ((k : Int) + 1)⟩) false), (8, .box ((mL P' W' n).map AV.d) false), (18, .box ((bL (wtB (q.f.dt.take j))).map AV.d) false)])
      (fun j => j ≤ q.f.dt.length) (fun j => q.f.dt.length - j) 0 (Nat.zero_le _) (le0 (le_of_cov ⟨rfl, rfl, rfl, rfl, rfl, rfl, rfl, rfl, trivial⟩ ⟨rfl, rfl, rfl, trivial⟩ ⟨rfl, rfl, rfl, rfl⟩)) ?_
    intro j hj
    have hdt := iq.pj.fm.dl
    have hdl : (q.f.dt.map encI).length = q.f.dt.length := List.length_map ..
    conv => whnf
    refine bcase_p (fun f1 => ?_) (fun f1 => ?_) <;> conv => whnf
    · have hj2 : j < q.f.dt.length := by omega
      obtain ⟨x1, x16, _⟩ := right_id iq.pj.fm.dt (List.getElem_mem hj2)
      have hin : q.f.dt[j].1.toNat < 17 := by omega
      refine idxK_nat (by omega) ?_
      conv => whnf
      refine getRow_of (x := encI q.f.dt[j]) (by simp [hj2]) ?_
      conv => whnf
      repeat ((first | refine bF ?_ | refine bT ?_ | refine dK (by kernel_rfl) ?_ | refine cK rfl ?_ | refine cK (by first | decide | omega) ?_ | refine wK (by omega) (by omega) ?_); conv => whnf)
      refine bcase_p (fun f2 => ?_) (fun f2 => ?_) <;> conv => whnf
      rotate_left
      · exact absurd x1 f2
      repeat ((first | refine bF ?_ | refine bT ?_ | refine dK (by kernel_rfl) ?_ | refine cK rfl ?_ | refine cK (by first | decide | omega) ?_ | refine wK (by omega) (by omega) ?_); conv => whnf)
      refine bcase_p (fun f3 => ?_) (fun f3 => ?_) <;> conv => whnf
      rotate_left
      · exact absurd x16 f3
      repeat ((first | refine bF ?_ | refine bT ?_ | refine dK (by kernel_rfl) ?_ | refine cK rfl ?_ | refine cK (by first | decide | omega) ?_ | refine wK (by omega) (by omega) ?_); conv => whnf)
      refine idxK_int (by omega) (by omega) ?_
      conv => whnf
      refine condK_of rfl (store_tt (c := (bL (wtB (q.f.dt.take j))).map AV.d) (c' := ((bL (wtB (q.f.dt.take j))).map AV.d).set q.f.dt[j].1.toNat .tt) (by show 0 + _ * 1 < 17; omega) (by rw [show 0 + q.f.dt[j].1.toNat * (T 4).size = q.f.dt[j].1.toNat by show 0 + _ * 1 = _; omega]) ?_)
      conv => whnf
      repeat ((first | refine bF ?_ | refine bT ?_ | refine dK (by kernel_rfl) ?_ | refine cK rfl ?_ | refine cK (by first | decide | omega) ?_ | refine wK (by omega) (by omega) ?_); conv => whnf)
      have ebx : (((bL (wtB (q.f.dt.take j))).map AV.d).set q.f.dt[j].1.toNat .tt).set q.f.dt[j].1.toNat (.d (.bool true)) = (bL (wtB (q.f.dt.take (j + 1)))).map AV.d := by
        rw [List.set_set, take_snoc hj2, wtB_snoc (by omega), ← bL_set hin, List.map_set]
      have eat : (((bL (wtB (q.f.dt.take j))).map AV.d).set q.f.dt[j].1.toNat .tt)[q.f.dt[j].1.toNat]? = some .tt := by
        rw [List.getElem?_set_self]; exact hin
      refine ⟨j + 1, by omega, by omega, len [.wkc 18 q.f.dt[j].1.toNat (.d (.bool true))] ⟨⟨⟨.tt, eat, wk_tt⟩, rfl⟩, trivial⟩ (le_of_cov ⟨rfl, rfl, rfl, rfl, rfl, rfl, rfl, rfl, trivial⟩ ⟨rfl, rfl, ?_, trivial⟩ ⟨rfl, rfl, rfl, rfl⟩)⟩
      rw [← ebx]
      rfl
    have ej : j = q.f.dt.length := by omega
    subst ej
    rw [List.take_length]
    refine aloop (ι := Nat) (fun j => [(2, .d (.lst (acts.map encPA))), (7, .ptr 7 0 0), (8, .ptr 8 0 0), (10, .d (.int .i64 k)), (18, .ptr 18 0 0), (21, .d (.int .i64 ((j : Int) + 1)))])
      (fun j => [(7, .box (PS.box ⟨q.f, q.d, 3 * ((k : Int) + 1)⟩) false), (8, .box ((mL P' W' n).map AV.d) false), (18, .box ((bL (wtB q.f.dt)).map AV.d) false)])
      (fun j => j ≤ 16) (fun j => 16 - j) 0 (Nat.zero_le _) (le0 (le_of_cov ⟨rfl, rfl, rfl, rfl, rfl, rfl, trivial⟩ ⟨rfl, rfl, rfl, trivial⟩ ⟨rfl, rfl, rfl, rfl⟩)) ?_
    intro j hj
    conv => whnf
    refine bcase_p (fun f4 => ?_) (fun f4 => ?_) <;> conv => whnf
    · have hw16 : j + 1 < 17 := by omega
      have hM := ML.of P' W' n
      repeat ((first | refine bF ?_ | refine bT ?_ | refine dK (by kernel_rfl) ?_ | refine cK rfl ?_ | refine cK (by first | decide | omega) ?_ | refine wK (by omega) (by omega) ?_); conv => whnf)
      rw [← Int.natCast_succ]
      have hget := rgetS_ok q.d ((j + 1 : Nat) : Int)
      have hdsk := fun g => iq.on.dsk (j + 1) (by omega) (by omega) g
      rw [iq.pj.get (by omega) (by omega)] at hget
      have hbw := bL_at (w := wtB q.f.dt) hw16
      by_cases hwt : wtB q.f.dt (j + 1) = true
      · refine callX_pure hget ?_
        conv => whnf
        repeat ((first | refine bF ?_ | refine bT ?_ | refine dK (by kernel_rfl) ?_ | refine cK rfl ?_ | refine cK (by first | decide | omega) ?_ | refine wK (by omega) (by omega) ?_); conv => whnf)
        refine idxK_nat (i := j + 1) (by omega) ?_
        conv => whnf
        try (refine condK_of rfl ?_)
        refine (part_one (l := bL (wtB q.f.dt)) (.bool (wtB q.f.dt (j + 1))) (by first | rfl | simp only [killC_d]) (by rw [show 0 + (j + 1) * (T 4).size = j + 1 by show 0 + _ * 1 = _; omega]; exact hbw) ?_)
        conv => whnf
        repeat ((first | refine bF ?_ | refine bT ?_ | refine dK (by kernel_rfl) ?_ | refine cK rfl ?_ | refine cK (by first | decide | omega) ?_ | refine wK (by omega) (by omega) ?_); conv => whnf)
        refine bcase_f (by rw [hwt]; rfl) ?_
        conv => whnf
        repeat ((first | refine bF ?_ | refine bT ?_ | refine dK (by kernel_rfl) ?_ | refine cK rfl ?_ | refine cK (by first | decide | omega) ?_ | refine wK (by omega) (by omega) ?_); conv => whnf)
        exact ⟨j + 1, by omega, by omega, (le0 (le_of_cov ⟨rfl, rfl, rfl, rfl, rfl, rfl, trivial⟩ ⟨rfl, rfl, rfl, trivial⟩ ⟨rfl, rfl, rfl, rfl⟩))⟩
      have hwf : wtB q.f.dt (j + 1) = false := by simpa using hwt
      have hg := hdsk (wtB_no hwf)
      have hmp := hM.p (j := 0 + 0 + (j + 1) * (T 42).size) (q := j + 1) (by simp only [szs]; omega) hw16
      have hml : (mL P' W' n).length = 69 := rfl
      by_cases hz : (P' (j + 1)).1 = 0
      · rw [hg, if_pos hz] at hget
        have hzz := iq.on.zz (q := j + 1) (by omega) (by omega) hz
        rw [hzz] at hmp
        refine callX_pure hget ?_
        conv => whnf
        repeat ((first | refine bF ?_ | refine bT ?_ | refine dK (by kernel_rfl) ?_ | refine cK rfl ?_ | refine cK (by first | decide | omega) ?_ | refine wK (by omega) (by omega) ?_); conv => whnf)
        refine idxK_nat (i := j + 1) (by omega) ?_
        conv => whnf
        try (refine condK_of rfl ?_)
        refine (part_one (l := bL (wtB q.f.dt)) (.bool (wtB q.f.dt (j + 1))) (by first | rfl | simp only [killC_d]) (by rw [show 0 + (j + 1) * (T 4).size = j + 1 by show 0 + _ * 1 = _; omega]; exact hbw) ?_)
        conv => whnf
        repeat ((first | refine bF ?_ | refine bT ?_ | refine dK (by kernel_rfl) ?_ | refine cK rfl ?_ | refine cK (by first | decide | omega) ?_ | refine wK (by omega) (by omega) ?_); conv => whnf)
        refine bcase_t (by rw [hwf]; rfl) ?_
        conv => whnf
        repeat ((first | refine bF ?_ | refine bT ?_ | refine dK (by kernel_rfl) ?_ | refine cK rfl ?_ | refine cK (by first | decide | omega) ?_ | refine wK (by omega) (by omega) ?_); conv => whnf)
        refine idxK_nat (i := j + 1) (by omega) ?_
        conv => whnf
        try (refine condK_of rfl ?_)
        refine (part_agg (l := mL P' W' n) (l2 := encP zP) (by first | rfl | simp only [killC_d]) (by first | omega | (simp only [szs]; omega)) (hmp) ?_)
        conv => whnf
        repeat ((first | refine bF ?_ | refine bT ?_ | refine dK (by kernel_rfl) ?_ | refine cK rfl ?_ | refine cK (by first | decide | omega) ?_ | refine wK (by omega) (by omega) ?_); conv => whnf)
        exact ⟨j + 1, by omega, by omega, (le0 (le_of_cov ⟨rfl, rfl, rfl, rfl, rfl, rfl, trivial⟩ ⟨rfl, rfl, rfl, trivial⟩ ⟨rfl, rfl, rfl, rfl⟩))⟩
      · rw [hg, if_neg hz] at hget
        refine callX_pure hget ?_
        conv => whnf
        repeat ((first | refine bF ?_ | refine bT ?_ | refine dK (by kernel_rfl) ?_ | refine cK rfl ?_ | refine cK (by first | decide | omega) ?_ | refine wK (by omega) (by omega) ?_); conv => whnf)
        refine idxK_nat (i := j + 1) (by omega) ?_
        conv => whnf
        try (refine condK_of rfl ?_)
        refine (part_one (l := bL (wtB q.f.dt)) (.bool (wtB q.f.dt (j + 1))) (by first | rfl | simp only [killC_d]) (by rw [show 0 + (j + 1) * (T 4).size = j + 1 by show 0 + _ * 1 = _; omega]; exact hbw) ?_)
        conv => whnf
        repeat ((first | refine bF ?_ | refine bT ?_ | refine dK (by kernel_rfl) ?_ | refine cK rfl ?_ | refine cK (by first | decide | omega) ?_ | refine wK (by omega) (by omega) ?_); conv => whnf)
        refine bcase_t (by rw [hwf]; rfl) ?_
        conv => whnf
        repeat ((first | refine bF ?_ | refine bT ?_ | refine dK (by kernel_rfl) ?_ | refine cK rfl ?_ | refine cK (by first | decide | omega) ?_ | refine wK (by omega) (by omega) ?_); conv => whnf)
        refine idxK_nat (i := j + 1) (by omega) ?_
        conv => whnf
        try (refine condK_of rfl ?_)
        refine (part_agg (l := mL P' W' n) (l2 := encP (P' (j + 1))) (by first | rfl | simp only [killC_d]) (by first | omega | (simp only [szs]; omega)) (hmp) ?_)
        conv => whnf
        repeat ((first | refine bF ?_ | refine bT ?_ | refine dK (by kernel_rfl) ?_ | refine cK rfl ?_ | refine cK (by first | decide | omega) ?_ | refine wK (by omega) (by omega) ?_); conv => whnf)
        refine bcase_f (by simp) ?_
        conv => whnf
        repeat ((first | refine bF ?_ | refine bT ?_ | refine dK (by kernel_rfl) ?_ | refine cK rfl ?_ | refine cK (by first | decide | omega) ?_ | refine wK (by omega) (by omega) ?_); conv => whnf)
        exact ⟨j + 1, by omega, by omega, (le0 (le_of_cov ⟨rfl, rfl, rfl, rfl, rfl, rfl, trivial⟩ ⟨rfl, rfl, rfl, trivial⟩ ⟨rfl, rfl, rfl, rfl⟩))⟩
    have ej : j = 16 := by omega
    subst ej
    repeat ((first | refine bF ?_ | refine bT ?_ | refine dK (by kernel_rfl) ?_ | refine cK rfl ?_ | refine cK (by first | decide | omega) ?_ | refine wK (by omega) (by omega) ?_); conv => whnf)
    exact ⟨(k + 1, ⟨q.f, q.d, 3 * ((k : Int) + 1)⟩, P', W'), ⟨by simp only []; omega, by simp only []; omega, by simp only [Int.natCast_succ]; rw [← Int.add_assoc]; exact iq2, by simp only []; omega, qlen⟩, by simp only []; omega, (le0 (le_of_cov ⟨rfl, rfl, rfl, rfl, trivial⟩ ⟨rfl, rfl, trivial⟩ ⟨rfl, rfl, rfl, rfl⟩))⟩
  refine bcase_p (fun g2 => ?_) (fun g2 => ?_) <;> conv => whnf
  · repeat ((first | refine bF ?_ | refine bT ?_ | refine dK (by kernel_rfl) ?_ | refine cK rfl ?_ | refine cK (by first | decide | omega) ?_ | refine wK (by omega) (by omega) ?_); conv => whnf)
    refine idxK_nat (by omega) ?_
    conv => whnf
    refine getRow_of (x := encPA acts[k]) (by simp [hk2]) ?_
    conv => whnf
    repeat ((first | refine bF ?_ | refine bT ?_ | refine dK (by kernel_rfl) ?_ | refine cK rfl ?_ | refine cK (by first | decide | omega) ?_ | refine wK (by omega) (by omega) ?_); conv => whnf)
    refine idxK_nat (by omega) ?_
    conv => whnf
    refine getRow_of (x := encPA acts[k]) (by simp [hk2]) ?_
    conv => whnf
    repeat ((first | refine bF ?_ | refine bT ?_ | refine dK (by kernel_rfl) ?_ | refine cK rfl ?_ | refine cK (by first | decide | omega) ?_ | refine wK (by omega) (by omega) ?_); conv => whnf)
    refine idxK_nat (by omega) ?_
    conv => whnf
    refine getRow_of (x := encPA acts[k]) (by simp [hk2]) ?_
    conv => whnf
    repeat ((first | refine bF ?_ | refine bT ?_ | refine dK (by kernel_rfl) ?_ | refine cK rfl ?_ | refine cK (by first | decide | omega) ?_ | refine wK (by omega) (by omega) ?_); conv => whnf)
    refine callX_pure c19 ?_
    conv => whnf
    repeat ((first | refine bF ?_ | refine bT ?_ | refine dK (by kernel_rfl) ?_ | refine cK rfl ?_ | refine cK (by first | decide | omega) ?_ | refine wK (by omega) (by omega) ?_); conv => whnf)
    refine callX_pure (tick_ok q 3 hq0 hq1) ?_
    conv => whnf
    repeat ((first | refine bF ?_ | refine bT ?_ | refine dK (by kernel_rfl) ?_ | refine cK rfl ?_ | refine cK (by first | decide | omega) ?_ | refine wK (by omega) (by omega) ?_); conv => whnf)
    rw [tickP_3 (show 3 * ((k : Int) + 1) ≤ 2147483647 by omega) (by omega)]
    repeat ((first | refine bF ?_ | refine bT ?_ | refine dK (by kernel_rfl) ?_ | refine cK rfl ?_ | refine cK (by first | decide | omega) ?_ | refine wK (by omega) (by omega) ?_); conv => whnf)
    refine aloop (ι := Nat) (fun j => [(2, .d (.lst (acts.map encPA))), (7, .ptr 7 0 0), (8, .ptr 8 0 0), (10, .d (.int .i64 k)), (18, .ptr 18 0 0), (123, .d (encIs q.f.dt)), (124, .d (.int .i64 (q.f.dt.map encI).length)), (125, .d (.int .i64 j))])
      (fun j => [(7, .box (PS.box ⟨q.f, q.d, 3 * ((k : Int) + 1)⟩) false), (8, .box ((mL P' W' n).map AV.d) false), (18, .box ((bL (wtB (q.f.dt.take j))).map AV.d) false)])
      (fun j => j ≤ q.f.dt.length) (fun j => q.f.dt.length - j) 0 (Nat.zero_le _) (le0 (le_of_cov ⟨rfl, rfl, rfl, rfl, rfl, rfl, rfl, rfl, trivial⟩ ⟨rfl, rfl, rfl, trivial⟩ ⟨rfl, rfl, rfl, rfl⟩)) ?_
    intro j hj
    have hdt := iq.pj.fm.dl
    have hdl : (q.f.dt.map encI).length = q.f.dt.length := List.length_map ..
    conv => whnf
    refine bcase_p (fun f1 => ?_) (fun f1 => ?_) <;> conv => whnf
    · have hj2 : j < q.f.dt.length := by omega
      obtain ⟨x1, x16, _⟩ := right_id iq.pj.fm.dt (List.getElem_mem hj2)
      have hin : q.f.dt[j].1.toNat < 17 := by omega
      refine idxK_nat (by omega) ?_
      conv => whnf
      refine getRow_of (x := encI q.f.dt[j]) (by simp [hj2]) ?_
      conv => whnf
      repeat ((first | refine bF ?_ | refine bT ?_ | refine dK (by kernel_rfl) ?_ | refine cK rfl ?_ | refine cK (by first | decide | omega) ?_ | refine wK (by omega) (by omega) ?_); conv => whnf)
      refine bcase_p (fun f2 => ?_) (fun f2 => ?_) <;> conv => whnf
      rotate_left
      · exact absurd x1 f2
      repeat ((first | refine bF ?_ | refine bT ?_ | refine dK (by kernel_rfl) ?_ | refine cK rfl ?_ | refine cK (by first | decide | omega) ?_ | refine wK (by omega) (by omega) ?_); conv => whnf)
      refine bcase_p (fun f3 => ?_) (fun f3 => ?_) <;> conv => whnf
      rotate_left
      · exact absurd x16 f3
      repeat ((first | refine bF ?_ | refine bT ?_ | refine dK (by kernel_rfl) ?_ | refine cK rfl ?_ | refine cK (by first | decide | omega) ?_ | refine wK (by omega) (by omega) ?_); conv => whnf)
      refine idxK_int (by omega) (by omega) ?_
      conv => whnf
      refine condK_of rfl (store_tt (c := (bL (wtB (q.f.dt.take j))).map AV.d) (c' := ((bL (wtB (q.f.dt.take j))).map AV.d).set q.f.dt[j].1.toNat .tt) (by show 0 + _ * 1 < 17; omega) (by rw [show 0 + q.f.dt[j].1.toNat * (T 4).size = q.f.dt[j].1.toNat by show 0 + _ * 1 = _; omega]) ?_)
      conv => whnf
      repeat ((first | refine bF ?_ | refine bT ?_ | refine dK (by kernel_rfl) ?_ | refine cK rfl ?_ | refine cK (by first | decide | omega) ?_ | refine wK (by omega) (by omega) ?_); conv => whnf)
      have ebx : (((bL (wtB (q.f.dt.take j))).map AV.d).set q.f.dt[j].1.toNat .tt).set q.f.dt[j].1.toNat (.d (.bool true)) = (bL (wtB (q.f.dt.take (j + 1)))).map AV.d := by
        rw [List.set_set, take_snoc hj2, wtB_snoc (by omega), ← bL_set hin, List.map_set]
      have eat : (((bL (wtB (q.f.dt.take j))).map AV.d).set q.f.dt[j].1.toNat .tt)[q.f.dt[j].1.toNat]? = some .tt := by
        rw [List.getElem?_set_self]; exact hin
      refine ⟨j + 1, by omega, by omega, len [.wkc 18 q.f.dt[j].1.toNat (.d (.bool true))] ⟨⟨⟨.tt, eat, wk_tt⟩, rfl⟩, trivial⟩ (le_of_cov ⟨rfl, rfl, rfl, rfl, rfl, rfl, rfl, rfl, trivial⟩ ⟨rfl, rfl, ?_, trivial⟩ ⟨rfl, rfl, rfl, rfl⟩)⟩
      rw [← ebx]
      rfl
    have ej : j = q.f.dt.length := by omega
    subst ej
    rw [List.take_length]
    refine aloop (ι := Nat) (fun j => [(2, .d (.lst (acts.map encPA))), (7, .ptr 7 0 0), (8, .ptr 8 0 0), (10, .d (.int .i64 k)), (18, .ptr 18 0 0), (21, .d (.int .i64 ((j : Int) + 1)))])
      (fun j => [(7, .box (PS.box ⟨q.f, q.d, 3 * ((k : Int) + 1)⟩) false), (8, .box ((mL P' W' n).map AV.d) false), (18, .box ((bL (wtB q.f.dt)).map AV.d) false)])
      (fun j => j ≤ 16) (fun j => 16 - j) 0 (Nat.zero_le _) (le0 (le_of_cov ⟨rfl, rfl, rfl, rfl, rfl, rfl, trivial⟩ ⟨rfl, rfl, rfl, trivial⟩ ⟨rfl, rfl, rfl, rfl⟩)) ?_
    intro j hj
    conv => whnf
    refine bcase_p (fun f4 => ?_) (fun f4 => ?_) <;> conv => whnf
    · have hw16 : j + 1 < 17 := by omega
      have hM := ML.of P' W' n
      repeat ((first | refine bF ?_ | refine bT ?_ | refine dK (by kernel_rfl) ?_ | refine cK rfl ?_ | refine cK (by first | decide | omega) ?_ | refine wK (by omega) (by omega) ?_); conv => whnf)
      rw [← Int.natCast_succ]
      have hget := rgetS_ok q.d ((j + 1 : Nat) : Int)
      have hdsk := fun g => iq.on.dsk (j + 1) (by omega) (by omega) g
      rw [iq.pj.get (by omega) (by omega)] at hget
      have hbw := bL_at (w := wtB q.f.dt) hw16
      by_cases hwt : wtB q.f.dt (j + 1) = true
      · refine callX_pure hget ?_
        conv => whnf
        repeat ((first | refine bF ?_ | refine bT ?_ | refine dK (by kernel_rfl) ?_ | refine cK rfl ?_ | refine cK (by first | decide | omega) ?_ | refine wK (by omega) (by omega) ?_); conv => whnf)
        refine idxK_nat (i := j + 1) (by omega) ?_
        conv => whnf
        try (refine condK_of rfl ?_)
        refine (part_one (l := bL (wtB q.f.dt)) (.bool (wtB q.f.dt (j + 1))) (by first | rfl | simp only [killC_d]) (by rw [show 0 + (j + 1) * (T 4).size = j + 1 by show 0 + _ * 1 = _; omega]; exact hbw) ?_)
        conv => whnf
        repeat ((first | refine bF ?_ | refine bT ?_ | refine dK (by kernel_rfl) ?_ | refine cK rfl ?_ | refine cK (by first | decide | omega) ?_ | refine wK (by omega) (by omega) ?_); conv => whnf)
        refine bcase_f (by rw [hwt]; rfl) ?_
        conv => whnf
        repeat ((first | refine bF ?_ | refine bT ?_ | refine dK (by kernel_rfl) ?_ | refine cK rfl ?_ | refine cK (by first | decide | omega) ?_ | refine wK (by omega) (by omega) ?_); conv => whnf)
        exact ⟨j + 1, by omega, by omega, (le0 (le_of_cov ⟨rfl, rfl, rfl, rfl, rfl, rfl, trivial⟩ ⟨rfl, rfl, rfl, trivial⟩ ⟨rfl, rfl, rfl, rfl⟩))⟩
      have hwf : wtB q.f.dt (j + 1) = false := by simpa using hwt
      have hg := hdsk (wtB_no hwf)
      have hmp := hM.p (j := 0 + 0 + (j + 1) * (T 42).size) (q := j + 1) (by simp only [szs]; omega) hw16
      have hml : (mL P' W' n).length = 69 := rfl
      by_cases hz : (P' (j + 1)).1 = 0
      · rw [hg, if_pos hz] at hget
        have hzz := iq.on.zz (q := j + 1) (by omega) (by omega) hz
        rw [hzz] at hmp
        refine callX_pure hget ?_
        conv => whnf
        repeat ((first | refine bF ?_ | refine bT ?_ | refine dK (by kernel_rfl) ?_ | refine cK rfl ?_ | refine cK (by first | decide | omega) ?_ | refine wK (by omega) (by omega) ?_); conv => whnf)
        refine idxK_nat (i := j + 1) (by omega) ?_
        conv => whnf
        try (refine condK_of rfl ?_)
        refine (part_one (l := bL (wtB q.f.dt)) (.bool (wtB q.f.dt (j + 1))) (by first | rfl | simp only [killC_d]) (by rw [show 0 + (j + 1) * (T 4).size = j + 1 by show 0 + _ * 1 = _; omega]; exact hbw) ?_)
        conv => whnf
        repeat ((first | refine bF ?_ | refine bT ?_ | refine dK (by kernel_rfl) ?_ | refine cK rfl ?_ | refine cK (by first | decide | omega) ?_ | refine wK (by omega) (by omega) ?_); conv => whnf)
        refine bcase_t (by rw [hwf]; rfl) ?_
        conv => whnf
        repeat ((first | refine bF ?_ | refine bT ?_ | refine dK (by kernel_rfl) ?_ | refine cK rfl ?_ | refine cK (by first | decide | omega) ?_ | refine wK (by omega) (by omega) ?_); conv => whnf)
        refine idxK_nat (i := j + 1) (by omega) ?_
        conv => whnf
        try (refine condK_of rfl ?_)
        refine (part_agg (l := mL P' W' n) (l2 := encP zP) (by first | rfl | simp only [killC_d]) (by first | omega | (simp only [szs]; omega)) (hmp) ?_)
        conv => whnf
        repeat ((first | refine bF ?_ | refine bT ?_ | refine dK (by kernel_rfl) ?_ | refine cK rfl ?_ | refine cK (by first | decide | omega) ?_ | refine wK (by omega) (by omega) ?_); conv => whnf)
        exact ⟨j + 1, by omega, by omega, (le0 (le_of_cov ⟨rfl, rfl, rfl, rfl, rfl, rfl, trivial⟩ ⟨rfl, rfl, rfl, trivial⟩ ⟨rfl, rfl, rfl, rfl⟩))⟩
      · rw [hg, if_neg hz] at hget
        refine callX_pure hget ?_
        conv => whnf
        repeat ((first | refine bF ?_ | refine bT ?_ | refine dK (by kernel_rfl) ?_ | refine cK rfl ?_ | refine cK (by first | decide | omega) ?_ | refine wK (by omega) (by omega) ?_); conv => whnf)
        refine idxK_nat (i := j + 1) (by omega) ?_
        conv => whnf
        try (refine condK_of rfl ?_)
        refine (part_one (l := bL (wtB q.f.dt)) (.bool (wtB q.f.dt (j + 1))) (by first | rfl | simp only [killC_d]) (by rw [show 0 + (j + 1) * (T 4).size = j + 1 by show 0 + _ * 1 = _; omega]; exact hbw) ?_)
        conv => whnf
        repeat ((first | refine bF ?_ | refine bT ?_ | refine dK (by kernel_rfl) ?_ | refine cK rfl ?_ | refine cK (by first | decide | omega) ?_ | refine wK (by omega) (by omega) ?_); conv => whnf)
        refine bcase_t (by rw [hwf]; rfl) ?_
        conv => whnf
        repeat ((first | refine bF ?_ | refine bT ?_ | refine dK (by kernel_rfl) ?_ | refine cK rfl ?_ | refine cK (by first | decide | omega) ?_ | refine wK (by omega) (by omega) ?_); conv => whnf)
        refine idxK_nat (i := j + 1) (by omega) ?_
        conv => whnf
        try (refine condK_of rfl ?_)
        refine (part_agg (l := mL P' W' n) (l2 := encP (P' (j + 1))) (by first | rfl | simp only [killC_d]) (by first | omega | (simp only [szs]; omega)) (hmp) ?_)
        conv => whnf
        repeat ((first | refine bF ?_ | refine bT ?_ | refine dK (by kernel_rfl) ?_ | refine cK rfl ?_ | refine cK (by first | decide | omega) ?_ | refine wK (by omega) (by omega) ?_); conv => whnf)
        refine bcase_f (by simp) ?_
        conv => whnf
        repeat ((first | refine bF ?_ | refine bT ?_ | refine dK (by kernel_rfl) ?_ | refine cK rfl ?_ | refine cK (by first | decide | omega) ?_ | refine wK (by omega) (by omega) ?_); conv => whnf)
        exact ⟨j + 1, by omega, by omega, (le0 (le_of_cov ⟨rfl, rfl, rfl, rfl, rfl, rfl, trivial⟩ ⟨rfl, rfl, rfl, trivial⟩ ⟨rfl, rfl, rfl, rfl⟩))⟩
    have ej : j = 16 := by omega
    subst ej
    repeat ((first | refine bF ?_ | refine bT ?_ | refine dK (by kernel_rfl) ?_ | refine cK rfl ?_ | refine cK (by first | decide | omega) ?_ | refine wK (by omega) (by omega) ?_); conv => whnf)
    exact ⟨(k + 1, ⟨q.f, q.d, 3 * ((k : Int) + 1)⟩, P', W'), ⟨by simp only []; omega, by simp only []; omega, by simp only [Int.natCast_succ]; rw [← Int.add_assoc]; exact iq2, by simp only []; omega, qlen⟩, by simp only []; omega, (le0 (le_of_cov ⟨rfl, rfl, rfl, rfl, trivial⟩ ⟨rfl, rfl, trivial⟩ ⟨rfl, rfl, rfl, rfl⟩))⟩
  refine bcase_p (fun g3 => ?_) (fun g3 => ?_) <;> conv => whnf
  · repeat ((first | refine bF ?_ | refine bT ?_ | refine dK (by kernel_rfl) ?_ | refine cK rfl ?_ | refine cK (by first | decide | omega) ?_ | refine wK (by omega) (by omega) ?_); conv => whnf)
    refine idxK_nat (by omega) ?_
    conv => whnf
    refine getRow_of (x := encPA acts[k]) (by simp [hk2]) ?_
    conv => whnf
    repeat ((first | refine bF ?_ | refine bT ?_ | refine dK (by kernel_rfl) ?_ | refine cK rfl ?_ | refine cK (by first | decide | omega) ?_ | refine wK (by omega) (by omega) ?_); conv => whnf)
    refine idxK_nat (by omega) ?_
    conv => whnf
    refine getRow_of (x := encPA acts[k]) (by simp [hk2]) ?_
    conv => whnf
    repeat ((first | refine bF ?_ | refine bT ?_ | refine dK (by kernel_rfl) ?_ | refine cK rfl ?_ | refine cK (by first | decide | omega) ?_ | refine wK (by omega) (by omega) ?_); conv => whnf)
    refine idxK_nat (by omega) ?_
    conv => whnf
    refine getRow_of (x := encPA acts[k]) (by simp [hk2]) ?_
    conv => whnf
    repeat ((first | refine bF ?_ | refine bT ?_ | refine dK (by kernel_rfl) ?_ | refine cK rfl ?_ | refine cK (by first | decide | omega) ?_ | refine wK (by omega) (by omega) ?_); conv => whnf)
    refine callX_pure c19 ?_
    conv => whnf
    repeat ((first | refine bF ?_ | refine bT ?_ | refine dK (by kernel_rfl) ?_ | refine cK rfl ?_ | refine cK (by first | decide | omega) ?_ | refine wK (by omega) (by omega) ?_); conv => whnf)
    refine callX_pure (tick_ok q 3 hq0 hq1) ?_
    conv => whnf
    repeat ((first | refine bF ?_ | refine bT ?_ | refine dK (by kernel_rfl) ?_ | refine cK rfl ?_ | refine cK (by first | decide | omega) ?_ | refine wK (by omega) (by omega) ?_); conv => whnf)
    rw [tickP_3 (show 3 * ((k : Int) + 1) ≤ 2147483647 by omega) (by omega)]
    repeat ((first | refine bF ?_ | refine bT ?_ | refine dK (by kernel_rfl) ?_ | refine cK rfl ?_ | refine cK (by first | decide | omega) ?_ | refine wK (by omega) (by omega) ?_); conv => whnf)
    refine aloop (ι := Nat) (fun j => [(2, .d (.lst (acts.map encPA))), (7, .ptr 7 0 0), (8, .ptr 8 0 0), (10, .d (.int .i64 k)), (18, .ptr 18 0 0), (123, .d (encIs q.f.dt)), (124, .d (.int .i64 (q.f.dt.map encI).length)), (125, .d (.int .i64 j))])
      (fun j => [(7, .box (PS.box ⟨q.f, q.d, 3 * ((k : Int) + 1)⟩) false), (8, .box ((mL P' W' n).map AV.d) false), (18, .box ((bL (wtB (q.f.dt.take j))).map AV.d) false)])
      (fun j => j ≤ q.f.dt.length) (fun j => q.f.dt.length - j) 0 (Nat.zero_le _) (le0 (le_of_cov ⟨rfl, rfl, rfl, rfl, rfl, rfl, rfl, rfl, trivial⟩ ⟨rfl, rfl, rfl, trivial⟩ ⟨rfl, rfl, rfl, rfl⟩)) ?_
    intro j hj
    have hdt := iq.pj.fm.dl
    have hdl : (q.f.dt.map encI).length = q.f.dt.length := List.length_map ..
    conv => whnf
    refine bcase_p (fun f1 => ?_) (fun f1 => ?_) <;> conv => whnf
    · have hj2 : j < q.f.dt.length := by omega
      obtain ⟨x1, x16, _⟩ := right_id iq.pj.fm.dt (List.getElem_mem hj2)
      have hin : q.f.dt[j].1.toNat < 17 := by omega
      refine idxK_nat (by omega) ?_
      conv => whnf
      refine getRow_of (x := encI q.f.dt[j]) (by simp [hj2]) ?_
      conv => whnf
      repeat ((first | refine bF ?_ | refine bT ?_ | refine dK (by kernel_rfl) ?_ | refine cK rfl ?_ | refine cK (by first | decide | omega) ?_ | refine wK (by omega) (by omega) ?_); conv => whnf)
      refine bcase_p (fun f2 => ?_) (fun f2 => ?_) <;> conv => whnf
      rotate_left
      · exact absurd x1 f2
      repeat ((first | refine bF ?_ | refine bT ?_ | refine dK (by kernel_rfl) ?_ | refine cK rfl ?_ | refine cK (by first | decide | omega) ?_ | refine wK (by omega) (by omega) ?_); conv => whnf)
      refine bcase_p (fun f3 => ?_) (fun f3 => ?_) <;> conv => whnf
      rotate_left
      · exact absurd x16 f3
      repeat ((first | refine bF ?_ | refine bT ?_ | refine dK (by kernel_rfl) ?_ | refine cK rfl ?_ | refine cK (by first | decide | omega) ?_ | refine wK (by omega) (by omega) ?_); conv => whnf)
      refine idxK_int (by omega) (by omega) ?_
      conv => whnf
      refine condK_of rfl (store_tt (c := (bL (wtB (q.f.dt.take j))).map AV.d) (c' := ((bL (wtB (q.f.dt.take j))).map AV.d).set q.f.dt[j].1.toNat .tt) (by show 0 + _ * 1 < 17; omega) (by rw [show 0 + q.f.dt[j].1.toNat * (T 4).size = q.f.dt[j].1.toNat by show 0 + _ * 1 = _; omega]) ?_)
      conv => whnf
      repeat ((first | refine bF ?_ | refine bT ?_ | refine dK (by kernel_rfl) ?_ | refine cK rfl ?_ | refine cK (by first | decide | omega) ?_ | refine wK (by omega) (by omega) ?_); conv => whnf)
      have ebx : (((bL (wtB (q.f.dt.take j))).map AV.d).set q.f.dt[j].1.toNat .tt).set q.f.dt[j].1.toNat (.d (.bool true)) = (bL (wtB (q.f.dt.take (j + 1)))).map AV.d := by
        rw [List.set_set, take_snoc hj2, wtB_snoc (by omega), ← bL_set hin, List.map_set]
      have eat : (((bL (wtB (q.f.dt.take j))).map AV.d).set q.f.dt[j].1.toNat .tt)[q.f.dt[j].1.toNat]? = some .tt := by
        rw [List.getElem?_set_self]; exact hin
      refine ⟨j + 1, by omega, by omega, len [.wkc 18 q.f.dt[j].1.toNat (.d (.bool true))] ⟨⟨⟨.tt, eat, wk_tt⟩, rfl⟩, trivial⟩ (le_of_cov ⟨rfl, rfl, rfl, rfl, rfl, rfl, rfl, rfl, trivial⟩ ⟨rfl, rfl, ?_, trivial⟩ ⟨rfl, rfl, rfl, rfl⟩)⟩
      rw [← ebx]
      rfl
    have ej : j = q.f.dt.length := by omega
    subst ej
    rw [List.take_length]
    refine aloop (ι := Nat) (fun j => [(2, .d (.lst (acts.map encPA))), (7, .ptr 7 0 0), (8, .ptr 8 0 0), (10, .d (.int .i64 k)), (18, .ptr 18 0 0), (21, .d (.int .i64 ((j : Int) + 1)))])
      (fun j => [(7, .box (PS.box ⟨q.f, q.d, 3 * ((k : Int) + 1)⟩) false), (8, .box ((mL P' W' n).map AV.d) false), (18, .box ((bL (wtB q.f.dt)).map AV.d) false)])
      (fun j => j ≤ 16) (fun j => 16 - j) 0 (Nat.zero_le _) (le0 (le_of_cov ⟨rfl, rfl, rfl, rfl, rfl, rfl, trivial⟩ ⟨rfl, rfl, rfl, trivial⟩ ⟨rfl, rfl, rfl, rfl⟩)) ?_
    intro j hj
    conv => whnf
    refine bcase_p (fun f4 => ?_) (fun f4 => ?_) <;> conv => whnf
    · have hw16 : j + 1 < 17 := by omega
      have hM := ML.of P' W' n
      repeat ((first | refine bF ?_ | refine bT ?_ | refine dK (by kernel_rfl) ?_ | refine cK rfl ?_ | refine cK (by first | decide | omega) ?_ | refine wK (by omega) (by omega) ?_); conv => whnf)
      rw [← Int.natCast_succ]
      have hget := rgetS_ok q.d ((j + 1 : Nat) : Int)
      have hdsk := fun g => iq.on.dsk (j + 1) (by omega) (by omega) g
      rw [iq.pj.get (by omega) (by omega)] at hget
      have hbw := bL_at (w := wtB q.f.dt) hw16
      by_cases hwt : wtB q.f.dt (j + 1) = true
      · refine callX_pure hget ?_
        conv => whnf
        repeat ((first | refine bF ?_ | refine bT ?_ | refine dK (by kernel_rfl) ?_ | refine cK rfl ?_ | refine cK (by first | decide | omega) ?_ | refine wK (by omega) (by omega) ?_); conv => whnf)
        refine idxK_nat (i := j + 1) (by omega) ?_
        conv => whnf
        try (refine condK_of rfl ?_)
        refine (part_one (l := bL (wtB q.f.dt)) (.bool (wtB q.f.dt (j + 1))) (by first | rfl | simp only [killC_d]) (by rw [show 0 + (j + 1) * (T 4).size = j + 1 by show 0 + _ * 1 = _; omega]; exact hbw) ?_)
        conv => whnf
        repeat ((first | refine bF ?_ | refine bT ?_ | refine dK (by kernel_rfl) ?_ | refine cK rfl ?_ | refine cK (by first | decide | omega) ?_ | refine wK (by omega) (by omega) ?_); conv => whnf)
        refine bcase_f (by rw [hwt]; rfl) ?_
        conv => whnf
        repeat ((first | refine bF ?_ | refine bT ?_ | refine dK (by kernel_rfl) ?_ | refine cK rfl ?_ | refine cK (by first | decide | omega) ?_ | refine wK (by omega) (by omega) ?_); conv => whnf)
        exact ⟨j + 1, by omega, by omega, (le0 (le_of_cov ⟨rfl, rfl, rfl, rfl, rfl, rfl, trivial⟩ ⟨rfl, rfl, rfl, trivial⟩ ⟨rfl, rfl, rfl, rfl⟩))⟩
      have hwf : wtB q.f.dt (j + 1) = false := by simpa using hwt
      have hg := hdsk (wtB_no hwf)
      have hmp := hM.p (j := 0 + 0 + (j + 1) * (T 42).size) (q := j + 1) (by simp only [szs]; omega) hw16
      have hml : (mL P' W' n).length = 69 := rfl
      by_cases hz : (P' (j + 1)).1 = 0
      · rw [hg, if_pos hz] at hget
        have hzz := iq.on.zz (q := j + 1) (by omega) (by omega) hz
        rw [hzz] at hmp
        refine callX_pure hget ?_
        conv => whnf
        repeat ((first | refine bF ?_ | refine bT ?_ | refine dK (by kernel_rfl) ?_ | refine cK rfl ?_ | refine cK (by first | decide | omega) ?_ | refine wK (by omega) (by omega) ?_); conv => whnf)
        refine idxK_nat (i := j + 1) (by omega) ?_
        conv => whnf
        try (refine condK_of rfl ?_)
        refine (part_one (l := bL (wtB q.f.dt)) (.bool (wtB q.f.dt (j + 1))) (by first | rfl | simp only [killC_d]) (by rw [show 0 + (j + 1) * (T 4).size = j + 1 by show 0 + _ * 1 = _; omega]; exact hbw) ?_)
        conv => whnf
        repeat ((first | refine bF ?_ | refine bT ?_ | refine dK (by kernel_rfl) ?_ | refine cK rfl ?_ | refine cK (by first | decide | omega) ?_ | refine wK (by omega) (by omega) ?_); conv => whnf)
        refine bcase_t (by rw [hwf]; rfl) ?_
        conv => whnf
        repeat ((first | refine bF ?_ | refine bT ?_ | refine dK (by kernel_rfl) ?_ | refine cK rfl ?_ | refine cK (by first | decide | omega) ?_ | refine wK (by omega) (by omega) ?_); conv => whnf)
        refine idxK_nat (i := j + 1) (by omega) ?_
        conv => whnf
        try (refine condK_of rfl ?_)
        refine (part_agg (l := mL P' W' n) (l2 := encP zP) (by first | rfl | simp only [killC_d]) (by first | omega | (simp only [szs]; omega)) (hmp) ?_)
        conv => whnf
        repeat ((first | refine bF ?_ | refine bT ?_ | refine dK (by kernel_rfl) ?_ | refine cK rfl ?_ | refine cK (by first | decide | omega) ?_ | refine wK (by omega) (by omega) ?_); conv => whnf)
        exact ⟨j + 1, by omega, by omega, (le0 (le_of_cov ⟨rfl, rfl, rfl, rfl, rfl, rfl, trivial⟩ ⟨rfl, rfl, rfl, trivial⟩ ⟨rfl, rfl, rfl, rfl⟩))⟩
      · rw [hg, if_neg hz] at hget
        refine callX_pure hget ?_
        conv => whnf
        repeat ((first | refine bF ?_ | refine bT ?_ | refine dK (by kernel_rfl) ?_ | refine cK rfl ?_ | refine cK (by first | decide | omega) ?_ | refine wK (by omega) (by omega) ?_); conv => whnf)
        refine idxK_nat (i := j + 1) (by omega) ?_
        conv => whnf
        try (refine condK_of rfl ?_)
        refine (part_one (l := bL (wtB q.f.dt)) (.bool (wtB q.f.dt (j + 1))) (by first | rfl | simp only [killC_d]) (by rw [show 0 + (j + 1) * (T 4).size = j + 1 by show 0 + _ * 1 = _; omega]; exact hbw) ?_)
        conv => whnf
        repeat ((first | refine bF ?_ | refine bT ?_ | refine dK (by kernel_rfl) ?_ | refine cK rfl ?_ | refine cK (by first | decide | omega) ?_ | refine wK (by omega) (by omega) ?_); conv => whnf)
        refine bcase_t (by rw [hwf]; rfl) ?_
        conv => whnf
        repeat ((first | refine bF ?_ | refine bT ?_ | refine dK (by kernel_rfl) ?_ | refine cK rfl ?_ | refine cK (by first | decide | omega) ?_ | refine wK (by omega) (by omega) ?_); conv => whnf)
        refine idxK_nat (i := j + 1) (by omega) ?_
        conv => whnf
        try (refine condK_of rfl ?_)
        refine (part_agg (l := mL P' W' n) (l2 := encP (P' (j + 1))) (by first | rfl | simp only [killC_d]) (by first | omega | (simp only [szs]; omega)) (hmp) ?_)
        conv => whnf
        repeat ((first | refine bF ?_ | refine bT ?_ | refine dK (by kernel_rfl) ?_ | refine cK rfl ?_ | refine cK (by first | decide | omega) ?_ | refine wK (by omega) (by omega) ?_); conv => whnf)
        refine bcase_f (by simp) ?_
        conv => whnf
        repeat ((first | refine bF ?_ | refine bT ?_ | refine dK (by kernel_rfl) ?_ | refine cK rfl ?_ | refine cK (by first | decide | omega) ?_ | refine wK (by omega) (by omega) ?_); conv => whnf)
        exact ⟨j + 1, by omega, by omega, (le0 (le_of_cov ⟨rfl, rfl, rfl, rfl, rfl, rfl, trivial⟩ ⟨rfl, rfl, rfl, trivial⟩ ⟨rfl, rfl, rfl, rfl⟩))⟩
    have ej : j = 16 := by omega
    subst ej
    repeat ((first | refine bF ?_ | refine bT ?_ | refine dK (by kernel_rfl) ?_ | refine cK rfl ?_ | refine cK (by first | decide | omega) ?_ | refine wK (by omega) (by omega) ?_); conv => whnf)
    exact ⟨(k + 1, ⟨q.f, q.d, 3 * ((k : Int) + 1)⟩, P', W'), ⟨by simp only []; omega, by simp only []; omega, by simp only [Int.natCast_succ]; rw [← Int.add_assoc]; exact iq2, by simp only []; omega, qlen⟩, by simp only []; omega, (le0 (le_of_cov ⟨rfl, rfl, rfl, rfl, trivial⟩ ⟨rfl, rfl, trivial⟩ ⟨rfl, rfl, rfl, rfl⟩))⟩
  refine bcase_p (fun g4 => ?_) (fun g4 => ?_) <;> conv => whnf
  · repeat ((first | refine bF ?_ | refine bT ?_ | refine dK (by kernel_rfl) ?_ | refine cK rfl ?_ | refine cK (by first | decide | omega) ?_ | refine wK (by omega) (by omega) ?_); conv => whnf)
    refine idxK_nat (by omega) ?_
    conv => whnf
    refine getRow_of (x := encPA acts[k]) (by simp [hk2]) ?_
    conv => whnf
    repeat ((first | refine bF ?_ | refine bT ?_ | refine dK (by kernel_rfl) ?_ | refine cK rfl ?_ | refine cK (by first | decide | omega) ?_ | refine wK (by omega) (by omega) ?_); conv => whnf)
    refine idxK_nat (by omega) ?_
    conv => whnf
    refine getRow_of (x := encPA acts[k]) (by simp [hk2]) ?_
    conv => whnf
    repeat ((first | refine bF ?_ | refine bT ?_ | refine dK (by kernel_rfl) ?_ | refine cK rfl ?_ | refine cK (by first | decide | omega) ?_ | refine wK (by omega) (by omega) ?_); conv => whnf)
    refine idxK_nat (by omega) ?_
    conv => whnf
    refine getRow_of (x := encPA acts[k]) (by simp [hk2]) ?_
    conv => whnf
    repeat ((first | refine bF ?_ | refine bT ?_ | refine dK (by kernel_rfl) ?_ | refine cK rfl ?_ | refine cK (by first | decide | omega) ?_ | refine wK (by omega) (by omega) ?_); conv => whnf)
    refine callX_pure c19 ?_
    conv => whnf
    repeat ((first | refine bF ?_ | refine bT ?_ | refine dK (by kernel_rfl) ?_ | refine cK rfl ?_ | refine cK (by first | decide | omega) ?_ | refine wK (by omega) (by omega) ?_); conv => whnf)
    refine callX_pure (tick_ok q 3 hq0 hq1) ?_
    conv => whnf
    repeat ((first | refine bF ?_ | refine bT ?_ | refine dK (by kernel_rfl) ?_ | refine cK rfl ?_ | refine cK (by first | decide | omega) ?_ | refine wK (by omega) (by omega) ?_); conv => whnf)
    rw [tickP_3 (show 3 * ((k : Int) + 1) ≤ 2147483647 by omega) (by omega)]
    repeat ((first | refine bF ?_ | refine bT ?_ | refine dK (by kernel_rfl) ?_ | refine cK rfl ?_ | refine cK (by first | decide | omega) ?_ | refine wK (by omega) (by omega) ?_); conv => whnf)
    refine aloop (ι := Nat) (fun j => [(2, .d (.lst (acts.map encPA))), (7, .ptr 7 0 0), (8, .ptr 8 0 0), (10, .d (.int .i64 k)), (18, .ptr 18 0 0), (123, .d (encIs q.f.dt)), (124, .d (.int .i64 (q.f.dt.map encI).length)), (125, .d (.int .i64 j))])
      (fun j => [(7, .box (PS.box ⟨q.f, q.d, 3 * ((k : Int) + 1)⟩) false), (8, .box ((mL P' W' n).map AV.d) false), (18, .box ((bL (wtB (q.f.dt.take j))).map AV.d) false)])
      (fun j => j ≤ q.f.dt.length) (fun j => q.f.dt.length - j) 0 (Nat.zero_le _) (le0 (le_of_cov ⟨rfl, rfl, rfl, rfl, rfl, rfl, rfl, rfl, trivial⟩ ⟨rfl, rfl, rfl, trivial⟩ ⟨rfl, rfl, rfl, rfl⟩)) ?_
    intro j hj
    have hdt := iq.pj.fm.dl
    have hdl : (q.f.dt.map encI).length = q.f.dt.length := List.length_map ..
    conv => whnf
    refine bcase_p (fun f1 => ?_) (fun f1 => ?_) <;> conv => whnf
    · have hj2 : j < q.f.dt.length := by omega
      obtain ⟨x1, x16, _⟩ := right_id iq.pj.fm.dt (List.getElem_mem hj2)
      have hin : q.f.dt[j].1.toNat < 17 := by omega
      refine idxK_nat (by omega) ?_
      conv => whnf
      refine getRow_of (x := encI q.f.dt[j]) (by simp [hj2]) ?_
      conv => whnf
      repeat ((first | refine bF ?_ | refine bT ?_ | refine dK (by kernel_rfl) ?_ | refine cK rfl ?_ | refine cK (by first | decide | omega) ?_ | refine wK (by omega) (by omega) ?_); conv => whnf)
      refine bcase_p (fun f2 => ?_) (fun f2 => ?_) <;> conv => whnf
      rotate_left
      · exact absurd x1 f2
      repeat ((first | refine bF ?_ | refine bT ?_ | refine dK (by kernel_rfl) ?_ | refine cK rfl ?_ | refine cK (by first | decide | omega) ?_ | refine wK (by omega) (by omega) ?_); conv => whnf)
      refine bcase_p (fun f3 => ?_) (fun f3 => ?_) <;> conv => whnf
      rotate_left
      · exact absurd x16 f3
      repeat ((first | refine bF ?_ | refine bT ?_ | refine dK (by kernel_rfl) ?_ | refine cK rfl ?_ | refine cK (by first | decide | omega) ?_ | refine wK (by omega) (by omega) ?_); conv => whnf)
      refine idxK_int (by omega) (by omega) ?_
      conv => whnf
      refine condK_of rfl (store_tt (c := (bL (wtB (q.f.dt.take j))).map AV.d) (c' := ((bL (wtB (q.f.dt.take j))).map AV.d).set q.f.dt[j].1.toNat .tt) (by show 0 + _ * 1 < 17; omega) (by rw [show 0 + q.f.dt[j].1.toNat * (T 4).size = q.f.dt[j].1.toNat by show 0 + _ * 1 = _; omega]) ?_)
      conv => whnf
      repeat ((first | refine bF ?_ | refine bT ?_ | refine dK (by kernel_rfl) ?_ | refine cK rfl ?_ | refine cK (by first | decide | omega) ?_ | refine wK (by omega) (by omega) ?_); conv => whnf)
      have ebx : (((bL (wtB (q.f.dt.take j))).map AV.d).set q.f.dt[j].1.toNat .tt).set q.f.dt[j].1.toNat (.d (.bool true)) = (bL (wtB (q.f.dt.take (j + 1)))).map AV.d := by
        rw [List.set_set, take_snoc hj2, wtB_snoc (by omega), ← bL_set hin, List.map_set]
      have eat : (((bL (wtB (q.f.dt.take j))).map AV.d).set q.f.dt[j].1.toNat .tt)[q.f.dt[j].1.toNat]? = some .tt := by
        rw [List.getElem?_set_self]; exact hin
      refine ⟨j + 1, by omega, by omega, len [.wkc 18 q.f.dt[j].1.toNat (.d (.bool true))] ⟨⟨⟨.tt, eat, wk_tt⟩, rfl⟩, trivial⟩ (le_of_cov ⟨rfl, rfl, rfl, rfl, rfl, rfl, rfl, rfl, trivial⟩ ⟨rfl, rfl, ?_, trivial⟩ ⟨rfl, rfl, rfl, rfl⟩)⟩
      rw [← ebx]
      rfl
    have ej : j = q.f.dt.length := by omega
    subst ej
    rw [List.take_length]
    refine aloop (ι := Nat) (fun j => [(2, .d (.lst (acts.map encPA))), (7, .ptr 7 0 0), (8, .ptr 8 0 0), (10, .d (.int .i64 k)), (18, .ptr 18 0 0), (21, .d (.int .i64 ((j : Int) + 1)))])
      (fun j => [(7, .box (PS.box ⟨q.f, q.d, 3 * ((k : Int) + 1)⟩) false), (8, .box ((mL P' W' n).map AV.d) false), (18, .box ((bL (wtB q.f.dt)).map AV.d) false)])
      (fun j => j ≤ 16) (fun j => 16 - j) 0 (Nat.zero_le _) (le0 (le_of_cov ⟨rfl, rfl, rfl, rfl, rfl, rfl, trivial⟩ ⟨rfl, rfl, rfl, trivial⟩ ⟨rfl, rfl, rfl, rfl⟩)) ?_
    intro j hj
    conv => whnf
    refine bcase_p (fun f4 => ?_) (fun f4 => ?_) <;> conv => whnf
    · have hw16 : j + 1 < 17 := by omega
      have hM := ML.of P' W' n
      repeat ((first | refine bF ?_ | refine bT ?_ | refine dK (by kernel_rfl) ?_ | refine cK rfl ?_ | refine cK (by first | decide | omega) ?_ | refine wK (by omega) (by omega) ?_); conv => whnf)
      rw [← Int.natCast_succ]
      have hget := rgetS_ok q.d ((j + 1 : Nat) : Int)
      have hdsk := fun g => iq.on.dsk (j + 1) (by omega) (by omega) g
      rw [iq.pj.get (by omega) (by omega)] at hget
      have hbw := bL_at (w := wtB q.f.dt) hw16
      by_cases hwt : wtB q.f.dt (j + 1) = true
      · refine callX_pure hget ?_
        conv => whnf
        repeat ((first | refine bF ?_ | refine bT ?_ | refine dK (by kernel_rfl) ?_ | refine cK rfl ?_ | refine cK (by first | decide | omega) ?_ | refine wK (by omega) (by omega) ?_); conv => whnf)
        refine idxK_nat (i := j + 1) (by omega) ?_
        conv => whnf
        try (refine condK_of rfl ?_)
        refine (part_one (l := bL (wtB q.f.dt)) (.bool (wtB q.f.dt (j + 1))) (by first | rfl | simp only [killC_d]) (by rw [show 0 + (j + 1) * (T 4).size = j + 1 by show 0 + _ * 1 = _; omega]; exact hbw) ?_)
        conv => whnf
        repeat ((first | refine bF ?_ | refine bT ?_ | refine dK (by kernel_rfl) ?_ | refine cK rfl ?_ | refine cK (by first | decide | omega) ?_ | refine wK (by omega) (by omega) ?_); conv => whnf)
        refine bcase_f (by rw [hwt]; rfl) ?_
        conv => whnf
        repeat ((first | refine bF ?_ | refine bT ?_ | refine dK (by kernel_rfl) ?_ | refine cK rfl ?_ | refine cK (by first | decide | omega) ?_ | refine wK (by omega) (by omega) ?_); conv => whnf)
        exact ⟨j + 1, by omega, by omega, (le0 (le_of_cov ⟨rfl, rfl, rfl, rfl, rfl, rfl, trivial⟩ ⟨rfl, rfl, rfl, trivial⟩ ⟨rfl, rfl, rfl, rfl⟩))⟩
      have hwf : wtB q.f.dt (j + 1) = false := by simpa using hwt
      have hg := hdsk (wtB_no hwf)
      have hmp := hM.p (j := 0 + 0 + (j + 1) * (T 42).size) (q := j + 1) (by simp only [szs]; omega) hw16
      have hml : (mL P' W' n).length = 69 := rfl
      by_cases hz : (P' (j + 1)).1 = 0
      · rw [hg, if_pos hz] at hget
        have hzz := iq.on.zz (q := j + 1) (by omega) (by omega) hz
        rw [hzz] at hmp
        refine callX_pure hget ?_
        conv => whnf
        repeat ((first | refine bF ?_ | refine bT ?_ | refine dK (by kernel_rfl) ?_ | refine cK rfl ?_ | refine cK (by first | decide | omega) ?_ | refine wK (by omega) (by omega) ?_); conv => whnf)
        refine idxK_nat (i := j + 1) (by omega) ?_
        conv => whnf
        try (refine condK_of rfl ?_)
        refine (part_one (l := bL (wtB q.f.dt)) (.bool (wtB q.f.dt (j + 1))) (by first | rfl | simp only [killC_d]) (by rw [show 0 + (j + 1) * (T 4).size = j + 1 by show 0 + _ * 1 = _; omega]; exact hbw) ?_)
        conv => whnf
        repeat ((first | refine bF ?_ | refine bT ?_ | refine dK (by kernel_rfl) ?_ | refine cK rfl ?_ | refine cK (by first | decide | omega) ?_ | refine wK (by omega) (by omega) ?_); conv => whnf)
        refine bcase_t (by rw [hwf]; rfl) ?_
        conv => whnf
        repeat ((first | refine bF ?_ | refine bT ?_ | refine dK (by kernel_rfl) ?_ | refine cK rfl ?_ | refine cK (by first | decide | omega) ?_ | refine wK (by omega) (by omega) ?_); conv => whnf)
        refine idxK_nat (i := j + 1) (by omega) ?_
        conv => whnf
        try (refine condK_of rfl ?_)
        refine (part_agg (l := mL P' W' n) (l2 := encP zP) (by first | rfl | simp only [killC_d]) (by first | omega | (simp only [szs]; omega)) (hmp) ?_)
        conv => whnf
        repeat ((first | refine bF ?_ | refine bT ?_ | refine dK (by kernel_rfl) ?_ | refine cK rfl ?_ | refine cK (by first | decide | omega) ?_ | refine wK (by omega) (by omega) ?_); conv => whnf)
        exact ⟨j + 1, by omega, by omega, (le0 (le_of_cov ⟨rfl, rfl, rfl, rfl, rfl, rfl, trivial⟩ ⟨rfl, rfl, rfl, trivial⟩ ⟨rfl, rfl, rfl, rfl⟩))⟩
      · rw [hg, if_neg hz] at hget
        refine callX_pure hget ?_
        conv => whnf
        repeat ((first | refine bF ?_ | refine bT ?_ | refine dK (by kernel_rfl) ?_ | refine cK rfl ?_ | refine cK (by first | decide | omega) ?_ | refine wK (by omega) (by omega) ?_); conv => whnf)
        refine idxK_nat (i := j + 1) (by omega) ?_
        conv => whnf
        try (refine condK_of rfl ?_)
        refine (part_one (l := bL (wtB q.f.dt)) (.bool (wtB q.f.dt (j + 1))) (by first | rfl | simp only [killC_d]) (by rw [show 0 + (j + 1) * (T 4).size = j + 1 by show 0 + _ * 1 = _; omega]; exact hbw) ?_)
        conv => whnf
        repeat ((first | refine bF ?_ | refine bT ?_ | refine dK (by kernel_rfl) ?_ | refine cK rfl ?_ | refine cK (by first | decide | omega) ?_ | refine wK (by omega) (by omega) ?_); conv => whnf)
        refine bcase_t (by rw [hwf]; rfl) ?_
        conv => whnf
        repeat ((first | refine bF ?_ | refine bT ?_ | refine dK (by kernel_rfl) ?_ | refine cK rfl ?_ | refine cK (by first | decide | omega) ?_ | refine wK (by omega) (by omega) ?_); conv => whnf)
        refine idxK_nat (i := j + 1) (by omega) ?_
        conv => whnf
        try (refine condK_of rfl ?_)
        refine (part_agg (l := mL P' W' n) (l2 := encP (P' (j + 1))) (by first | rfl | simp only [killC_d]) (by first | omega | (simp only [szs]; omega)) (hmp) ?_)
        conv => whnf
        repeat ((first | refine bF ?_ | refine bT ?_ | refine dK (by kernel_rfl) ?_ | refine cK rfl ?_ | refine cK (by first | decide | omega) ?_ | refine wK (by omega) (by omega) ?_); conv => whnf)
        refine bcase_f (by simp) ?_
        conv => whnf
        repeat ((first | refine bF ?_ | refine bT ?_ | refine dK (by kernel_rfl) ?_ | refine cK rfl ?_ | refine cK (by first | decide | omega) ?_ | refine wK (by omega) (by omega) ?_); conv => whnf)
        exact ⟨j + 1, by omega, by omega, (le0 (le_of_cov ⟨rfl, rfl, rfl, rfl, rfl, rfl, trivial⟩ ⟨rfl, rfl, rfl, trivial⟩ ⟨rfl, rfl, rfl, rfl⟩))⟩
    have ej : j = 16 := by omega
    subst ej
    repeat ((first | refine bF ?_ | refine bT ?_ | refine dK (by kernel_rfl) ?_ | refine cK rfl ?_ | refine cK (by first | decide | omega) ?_ | refine wK (by omega) (by omega) ?_); conv => whnf)
    exact ⟨(k + 1, ⟨q.f, q.d, 3 * ((k : Int) + 1)⟩, P', W'), ⟨by simp only []; omega, by simp only []; omega, by simp only [Int.natCast_succ]; rw [← Int.add_assoc]; exact iq2, by simp only []; omega, qlen⟩, by simp only []; omega, (le0 (le_of_cov ⟨rfl, rfl, rfl, rfl, trivial⟩ ⟨rfl, rfl, trivial⟩ ⟨rfl, rfl, rfl, rfl⟩))⟩
  repeat ((first | refine bF ?_ | refine bT ?_ | refine dK (by kernel_rfl) ?_ | refine cK rfl ?_ | refine cK (by first | decide | omega) ?_ | refine wK (by omega) (by omega) ?_); conv => whnf)
  refine idxK_nat (by omega) ?_
  conv => whnf
  refine getRow_of (x := encPA acts[k]) (by simp [hk2]) ?_
  conv => whnf
  repeat ((first | refine bF ?_ | refine bT ?_ | refine dK (by kernel_rfl) ?_ | refine cK rfl ?_ | refine cK (by first | decide | omega) ?_ | refine wK (by omega) (by omega) ?_); conv => whnf)
  refine idxK_nat (by omega) ?_
  conv => whnf
  refine getRow_of (x := encPA acts[k]) (by simp [hk2]) ?_
  conv => whnf
  repeat ((first | refine bF ?_ | refine bT ?_ | refine dK (by kernel_rfl) ?_ | refine cK rfl ?_ | refine cK (by first | decide | omega) ?_ | refine wK (by omega) (by omega) ?_); conv => whnf)
  refine idxK_nat (by omega) ?_
  conv => whnf
  refine getRow_of (x := encPA acts[k]) (by simp [hk2]) ?_
  conv => whnf
  repeat ((first | refine bF ?_ | refine bT ?_ | refine dK (by kernel_rfl) ?_ | refine cK rfl ?_ | refine cK (by first | decide | omega) ?_ | refine wK (by omega) (by omega) ?_); conv => whnf)
  refine callX_pure c19 ?_
  conv => whnf
  repeat ((first | refine bF ?_ | refine bT ?_ | refine dK (by kernel_rfl) ?_ | refine cK rfl ?_ | refine cK (by first | decide | omega) ?_ | refine wK (by omega) (by omega) ?_); conv => whnf)
  refine callX_pure (tick_ok q 3 hq0 hq1) ?_
  conv => whnf
  repeat ((first | refine bF ?_ | refine bT ?_ | refine dK (by kernel_rfl) ?_ | refine cK rfl ?_ | refine cK (by first | decide | omega) ?_ | refine wK (by omega) (by omega) ?_); conv => whnf)
  rw [tickP_3 (show 3 * ((k : Int) + 1) ≤ 2147483647 by omega) (by omega)]
  repeat ((first | refine bF ?_ | refine bT ?_ | refine dK (by kernel_rfl) ?_ | refine cK rfl ?_ | refine cK (by first | decide | omega) ?_ | refine wK (by omega) (by omega) ?_); conv => whnf)
  refine aloop (ι := Nat) (fun j => [(2, .d (.lst (acts.map encPA))), (7, .ptr 7 0 0), (8, .ptr 8 0 0), (10, .d (.int .i64 k)), (18, .ptr 18 0 0), (123, .d (encIs q.f.dt)), (124, .d (.int .i64 (q.f.dt.map encI).length)), (125, .d (.int .i64 j))])
    (fun j => [(7, .box (PS.box ⟨q.f, q.d, 3 * ((k : Int) + 1)⟩) false), (8, .box ((mL P' W' n).map AV.d) false), (18, .box ((bL (wtB (q.f.dt.take j))).map AV.d) false)])
    (fun j => j ≤ q.f.dt.length) (fun j => q.f.dt.length - j) 0 (Nat.zero_le _) (le0 (le_of_cov ⟨rfl, rfl, rfl, rfl, rfl, rfl, rfl, rfl, trivial⟩ ⟨rfl, rfl, rfl, trivial⟩ ⟨rfl, rfl, rfl, rfl⟩)) ?_
  intro j hj
  have hdt := iq.pj.fm.dl
  have hdl : (q.f.dt.map encI).length = q.f.dt.length := List.length_map ..
  conv => whnf
  refine bcase_p (fun f1 => ?_) (fun f1 => ?_) <;> conv => whnf
  · have hj2 : j < q.f.dt.length := by omega
    obtain ⟨x1, x16, _⟩ := right_id iq.pj.fm.dt (List.getElem_mem hj2)
    have hin : q.f.dt[j].1.toNat < 17 := by omega
    refine idxK_nat (by omega) ?_
    conv => whnf
    refine getRow_of (x := encI q.f.dt[j]) (by simp [hj2]) ?_
    conv => whnf
    repeat ((first | refine bF ?_ | refine bT ?_ | refine dK (by kernel_rfl) ?_ | refine cK rfl ?_ | refine cK (by first | decide | omega) ?_ | refine wK (by omega) (by omega) ?_); conv => whnf)
    refine bcase_p (fun f2 => ?_) (fun f2 => ?_) <;> conv => whnf
    rotate_left
    · exact absurd x1 f2
    repeat ((first | refine bF ?_ | refine bT ?_ | refine dK (by kernel_rfl) ?_ | refine cK rfl ?_ | refine cK (by first | decide | omega) ?_ | refine wK (by omega) (by omega) ?_); conv => whnf)
    refine bcase_p (fun f3 => ?_) (fun f3 => ?_) <;> conv => whnf
    rotate_left
    · exact absurd x16 f3
    repeat ((first | refine bF ?_ | refine bT ?_ | refine dK (by kernel_rfl) ?_ | refine cK rfl ?_ | refine cK (by first | decide | omega) ?_ | refine wK (by omega) (by omega) ?_); conv => whnf)
    refine idxK_int (by omega) (by omega) ?_
    conv => whnf
    refine condK_of rfl (store_tt (c := (bL (wtB (q.f.dt.take j))).map AV.d) (c' := ((bL (wtB (q.f.dt.take j))).map AV.d).set q.f.dt[j].1.toNat .tt) (by show 0 + _ * 1 < 17; omega) (by rw [show 0 + q.f.dt[j].1.toNat * (T 4).size = q.f.dt[j].1.toNat by show 0 + _ * 1 = _; omega]) ?_)
    conv => whnf
    repeat ((first | refine bF ?_ | refine bT ?_ | refine dK (by kernel_rfl) ?_ | refine cK rfl ?_ | refine cK (by first | decide | omega) ?_ | refine wK (by omega) (by omega) ?_); conv => whnf)
    have ebx : (((bL (wtB (q.f.dt.take j))).map AV.d).set q.f.dt[j].1.toNat .tt).set q.f.dt[j].1.toNat (.d (.bool true)) = (bL (wtB (q.f.dt.take (j + 1)))).map AV.d := by
      rw [List.set_set, take_snoc hj2, wtB_snoc (by omega), ← bL_set hin, List.map_set]
    have eat : (((bL (wtB (q.f.dt.take j))).map AV.d).set q.f.dt[j].1.toNat .tt)[q.f.dt[j].1.toNat]? = some .tt := by
      rw [List.getElem?_set_self]; exact hin
    refine ⟨j + 1, by omega, by omega, len [.wkc 18 q.f.dt[j].1.toNat (.d (.bool true))] ⟨⟨⟨.tt, eat, wk_tt⟩, rfl⟩, trivial⟩ (le_of_cov ⟨rfl, rfl, rfl, rfl, rfl, rfl, rfl, rfl, trivial⟩ ⟨rfl, rfl, ?_, trivial⟩ ⟨rfl, rfl, rfl, rfl⟩)⟩
    rw [← ebx]
    rfl
  have ej : j = q.f.dt.length := by omega
  subst ej
  rw [List.take_length]
  refine aloop (ι := Nat) (fun j => [(2, .d (.lst (acts.map encPA))), (7, .ptr 7 0 0), (8, .ptr 8 0 0), (10, .d (.int .i64 k)), (18, .ptr 18 0 0), (21, .d (.int .i64 ((j : Int) + 1)))])
    (fun j => [(7, .box (PS.box ⟨q.f, q.d, 3 * ((k : Int) + 1)⟩) false), (8, .box ((mL P' W' n).map AV.d) false), (18, .box ((bL (wtB q.f.dt)).map AV.d) false)])
    (fun j => j ≤ 16) (fun j => 16 - j) 0 (Nat.zero_le _) (le0 (le_of_cov ⟨rfl, rfl, rfl, rfl, rfl, rfl, trivial⟩ ⟨rfl, rfl, rfl, trivial⟩ ⟨rfl, rfl, rfl, rfl⟩)) ?_
  intro j hj
  conv => whnf
  refine bcase_p (fun f4 => ?_) (fun f4 => ?_) <;> conv => whnf
  · have hw16 : j + 1 < 17 := by omega
    have hM := ML.of P' W' n
    repeat ((first | refine bF ?_ | refine bT ?_ | refine dK (by kernel_rfl) ?_ | refine cK rfl ?_ | refine cK (by first | decide | omega) ?_ | refine wK (by omega) (by omega) ?_); conv => whnf)
    rw [← Int.natCast_succ]
    have hget := rgetS_ok q.d ((j + 1 : Nat) : Int)
    have hdsk := fun g => iq.on.dsk (j + 1) (by omega) (by omega) g
    rw [iq.pj.get (by omega) (by omega)] at hget
    have hbw := bL_at (w := wtB q.f.dt) hw16
    by_cases hwt : wtB q.f.dt (j + 1) = true
    · refine callX_pure hget ?_
      conv => whnf
      repeat ((first | refine bF ?_ | refine bT ?_ | refine dK (by kernel_rfl) ?_ | refine cK rfl ?_ | refine cK (by first | decide | omega) ?_ | refine wK (by omega) (by omega) ?_); conv => whnf)
      refine idxK_nat (i := j + 1) (by omega) ?_
      conv => whnf
      try (refine condK_of rfl ?_)
      refine (part_one (l := bL (wtB q.f.dt)) (.bool (wtB q.f.dt (j + 1))) (by first | rfl | simp only [killC_d]) (by rw [show 0 + (j + 1) * (T 4).size = j + 1 by show 0 + _ * 1 = _; omega]; exact hbw) ?_)
      conv => whnf
      repeat ((first | refine bF ?_ | refine bT ?_ | refine dK (by kernel_rfl) ?_ | refine cK rfl ?_ | refine cK (by first | decide | omega) ?_ | refine wK (by omega) (by omega) ?_); conv => whnf)
      refine bcase_f (by rw [hwt]; rfl) ?_
      conv => whnf
      repeat ((first | refine bF ?_ | refine bT ?_ | refine dK (by kernel_rfl) ?_ | refine cK rfl ?_ | refine cK (by first | decide | omega) ?_ | refine wK (by omega) (by omega) ?_); conv => whnf)
      exact ⟨j + 1, by omega, by omega, (le0 (le_of_cov ⟨rfl, rfl, rfl, rfl, rfl, rfl, trivial⟩ ⟨rfl, rfl, rfl, trivial⟩ ⟨rfl, rfl, rfl, rfl⟩))⟩
    have hwf : wtB q.f.dt (j + 1) = false := by simpa using hwt
    have hg := hdsk (wtB_no hwf)
    have hmp := hM.p (j := 0 + 0 + (j + 1) * (T 42).size) (q := j + 1) (by simp only [szs]; omega) hw16
    have hml : (mL P' W' n).length = 69 := rfl
    by_cases hz : (P' (j + 1)).1 = 0
    · rw [hg, if_pos hz] at hget
      have hzz := iq.on.zz (q := j + 1) (by omega) (by omega) hz
      rw [hzz] at hmp
      refine callX_pure hget ?_
      conv => whnf
      repeat ((first | refine bF ?_ | refine bT ?_ | refine dK (by kernel_rfl) ?_ | refine cK rfl ?_ | refine cK (by first | decide | omega) ?_ | refine wK (by omega) (by omega) ?_); conv => whnf)
      refine idxK_nat (i := j + 1) (by omega) ?_
      conv => whnf
      try (refine condK_of rfl ?_)
      refine (part_one (l := bL (wtB q.f.dt)) (.bool (wtB q.f.dt (j + 1))) (by first | rfl | simp only [killC_d]) (by rw [show 0 + (j + 1) * (T 4).size = j + 1 by show 0 + _ * 1 = _; omega]; exact hbw) ?_)
      conv => whnf
      repeat ((first | refine bF ?_ | refine bT ?_ | refine dK (by kernel_rfl) ?_ | refine cK rfl ?_ | refine cK (by first | decide | omega) ?_ | refine wK (by omega) (by omega) ?_); conv => whnf)
      refine bcase_t (by rw [hwf]; rfl) ?_
      conv => whnf
      repeat ((first | refine bF ?_ | refine bT ?_ | refine dK (by kernel_rfl) ?_ | refine cK rfl ?_ | refine cK (by first | decide | omega) ?_ | refine wK (by omega) (by omega) ?_); conv => whnf)
      refine idxK_nat (i := j + 1) (by omega) ?_
      conv => whnf
      try (refine condK_of rfl ?_)
      refine (part_agg (l := mL P' W' n) (l2 := encP zP) (by first | rfl | simp only [killC_d]) (by first | omega | (simp only [szs]; omega)) (hmp) ?_)
      conv => whnf
      repeat ((first | refine bF ?_ | refine bT ?_ | refine dK (by kernel_rfl) ?_ | refine cK rfl ?_ | refine cK (by first | decide | omega) ?_ | refine wK (by omega) (by omega) ?_); conv => whnf)
      exact ⟨j + 1, by omega, by omega, (le0 (le_of_cov ⟨rfl, rfl, rfl, rfl, rfl, rfl, trivial⟩ ⟨rfl, rfl, rfl, trivial⟩ ⟨rfl, rfl, rfl, rfl⟩))⟩
    · rw [hg, if_neg hz] at hget
      refine callX_pure hget ?_
      conv => whnf
      repeat ((first | refine bF ?_ | refine bT ?_ | refine dK (by kernel_rfl) ?_ | refine cK rfl ?_ | refine cK (by first | decide | omega) ?_ | refine wK (by omega) (by omega) ?_); conv => whnf)
      refine idxK_nat (i := j + 1) (by omega) ?_
      conv => whnf
      try (refine condK_of rfl ?_)
      refine (part_one (l := bL (wtB q.f.dt)) (.bool (wtB q.f.dt (j + 1))) (by first | rfl | simp only [killC_d]) (by rw [show 0 + (j + 1) * (T 4).size = j + 1 by show 0 + _ * 1 = _; omega]; exact hbw) ?_)
      conv => whnf
      repeat ((first | refine bF ?_ | refine bT ?_ | refine dK (by kernel_rfl) ?_ | refine cK rfl ?_ | refine cK (by first | decide | omega) ?_ | refine wK (by omega) (by omega) ?_); conv => whnf)
      refine bcase_t (by rw [hwf]; rfl) ?_
      conv => whnf
      repeat ((first | refine bF ?_ | refine bT ?_ | refine dK (by kernel_rfl) ?_ | refine cK rfl ?_ | refine cK (by first | decide | omega) ?_ | refine wK (by omega) (by omega) ?_); conv => whnf)
      refine idxK_nat (i := j + 1) (by omega) ?_
      conv => whnf
      try (refine condK_of rfl ?_)
      refine (part_agg (l := mL P' W' n) (l2 := encP (P' (j + 1))) (by first | rfl | simp only [killC_d]) (by first | omega | (simp only [szs]; omega)) (hmp) ?_)
      conv => whnf
      repeat ((first | refine bF ?_ | refine bT ?_ | refine dK (by kernel_rfl) ?_ | refine cK rfl ?_ | refine cK (by first | decide | omega) ?_ | refine wK (by omega) (by omega) ?_); conv => whnf)
      refine bcase_f (by simp) ?_
      conv => whnf
      repeat ((first | refine bF ?_ | refine bT ?_ | refine dK (by kernel_rfl) ?_ | refine cK rfl ?_ | refine cK (by first | decide | omega) ?_ | refine wK (by omega) (by omega) ?_); conv => whnf)
      exact ⟨j + 1, by omega, by omega, (le0 (le_of_cov ⟨rfl, rfl, rfl, rfl, rfl, rfl, trivial⟩ ⟨rfl, rfl, rfl, trivial⟩ ⟨rfl, rfl, rfl, rfl⟩))⟩
  have ej : j = 16 := by omega
  subst ej
  repeat ((first | refine bF ?_ | refine bT ?_ | refine dK (by kernel_rfl) ?_ | refine cK rfl ?_ | refine cK (by first | decide | omega) ?_ | refine wK (by omega) (by omega) ?_); conv => whnf)
  exact ⟨(k + 1, ⟨q.f, q.d, 3 * ((k : Int) + 1)⟩, P', W'), ⟨by simp only []; omega, by simp only []; omega, by simp only [Int.natCast_succ]; rw [← Int.add_assoc]; exact iq2, by simp only []; omega, qlen⟩, by simp only []; omega, (le0 (le_of_cov ⟨rfl, rfl, rfl, rfl, trivial⟩ ⟨rfl, rfl, trivial⟩ ⟨rfl, rfl, rfl, rfl⟩))⟩
end Go.Lk

