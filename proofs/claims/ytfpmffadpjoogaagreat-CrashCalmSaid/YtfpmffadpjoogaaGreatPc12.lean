/-
  What is proved here: what functions of the program compute, and what follows; no condition beyond each theorem's own.
-/
import Derived.Test.YtfpmffadpjoogaaGreatPc11
set_option linter.unusedSimpArgs false
set_option linter.unusedVariables false
set_option linter.unnecessarySimpa false
set_option linter.unusedSectionVars false
namespace Go.Lk
open Go Go.Proofs Go.RowKit

/-- a trial over a disk at rest -/
structure Calm (p : PS) : Prop where
  fm : FM p.f
  rest : Rest p.d.sec
  ca : p.d.ca = []
  z : p.d.sec[0]?.getD ByteArray.empty = nul16
  now : p.now = 0
theorem Calm.d {p : PS} (h : Calm p) : p.d = ⟨p.d.sec, []⟩ := by
  have := h.ca
  cases hp : p.d with
  | mk s c =>
    rw [hp] at this
    simp only at this
    subst this; rfl
theorem Calm.of {p P W v u} (h : Inv p P W v u) (h0 : p.now = 0) : Calm p := ⟨h.pj.fm, h.pj.rest, h.pj.ca, h.pj.z0, h0⟩
theorem Calm.gd {p : PS} (h : Calm p) : Gd 0 p := ⟨h.fm, by rw [h.d]; exact h.rest.us, h.now⟩
theorem Calm.anew {p : PS} (h : Calm p) : Calm ⟨newFS p.f.fr.length, p.d, 0⟩ := ⟨FM.new h.fm.fl.1 h.fm.fl.2, h.rest, h.ca, h.z, rfl⟩
theorem Calm.cd {p : PS} (h : Calm p) (keep : List Int) : crashD p.d keep = p.d := by
  rw [h.d]; exact crashD_rest h.rest keep
theorem Calm.reopen {p : PS} (h : Calm p) : reopenT (tsOf p) p.d = tsOf ⟨newFS p.f.fr.length, p.d, 0⟩ := by
  rw [(GT.reopen h.gd.t h.gd.us h.ca).2]
  show (⟨⟨newFS p.f.fr.length, recM p.d, p.now⟩, 0, false, false⟩ : TS) = _
  have hr : recM p.d = p.d := by
    rw [h.d]; exact rec_rest h.rest h.z
  rw [hr, h.now]
  rfl
theorem Calm.crash {p : PS} (h : Calm p) (keep : List Int) : crashT (tsOf p) keep = tsOf ⟨newFS p.f.fr.length, p.d, 0⟩ := by
  rw [crashT]
  show reopenT (tsOf p) (crashD p.d keep) = _
  rw [h.cd keep, h.reopen]
theorem Calm.repair {p : PS} (h : Calm p) : repairM p.d = [] := by
  rw [repairM, if_pos h.gd.us, if_pos]
  rw [h.d]
  exact h.z
theorem Calm.cut {p : PS} (h : Calm p) (keep : List Int) (n : Int) (keeps : List Int) : cutT (tsOf p) keep n keeps = tsOf ⟨newFS p.f.fr.length, p.d, 0⟩ := by
  rw [cutT]
  show reopenT (tsOf p) (crashD (runM (crashD p.d keep) (repairM (crashD p.d keep)) n) keeps) = _
  rw [h.cd keep, h.repair, show runM p.d [] n = p.d by rw [runM, List.take_nil]; rfl, h.cd keeps, h.reopen]
/-- nobody is pinned in new frames -/
theorem read_new {n : Nat} (h1 : 1 ≤ n) (h8 : n ≤ 8) (d : DS) {id : Nat} (i1 : 1 ≤ id) (i16 : id ≤ 16) (b : ByteArray) : poolDo ⟨newFS n, d, 0⟩ (3, (id : Int), b) = (⟨newFS n, d, 0⟩, zP, [], 12) := by
  have hf : findF (newFS n) (id : Int) = (0, false) := findF_no (FM.new h1 h8) (fun i hi g => by
    have hi2 : i < (List.replicate n ((0, 0, false) : Fr)).length := hi
    have g2 : ((List.replicate n ((0, 0, false) : Fr))[i]'hi2).1 = (id : Int) := g
    rw [List.getElem_replicate] at g2
    have g3 : (0 : Int) = (id : Int) := g2
    omega) (by omega)
  rw [do_pinned (by omega) (by omega) (.inl rfl), pinnedM, if_pos (.inl (by show (findF (newFS n) (id : Int)).2 = false; rw [hf]))]
set_option maxRecDepth 100000 in
set_option maxHeartbeats 8000000 in
theorem crashCalm_ok (many : Int) (m0 : 0 ≤ many) (m1 : many ≤ 255) (acts : List PAct) (keep : List Int) (n2 : Int) (keeps : List Int) : ACall Tryz.prog 13 [.int .u8 many, .lst (acts.map encPA), .lst (keep.map encN), .int .i64 n2, .lst (keeps.map encN)] (.bool true) := by
  obtain ⟨n, hn⟩ : ∃ n : Nat, 1 + many % 8 = (n : Int) := ⟨(1 + many % 8).toNat, by omega⟩
  have hm : (acts.map encPA).length = acts.length := List.length_map ..
  have hm2 : (keep.map encN).length = keep.length := List.length_map ..
  have hm3 : (keeps.map encN).length = keeps.length := List.length_map ..
  have hst : Inv (start n []) (newG []).2 (fun _ => 0) 1073741824 0 := start_inv [] (n := n) (by omega) (by omega)
  have cb := beginW_ok many m0 m1 [] n hn
  have hN : ∀ q : Nat, (begL (newG []).2 q).length ≤ 1 := begL_len _
  refine acall_of Tryz.func13 5 rfl (by kernel_rfl) ?_
  conv => whnf
  repeat ((first | refine bF ?_ | refine bT ?_ | refine dK ?_ | refine cR ?_ | refine cK ?_ | refine wK ?_); conv => whnf)
  refine bcase_p (fun h1 => ?_) (fun h1 => ?_) <;> conv => whnf
  · refine callX_pure awake17_ok ?_
    conv => whnf
    repeat ((first | refine bF ?_ | refine bT ?_ | refine dK ?_ | refine cR ?_ | refine cK ?_ | refine wK ?_); conv => whnf)
    exact ret_of rfl rfl
  repeat ((first | refine bF ?_ | refine bT ?_ | refine dK ?_ | refine cR ?_ | refine cK ?_ | refine wK ?_); conv => whnf)
  refine bcase_p (fun h2 => ?_) (fun h2 => ?_) <;> conv => whnf
  · refine callX_pure awake17_ok ?_
    conv => whnf
    repeat ((first | refine bF ?_ | refine bT ?_ | refine dK ?_ | refine cR ?_ | refine cK ?_ | refine wK ?_); conv => whnf)
    exact ret_of rfl rfl
  repeat ((first | refine bF ?_ | refine bT ?_ | refine dK ?_ | refine cR ?_ | refine cK ?_ | refine wK ?_); conv => whnf)
  refine bcase_p (fun h3 => ?_) (fun h3 => ?_) <;> conv => whnf
  · refine callX_pure awake17_ok ?_
    conv => whnf
    repeat ((first | refine bF ?_ | refine bT ?_ | refine dK ?_ | refine cR ?_ | refine cK ?_ | refine wK ?_); conv => whnf)
    exact ret_of rfl rfl
  repeat ((first | refine bF ?_ | refine bT ?_ | refine dK ?_ | refine cR ?_ | refine cK ?_ | refine wK ?_); conv => whnf)
  refine callX_pure cb ?_
  conv => whnf
  repeat ((first | refine bF ?_ | refine bT ?_ | refine dK ?_ | refine cR ?_ | refine cK ?_ | refine wK ?_); conv => whnf)
  refine aloop (ι := Nat × PS × (Nat → Pg) × (Nat → Int) × (Nat → List Pg)) (fun k => [(2, .d (.lst (keep.map encN))), (3, .d (.int .i64 n2)), (4, .d (.lst (keeps.map encN))), (11, .ptr 11 0 0), (43, .d (.lst (acts.map encPA))), (44, .d (.int .i64 (acts.map encPA).length)), (45, .d (.int .i64 k.1))])
    (fun k => [(11, .box ((wD (tsOf k.2.1) k.2.2.1 k.2.2.2.1 n k.2.2.2.2).map AV.d) false)])
    (fun k => k.1 ≤ acts.length ∧ Inv k.2.1 k.2.2.1 k.2.2.2.1 (1073741824 + k.1) k.1 ∧ k.2.1.now = 0 ∧ k.2.1.f.fr.length = n ∧ ∀ q, (k.2.2.2.2 q).length ≤ 1 + k.1) (fun k => acts.length - k.1)
    (0, start n [], (newG []).2, (fun _ => 0), begL (newG []).2) ⟨Nat.zero_le _, hst, rfl, start_len n [], hN⟩ (le0 (le_of_cov ⟨rfl, rfl, rfl, rfl, rfl, rfl, rfl, trivial⟩ ⟨rfl, trivial⟩ ⟨rfl, rfl, rfl, rfl⟩)) ?_
  rintro ⟨k, p, P, W, L⟩ ⟨hk, hI, h0, hlen, hL⟩
  simp only at hk hI h0 hlen hL ⊢
  conv => whnf
  refine bcase_p (fun h5 => ?_) (fun h5 => ?_) <;> conv => whnf
  · have hk2 : k < acts.length := by omega
    repeat ((first | refine bF ?_ | refine bT ?_ | refine dK ?_ | refine cR ?_ | refine cK ?_ | refine wK ?_); conv => whnf)
    refine idxK_nat (by omega) ?_
    conv => whnf
    refine getRow_of (x := encPA acts[k]) (by simp [hk2]) ?_
    conv => whnf
    repeat ((first | refine bF ?_ | refine bT ?_ | refine dK ?_ | refine cR ?_ | refine cK ?_ | refine wK ?_); conv => whnf)
    refine bcase_p (fun h6 => ?_) (fun h6 => ?_) <;> conv => whnf
    · repeat ((first | refine bF ?_ | refine bT ?_ | refine dK ?_ | refine cR ?_ | refine cK ?_ | refine wK ?_); conv => whnf)
      refine callX_pure awake17_ok ?_
      conv => whnf
      repeat ((first | refine bF ?_ | refine bT ?_ | refine dK ?_ | refine cR ?_ | refine cK ?_ | refine wK ?_); conv => whnf)
      exact ret_of rfl rfl
    obtain ⟨q2, P2, W2, x2, l2, e2, f2, i2, n2', len2, run2, _, _, c2⟩ := actW_ok hI h0 (by omega) (by omega) (by omega) (by omega) acts[k] hlen L (fun q => Nat.le_trans (hL q) (by omega))
    repeat ((first | refine bF ?_ | refine bT ?_ | refine dK ?_ | refine cR ?_ | refine cK ?_ | refine wK ?_); conv => whnf)
    refine callX_pure c2 ?_
    conv => whnf
    repeat ((first | refine bF ?_ | refine bT ?_ | refine dK ?_ | refine cR ?_ | refine cK ?_ | refine wK ?_); conv => whnf)
    exact ⟨(k + 1, q2, P2, W2, pastL L P2 acts[k] e2), ⟨by simp only []; omega, i2.mono (by simp only []; omega) (by simp only []; omega), n2', len2, fun q => by have := pastL_len (P := P2) (a := acts[k]) (e := e2) hL q; simp only []; omega⟩, by simp only []; omega, (le0 (le_of_cov ⟨rfl, rfl, rfl, rfl, rfl, rfl, rfl, trivial⟩ ⟨rfl, trivial⟩ ⟨rfl, rfl, rfl, rfl⟩))⟩
  have hC := Calm.of hI h0
  have cA := crashT_ok (tsOf p) keep (by omega)
  rw [hC.crash keep] at cA
  have cB := cutT_ok (tsOf p) keep n2 keeps (by omega) (by omega)
  rw [hC.cut keep n2 keeps] at cB
  have hC2 := hC.anew
  have cC := crashT_ok (tsOf ⟨newFS p.f.fr.length, p.d, 0⟩) [] (by decide)
  rw [hC2.crash [], show (newFS p.f.fr.length).fr.length = p.f.fr.length from List.length_replicate ..] at cC
  have s1 : p.d.sec.length ≤ 1000 := by have := hC.gd.us.dr.s2; omega
  have s2 : p.d.ca.length ≤ 1000 := by have := hC.gd.us.dr.c1; omega
  obtain ⟨f1, f8⟩ := hC.fm.fl
  repeat ((first | refine bF ?_ | refine bT ?_ | refine dK ?_ | refine cR ?_ | refine cK ?_ | refine wK ?_); conv => whnf)
  refine callX_pure cA ?_
  conv => whnf
  repeat ((first | refine bF ?_ | refine bT ?_ | refine dK ?_ | refine cR ?_ | refine cK ?_ | refine wK ?_); conv => whnf)
  refine callX_pure cB ?_
  conv => whnf
  repeat ((first | refine bF ?_ | refine bT ?_ | refine dK ?_ | refine cR ?_ | refine cK ?_ | refine wK ?_); conv => whnf)
  refine callX_pure cC ?_
  conv => whnf
  repeat ((first | refine bF ?_ | refine bT ?_ | refine dK ?_ | refine cR ?_ | refine cK ?_ | refine wK ?_); conv => whnf)
  refine aloop (ι := Nat) (fun j => [(11, .ptr 11 0 0), (15, .ptr 15 0 0), (16, .ptr 16 0 0), (17, .ptr 17 0 0), (18, .d (.int .i64 ((j : Int) + 1)))])
    (fun j => [(11, .box ((wD (tsOf p) P W n L).map AV.d) false), (15, .box ((tsOf ⟨newFS p.f.fr.length, p.d, 0⟩).cells.map AV.d) false), (16, .box ((tsOf ⟨newFS p.f.fr.length, p.d, 0⟩).cells.map AV.d) false), (17, .box ((tsOf ⟨newFS p.f.fr.length, p.d, 0⟩).cells.map AV.d) false)])
    (fun j => j ≤ 16) (fun j => 16 - j) 0 (Nat.zero_le _) (le0 (le_of_cov ⟨rfl, rfl, rfl, rfl, rfl, trivial⟩ ⟨rfl, rfl, rfl, rfl, trivial⟩ ⟨rfl, rfl, rfl, rfl⟩)) ?_
  intro j hj
  conv => whnf
  refine bcase_p (fun h7 => ?_) (fun h7 => ?_) <;> conv => whnf
  · have cR := hC2.gd.t.ok (by decide) (3, ((j + 1 : Nat) : Int), ByteArray.empty)
    rw [doT_of (read_new f1 f8 p.d (id := j + 1) (by omega) (by omega) ByteArray.empty)] at cR
    repeat ((first | refine bF ?_ | refine bT ?_ | refine dK ?_ | refine cR ?_ | refine cK ?_ | refine wK ?_); conv => whnf)
    refine callX_pure cR ?_
    conv => whnf
    repeat ((first | refine bF ?_ | refine bT ?_ | refine dK ?_ | refine cR ?_ | refine cK ?_ | refine wK ?_); conv => whnf)
    exact ⟨j + 1, by omega, by omega, (le0 (le_of_cov ⟨rfl, rfl, rfl, rfl, rfl, trivial⟩ ⟨rfl, rfl, rfl, rfl, trivial⟩ ⟨rfl, rfl, rfl, rfl⟩))⟩
  repeat ((first | refine bF ?_ | refine bT ?_ | refine dK ?_ | refine cR ?_ | refine cK ?_ | refine wK ?_); conv => whnf)
  refine callX_pure (rsameD_ok p.d p.d s1 s2) ?_
  conv => whnf
  repeat ((first | refine bF ?_ | refine bT ?_ | refine dK ?_ | refine cR ?_ | refine cK ?_ | refine wK ?_); conv => whnf)
  refine bcase_t (by simp) ?_
  conv => whnf
  repeat ((first | refine bF ?_ | refine bT ?_ | refine dK ?_ | refine cR ?_ | refine cK ?_ | refine wK ?_); conv => whnf)
  refine callX_pure (rsameD_ok p.d p.d s1 s2) ?_
  conv => whnf
  repeat ((first | refine bF ?_ | refine bT ?_ | refine dK ?_ | refine cR ?_ | refine cK ?_ | refine wK ?_); conv => whnf)
  refine bcase_t (by simp) ?_
  conv => whnf
  repeat ((first | refine bF ?_ | refine bT ?_ | refine dK ?_ | refine cR ?_ | refine cK ?_ | refine wK ?_); conv => whnf)
  refine callX_pure (rsameD_ok p.d p.d s1 s2) ?_
  conv => whnf
  repeat ((first | refine bF ?_ | refine bT ?_ | refine dK ?_ | refine cR ?_ | refine cK ?_ | refine wK ?_); conv => whnf)
  refine bcase_t (by simp) ?_
  conv => whnf
  repeat ((first | refine bF ?_ | refine bT ?_ | refine dK ?_ | refine cR ?_ | refine cK ?_ | refine wK ?_); conv => whnf)
  refine callX_pure awake17_ok ?_
  conv => whnf
  repeat ((first | refine bF ?_ | refine bT ?_ | refine dK ?_ | refine cR ?_ | refine cK ?_ | refine wK ?_); conv => whnf)
  exact ret_of rfl rfl
end Go.Lk

