/-
  What is proved here: what functions of the program compute, and what follows; no condition beyond each theorem's own.
-/
import Derived.Test.YtfpmffadpjoogaaGreatPc10
set_option linter.unusedSimpArgs false
set_option linter.unusedVariables false
set_option linter.unnecessarySimpa false
set_option linter.unusedSectionVars false
namespace Go.Lk
open Go Go.Proofs Go.RowKit

theorem do1_free {p : PS} (h : FM p.f) (hf : ∃ i, ∃ hi : i < p.f.fr.length, p.f.fr[i].1 = 0) {id : Int} (h1 : 1 ≤ id) (h16 : id ≤ 16) (b : ByteArray) : (poolDo p (1, id, b)).2.2.1 = [] := by
  have hm := make_free h hf
  rw [do_fetch h1 h16, poolFetch]
  split
  · split <;> rfl
  split
  · rfl
  · rw [poolLoad, hm]
    split
    · rfl
    split <;> rfl
def n4 : Pg := (4, 9, { data := #[111, 108, 100] })
theorem n4_ok : pgR n4 = true := pgR_out.2 ⟨by decide, by decide, by decide, by decide, by decide⟩
theorem newG_4 : newG [n4] = (putD (List.replicate 35 nul16) n4, ud (fun _ => zP) 4 n4) := by
  show newStep new0 n4 = _
  rw [newStep, if_pos ⟨n4_ok, by decide⟩]
  rfl
theorem newG_4get : getR (newG [n4]).1 4 = (n4, 0) := by
  have hI := NI.ofG [n4]
  have := hI.on.dsk 4 (by decide) (by decide) (fun _ h => by cases h)
  rw [this, newG_4]
  rfl
theorem begL_len (P : Nat → Pg) (q : Nat) : (begL P q).length ≤ 1 := by
  rw [begL]; split <;> simp
theorem start_free (n : Nat) (h : 1 ≤ n) (pages : List Pg) : ∃ i, ∃ hi : i < (start n pages).f.fr.length, (start n pages).f.fr[i].1 = 0 := by
  have hl : (start n pages).f.fr.length = n := List.length_replicate ..
  refine ⟨0, by omega, ?_⟩
  have hi2 : 0 < (List.replicate n ((0, 0, false) : Fr)).length := by rw [List.length_replicate]; omega
  show ((List.replicate n ((0, 0, false) : Fr))[0]'hi2).1 = _
  rw [List.getElem_replicate]
theorem start_len (n : Nat) (pages : List Pg) : (start n pages).f.fr.length = n := List.length_replicate ..
/-- a crash at rest -/
theorem crashT_rest {p P W v u} (h : Inv p P W v u) (h0 : p.now = 0) (keep : List Int) : crashT (tsOf p) keep = tsOf ⟨newFS p.f.fr.length, p.d, 0⟩ := by
  have hG : GT 0 (tsOf p) := Gd.t ⟨h.pj.fm, by rw [h.pj.d]; exact h.pj.rest.us, h0⟩
  have hc : crashD p.d keep = p.d := by
    rw [h.pj.d]; exact crashD_rest h.pj.rest keep
  have h1 := crashD_us hG.gd.us keep
  rw [crashT, (hG.reopen h1.1 h1.2).2]
  show (⟨⟨newFS p.f.fr.length, recM (crashD p.d keep), p.now⟩, 0, false, false⟩ : TS) = _
  have hr : recM p.d = p.d := by
    rw [h.pj.d]; exact rec_rest h.pj.rest h.pj.z0
  rw [hc, hr, h0]
  rfl
set_option maxRecDepth 100000 in
set_option maxHeartbeats 8000000 in
theorem crashLoses_ok (many : Int) (m0 : 0 ≤ many) (m1 : many ≤ 255) (bodies : List ByteArray) (keep : List Int) : ACall Tryz.prog 12 [.int .u8 many, .lst (bodies.map encB), .lst (keep.map encN)] (.bool true) := by
  obtain ⟨n, hn⟩ : ∃ n : Nat, 1 + (1 + many % 7) % 8 = (n : Int) := ⟨(1 + (1 + many % 7) % 8).toNat, by omega⟩
  have hm : (bodies.map encB).length = bodies.length := List.length_map ..
  have hm2 : (keep.map encN).length = keep.length := List.length_map ..
  have hst := start_inv [n4] (n := n) (by omega) (by omega)
  have cb := beginW_ok (1 + many % 7) (by omega) (by omega) [n4] n hn
  have hN : ∀ q : Nat, (begL (newG [n4]).2 q).length ≤ 1 := begL_len _
  have hst' : Inv (start n [n4]) (newG [n4]).2 (fun _ => 0) 1073741824 0 := hst
  obtain ⟨q1, P1, W1, x1, l1, e1, f1, i1, n1, len1, run1, _, _, c1⟩ := actW_ok hst' rfl (by decide) (by decide) (by decide) (by decide) (1, 4, ByteArray.empty) (start_len n [n4]) (begL (newG [n4]).2) (fun q => Nat.le_trans (hN q) (by decide))
  have hl1 : l1 = [] := by
    have := do1_free hst'.pj.fm (start_free n (by omega) [n4]) (id := 4) (by decide) (by decide) ByteArray.empty
    rw [f1] at this; exact this
  subst hl1
  have hd1 : q1.d = ⟨(newG [n4]).1, []⟩ := run1.symm
  refine acall_of Tryz.func12 3 rfl (by kernel_rfl) ?_
  conv => whnf
  repeat ((first | refine bF ?_ | refine bT ?_ | refine dK ?_ | refine cR ?_ | refine cK ?_ | refine wK ?_); conv => whnf)
  refine divK_rem (by decide) m0 ?_
  conv => whnf
  refine wrapK_in (u8in (by omega) (by omega)) ?_
  conv => whnf
  repeat ((first | refine bF ?_ | refine bT ?_ | refine dK ?_ | refine cR ?_ | refine cK ?_ | refine wK ?_); conv => whnf)
  refine callX_pure cb ?_
  conv => whnf
  repeat ((first | refine bF ?_ | refine bT ?_ | refine dK ?_ | refine cR ?_ | refine cK ?_ | refine wK ?_); conv => whnf)
  refine bcase_p (fun h1 => ?_) (fun h1 => ?_) <;> conv => whnf
  · repeat ((first | refine bF ?_ | refine bT ?_ | refine dK ?_ | refine cR ?_ | refine cK ?_ | refine wK ?_); conv => whnf)
    refine callX_pure awake17_ok ?_
    conv => whnf
    repeat ((first | refine bF ?_ | refine bT ?_ | refine dK ?_ | refine cR ?_ | refine cK ?_ | refine wK ?_); conv => whnf)
    exact ret_of rfl rfl
  repeat ((first | refine bF ?_ | refine bT ?_ | refine dK ?_ | refine cR ?_ | refine cK ?_ | refine wK ?_); conv => whnf)
  refine bcase_p (fun h2 => ?_) (fun h2 => ?_) <;> conv => whnf
  · repeat ((first | refine bF ?_ | refine bT ?_ | refine dK ?_ | refine cR ?_ | refine cK ?_ | refine wK ?_); conv => whnf)
    refine callX_pure awake17_ok ?_
    conv => whnf
    repeat ((first | refine bF ?_ | refine bT ?_ | refine dK ?_ | refine cR ?_ | refine cK ?_ | refine wK ?_); conv => whnf)
    exact ret_of rfl rfl
  repeat ((first | refine bF ?_ | refine bT ?_ | refine dK ?_ | refine cR ?_ | refine cK ?_ | refine wK ?_); conv => whnf)
  refine callX_pure c1 ?_
  conv => whnf
  repeat ((first | refine bF ?_ | refine bT ?_ | refine dK ?_ | refine cR ?_ | refine cK ?_ | refine wK ?_); conv => whnf)
  have hlp : ∀ q, (pastL (begL (newG [n4]).2) P1 (1, 4, ByteArray.empty) e1 q).length ≤ 2 := pastL_len hN
  refine aloop (ι := Nat × PS × (Nat → Pg) × (Nat → Int) × (Nat → List Pg)) (fun k => [(2, .d (.lst (keep.map encN))), (7, .ptr 7 0 0), (46, .d (.lst (bodies.map encB))), (47, .d (.int .i64 (bodies.map encB).length)), (48, .d (.int .i64 k.1))])
    (fun k => [(7, .box ((wD (tsOf k.2.1) k.2.2.1 k.2.2.2.1 n k.2.2.2.2).map AV.d) false)])
    (fun k => k.1 ≤ bodies.length ∧ Inv k.2.1 k.2.2.1 k.2.2.2.1 (1073741825 + k.1) (1 + k.1) ∧ k.2.1.now = 0 ∧ k.2.1.f.fr.length = n ∧ k.2.1.d = ⟨(newG [n4]).1, []⟩ ∧ ∀ q, (k.2.2.2.2 q).length ≤ 2 + k.1) (fun k => bodies.length - k.1)
    (0, q1, P1, W1, pastL (begL (newG [n4]).2) P1 (1, 4, ByteArray.empty) e1) ⟨Nat.zero_le _, i1, n1, len1, hd1, hlp⟩ (le0 (le_of_cov ⟨rfl, rfl, rfl, rfl, rfl, trivial⟩ ⟨rfl, trivial⟩ ⟨rfl, rfl, rfl, rfl⟩)) ?_
  rintro ⟨k, p, P, W, L⟩ ⟨hk, hI, h0, hlen, hd, hL⟩
  simp only at hk hI h0 hlen hd hL ⊢
  conv => whnf
  refine bcase_p (fun h5 => ?_) (fun h5 => ?_) <;> conv => whnf
  · have hk2 : k < bodies.length := by omega
    repeat ((first | refine bF ?_ | refine bT ?_ | refine dK ?_ | refine cR ?_ | refine cK ?_ | refine wK ?_); conv => whnf)
    refine idxK_nat (by omega) ?_
    conv => whnf
    refine getRow_of (x := encB bodies[k]) (by simp [hk2]) ?_
    conv => whnf
    repeat ((first | refine bF ?_ | refine bT ?_ | refine dK ?_ | refine cR ?_ | refine cK ?_ | refine wK ?_); conv => whnf)
    refine bcase_p (fun h6 => ?_) (fun h6 => ?_) <;> conv => whnf
    · repeat ((first | refine bF ?_ | refine bT ?_ | refine dK ?_ | refine cR ?_ | refine cK ?_ | refine wK ?_); conv => whnf)
      refine callX_pure awake17_ok ?_
      conv => whnf
      repeat ((first | refine bF ?_ | refine bT ?_ | refine dK ?_ | refine cR ?_ | refine cK ?_ | refine wK ?_); conv => whnf)
      exact ret_of rfl rfl
    obtain ⟨q2, P2, W2, x2, l2, e2, f2, i2, n2, len2, run2, _, _, c2⟩ := actW_ok hI h0 (by omega) (by omega) (by omega) (by omega) (4, 4, bodies[k]) hlen L (fun q => Nat.le_trans (hL q) (by omega))
    have hl2 : l2 = [] := by
      have := do345 (p := p) (k := 4) (id := 4) (b := bodies[k]) (by decide) (by decide) (.inr (.inl rfl))
      rw [f2] at this; exact this
    subst hl2
    have hd2 : q2.d = ⟨(newG [n4]).1, []⟩ := run2.symm.trans hd
    repeat ((first | refine bF ?_ | refine bT ?_ | refine dK ?_ | refine cR ?_ | refine cK ?_ | refine wK ?_); conv => whnf)
    refine callX_pure c2 ?_
    conv => whnf
    repeat ((first | refine bF ?_ | refine bT ?_ | refine dK ?_ | refine cR ?_ | refine cK ?_ | refine wK ?_); conv => whnf)
    exact ⟨(k + 1, q2, P2, W2, pastL L P2 (4, 4, bodies[k]) e2), ⟨by simp only []; omega, i2.mono (by simp only []; omega) (by simp only []; omega), n2, len2, hd2, fun q => by have := pastL_len (P := P2) (a := (4, 4, bodies[k])) (e := e2) hL q; simp only []; omega⟩, by simp only []; omega, (le0 (le_of_cov ⟨rfl, rfl, rfl, rfl, rfl, trivial⟩ ⟨rfl, trivial⟩ ⟨rfl, rfl, rfl, rfl⟩))⟩
  have cC := crashT_ok (tsOf p) keep (by omega)
  rw [crashT_rest hI h0, hd] at cC
  have cg := rgetS_ok ⟨(newG [n4]).1, []⟩ 4
  rw [show getS ⟨(newG [n4]).1, []⟩ 4 = (n4, 0) from (getS_rest (NI.ofG [n4]).rest (p := 4) (by decide) (by decide)).trans newG_4get] at cg
  repeat ((first | refine bF ?_ | refine bT ?_ | refine dK ?_ | refine cR ?_ | refine cK ?_ | refine wK ?_); conv => whnf)
  refine callX_pure cC ?_
  conv => whnf
  repeat ((first | refine bF ?_ | refine bT ?_ | refine dK ?_ | refine cR ?_ | refine cK ?_ | refine wK ?_); conv => whnf)
  refine callX_pure cg ?_
  conv => whnf
  repeat ((first | refine bF ?_ | refine bT ?_ | refine dK ?_ | refine cR ?_ | refine cK ?_ | refine wK ?_); conv => whnf)
  refine callX_pure awake17_ok ?_
  conv => whnf
  repeat ((first | refine bF ?_ | refine bT ?_ | refine dK ?_ | refine cR ?_ | refine cK ?_ | refine wK ?_); conv => whnf)
  exact ret_of rfl rfl
end Go.Lk

