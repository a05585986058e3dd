/-
  What is proved here: what the laws of the table compute, for every input.
-/
import Derived.Test.YtjbhlhfdkhdmjaaTc
set_option linter.unusedSectionVars false
set_option linter.unusedSimpArgs false
set_option linter.unusedVariables false
set_option linter.unnecessarySimpa false
namespace Go.Lk
open Go Go.Proofs Go.RowKit

theorem put_val {l : Slots} {p f : Int} {i : Nat} (h : RT l) (hf : fitsB p f = true) (hpl : (placeT l p).2 = false) (hff : ffree l (homeN p) 0 16 = some i) : putS l p f = (l.set i (p, f), 0) := by
  rw [putS, if_neg (by simp [rightB_t.2 h, hf]), if_neg (by simp [hpl]), hff]
def w0 : Slots := List.replicate 16 (0, 0)
def w1 : Slots := w0.set 1 (1, 5)
def w2 : Slots := w1.set 2 (17, 6)
def w3 : Slots := w0.set 1 (17, 6)
theorem w1_rt : 1 < 16 ∧ freeB (at' w0 1) = true ∧ RT w1 ∧ Cut w1 := put_rt (l := w0) (p := 1) (f := 5) (i := 1) new_rt rfl (by decide) rfl
theorem w2_rt : 2 < 16 ∧ freeB (at' w1 2) = true ∧ RT w2 ∧ Cut w2 := put_rt (l := w1) (p := 17) (f := 6) (i := 2) w1_rt.2.2.1 rfl (by decide) rfl
theorem w3_eq : delG (w2.set 1 (0, 0)) 1 1 15 = w3 := by decide
theorem w3_rt : RT w3 := by
  obtain ⟨z, hz⟩ := w2_rt.2.2.2
  have := (del_rt (l := w2) (a := 1) w2_rt.2.2.1 hz (by decide) rfl).rt
  rw [w3_eq] at this; exact this
theorem del_w2 : delS w2 1 = (w3, 0) := by
  have hpl := place_at (l := w2) (p := 1) (j := 1) w2_rt.2.2.1 (by decide) (by decide) rfl
  rw [delS, if_neg (by simp [rightB_t.2 w2_rt.2.2.1]), if_neg (by simp [hpl.1]), hpl.2, ← w3_eq]; rfl

theorem awake_ok : ACall Try.prog 8 [] (.bool true) := by
  refine acall_of Try.func8 0 rfl (by kernel_rfl) ?_
  conv => whnf
  refine callX_pure new_ok ?_
  conv => whnf
  repeat (first | (refine bcase_f rfl ?_; conv => whnf) | (refine bcase_t rfl ?_; conv => whnf) | (refine condK_of rfl ?_; conv => whnf) | (refine condK_of (by decide) ?_; conv => whnf) | (refine condK_of (by omega) ?_; conv => whnf) | (refine wrapK_in (w64 (by omega) (by omega)) ?_; conv => whnf))
  refine callX_pure (d := .tup [encT w1, .int .i64 0]) (by have h := put_ok w0 1 5 (by decide); rw [put_val (l := w0) (i := 1) new_rt rfl rfl rfl] at h; exact h) ?_
  conv => whnf
  repeat (first | (refine bcase_f rfl ?_; conv => whnf) | (refine bcase_t rfl ?_; conv => whnf) | (refine condK_of rfl ?_; conv => whnf) | (refine condK_of (by decide) ?_; conv => whnf) | (refine condK_of (by omega) ?_; conv => whnf) | (refine wrapK_in (w64 (by omega) (by omega)) ?_; conv => whnf))
  refine callX_pure (d := .tup [encT w2, .int .i64 0]) (by have h := put_ok w1 17 6 (by decide); rw [put_val (i := 2) w1_rt.2.2.1 rfl rfl rfl] at h; exact h) ?_
  conv => whnf
  repeat (first | (refine bcase_f rfl ?_; conv => whnf) | (refine bcase_t rfl ?_; conv => whnf) | (refine condK_of rfl ?_; conv => whnf) | (refine condK_of (by decide) ?_; conv => whnf) | (refine condK_of (by omega) ?_; conv => whnf) | (refine wrapK_in (w64 (by omega) (by omega)) ?_; conv => whnf))
  refine callX_pure (d := .tup [encT w3, .int .i64 0]) (by have h := del_ok w2 1 (by decide); rw [del_w2] at h; exact h) ?_
  conv => whnf
  repeat (first | (refine bcase_f rfl ?_; conv => whnf) | (refine bcase_t rfl ?_; conv => whnf) | (refine condK_of rfl ?_; conv => whnf) | (refine condK_of (by decide) ?_; conv => whnf) | (refine condK_of (by omega) ?_; conv => whnf) | (refine wrapK_in (w64 (by omega) (by omega)) ?_; conv => whnf))
  refine callX_pure (d := .tup [.int .i64 6, .bool true]) (by have h := find_ok w3 17 (by decide); rw [find_yes (j := 1) w3_rt (by decide) (by decide) rfl] at h; exact h) ?_
  conv => whnf
  repeat (first | (refine bcase_f rfl ?_; conv => whnf) | (refine bcase_t rfl ?_; conv => whnf) | (refine condK_of rfl ?_; conv => whnf) | (refine condK_of (by decide) ?_; conv => whnf) | (refine condK_of (by omega) ?_; conv => whnf) | (refine wrapK_in (w64 (by omega) (by omega)) ?_; conv => whnf))
  refine idxK_nat (i := 2) (by decide) ?_
  conv => whnf
  refine getRow_of (x := encI (17, 6)) rfl ?_
  conv => whnf
  repeat (first | (refine bcase_f rfl ?_; conv => whnf) | (refine bcase_t rfl ?_; conv => whnf) | (refine condK_of rfl ?_; conv => whnf) | (refine condK_of (by decide) ?_; conv => whnf) | (refine condK_of (by omega) ?_; conv => whnf) | (refine wrapK_in (w64 (by omega) (by omega)) ?_; conv => whnf))
  refine idxK_nat (i := 1) (by decide) ?_
  conv => whnf
  refine getRow_of (x := encI (17, 6)) rfl ?_
  conv => whnf
  repeat (first | (refine bcase_f rfl ?_; conv => whnf) | (refine bcase_t rfl ?_; conv => whnf) | (refine condK_of rfl ?_; conv => whnf) | (refine condK_of (by decide) ?_; conv => whnf) | (refine condK_of (by omega) ?_; conv => whnf) | (refine wrapK_in (w64 (by omega) (by omega)) ?_; conv => whnf))
  exact ret_of rfl rfl
end Go.Lk

set_option linter.unusedSimpArgs false
set_option linter.unusedVariables false
set_option linter.unnecessarySimpa false
namespace Go.Lk
open Go Go.Proofs Go.RowKit

def enc2 (x : Int × Int) : List D := [.int .u8 x.1, .int .u8 x.2]
def cellI (n : Int) : AV := .d (.int .i64 n)
theorem killC_cellI (b : Nat) : ∀ (l : List Int), killB.cells b (l.map cellI) = l.map cellI
  | [] => rfl
  | x :: r => by rw [List.map_cons, killB.cells, killC_cellI b r]; rfl

theorem tableKeeps_ok (acts : List (Int × Int)) (ha : ∀ x ∈ acts, (0 ≤ x.1 ∧ x.1 ≤ 255) ∧ 0 ≤ x.2 ∧ x.2 ≤ 255) (hlen : acts.length ≤ 9223372036854775807) :
    ACall Try.prog 4 [.lst (acts.map enc2)] (.bool true) := by
  refine acall_of Try.func4 1 rfl (by kernel_rfl) ?_
  conv => whnf
  have hm : (acts.map enc2).length = acts.length := List.length_map ..
  refine callX_pure new_ok ?_
  conv => whnf
  repeat (first | (refine bcase_f rfl ?_; conv => whnf) | (refine bcase_t rfl ?_; conv => whnf) | (refine condK_of rfl ?_; conv => whnf) | (refine condK_of (by decide) ?_; conv => whnf) | (refine condK_of (by omega) ?_; conv => whnf) | (refine wrapK_in (w64 (by omega) (by omega)) ?_; conv => whnf))
  refine aloop (ι := Nat × Slots × List Int × Nat) (fun i => [(0, .d (.lst (acts.map enc2))), (3, .ptr 3 0 0), (4, .ptr 4 0 0), (5, .d (.int .i64 i.2.2.2)), (6, .d (.int .i64 i.1))]) (fun i => [(3, .box [.d (encIs i.2.1)] false), (4, .box (i.2.2.1.map cellI) false)])
    (fun i => i.1 ≤ acts.length ∧ i.1 ≤ 100 ∧ TInv i.1 i.2.1 i.2.2.1 i.2.2.2) (fun i => 100 - i.1) (0, List.replicate 16 (0, 0), List.replicate 65 0, 0) ⟨Nat.zero_le _, by decide, TInv.new⟩ (le0 (le_of_cov ⟨rfl, rfl, rfl, rfl, rfl, trivial⟩ ⟨rfl, rfl, trivial⟩ ⟨rfl, rfl, rfl, rfl⟩)) ?_
  rintro ⟨k, l, want, many⟩ ⟨hk, hk100, hI⟩
  simp only at hk hk100 hI ⊢
  have hl16 : l.length = 16 := hI.rt.len
  have hmany : many ≤ 16 := by have := hI.many; have := cnt_le (l := l); omega
  have hend : ACall Try.prog 9 [encT l] (encNs (pagesS l)) := pages_ok l (by omega)
  have hpl : ((pagesS l).map enc1).length = many := by rw [List.length_map, pages_len hI.rt, hI.many]
  conv => whnf
  refine bcase_p (fun h => ?_) (fun h => ?_) <;> conv => whnf
  · refine bcase_p (fun h2 => ?_) (fun h2 => ?_) <;> conv => whnf
    · have hk2 : k < acts.length := by omega
      obtain ⟨⟨b0, b1⟩, c0, c1⟩ := ha _ (List.getElem_mem hk2)
      refine idxK_nat (by omega) ?_
      conv => whnf
      refine getRow_of (x := enc2 acts[k]) (by simp [hk2]) ?_
      conv => whnf
      repeat (first | (refine bcase_f rfl ?_; conv => whnf) | (refine bcase_t rfl ?_; conv => whnf) | (refine condK_of rfl ?_; conv => whnf) | (refine condK_of (by decide) ?_; conv => whnf) | (refine condK_of (by omega) ?_; conv => whnf) | (refine wrapK_in (w64 (by omega) (by omega)) ?_; conv => whnf))
      refine idxK_nat (i := 0) (by decide) ?_
      conv => whnf
      repeat (first | (refine bcase_f rfl ?_; conv => whnf) | (refine bcase_t rfl ?_; conv => whnf) | (refine condK_of rfl ?_; conv => whnf) | (refine condK_of (by decide) ?_; conv => whnf) | (refine condK_of (by omega) ?_; conv => whnf) | (refine wrapK_in (w64 (by omega) (by omega)) ?_; conv => whnf))
      refine divK_rem (by decide) b0 ?_
      conv => whnf
      refine wrapK_in (w64 (by omega) (by omega)) ?_
      conv => whnf
      repeat (first | (refine bcase_f rfl ?_; conv => whnf) | (refine bcase_t rfl ?_; conv => whnf) | (refine condK_of rfl ?_; conv => whnf) | (refine condK_of (by decide) ?_; conv => whnf) | (refine condK_of (by omega) ?_; conv => whnf) | (refine wrapK_in (w64 (by omega) (by omega)) ?_; conv => whnf))
      refine idxK_nat (by omega) ?_
      conv => whnf
      refine getRow_of (x := enc2 acts[k]) (by simp [hk2]) ?_
      conv => whnf
      repeat (first | (refine bcase_f rfl ?_; conv => whnf) | (refine bcase_t rfl ?_; conv => whnf) | (refine condK_of rfl ?_; conv => whnf) | (refine condK_of (by decide) ?_; conv => whnf) | (refine condK_of (by omega) ?_; conv => whnf) | (refine wrapK_in (w64 (by omega) (by omega)) ?_; conv => whnf))
      refine idxK_nat (i := 1) (by decide) ?_
      conv => whnf
      repeat (first | (refine bcase_f rfl ?_; conv => whnf) | (refine bcase_t rfl ?_; conv => whnf) | (refine condK_of rfl ?_; conv => whnf) | (refine condK_of (by decide) ?_; conv => whnf) | (refine condK_of (by omega) ?_; conv => whnf) | (refine wrapK_in (w64 (by omega) (by omega)) ?_; conv => whnf))
      refine divK_rem (by decide) c0 ?_
      conv => whnf
      obtain ⟨pn, hpn⟩ : ∃ pn : Nat, 1 + acts[k].1 % 64 = (pn : Int) := ⟨(1 + acts[k].1 % 64).toNat, by omega⟩
      rw [hpn]
      have p0 : 1 ≤ pn := by omega
      have p1 : pn ≤ 64 := by omega
      obtain ⟨f, hf⟩ := hI.at_ (p := pn) p1
      have hg : (want.map cellI)[0 + pn * (T 3).size]? = some (cellI f) := by
        rw [show 0 + pn * (T 3).size = pn from by rw [show (T 3).size = 1 from rfl]; omega, List.getElem?_map, hf]; rfl
      have hcl : (want.map cellI).length = 65 := by rw [List.length_map, hI.len]
      have hz : 0 + pn * (T 3).size = pn := by rw [show (T 3).size = 1 from rfl]; omega
      refine bcase_p (fun h3 => ?_) (fun h3 => ?_) <;> conv => whnf
      · repeat (first | (refine bcase_f rfl ?_; conv => whnf) | (refine bcase_t rfl ?_; conv => whnf) | (refine condK_of rfl ?_; conv => whnf) | (refine condK_of (by decide) ?_; conv => whnf) | (refine condK_of (by omega) ?_; conv => whnf) | (refine wrapK_in (w64 (by omega) (by omega)) ?_; conv => whnf))
        refine callX_pure (put_ok l pn ((k : Int) + 1) (by omega)) ?_
        conv => whnf
        repeat (first | (refine bcase_f rfl ?_; conv => whnf) | (refine bcase_t rfl ?_; conv => whnf) | (refine condK_of rfl ?_; conv => whnf) | (refine condK_of (by decide) ?_; conv => whnf) | (refine condK_of (by omega) ?_; conv => whnf) | (refine wrapK_in (w64 (by omega) (by omega)) ?_; conv => whnf))
        rcases hI.put (by omega) p0 p1 hf with ⟨⟨f0, m16⟩, e1, hI'⟩ | ⟨hno, e1, hI'⟩
        · rw [e1]
          generalize (putS l pn ((k : Int) + 1)).1 = l' at hI' ⊢
          subst f0
          refine idxK_nat (by omega) ?_
          conv => whnf
          refine condK_of rfl ?_
          rw [killC_cellI]
          refine getC_of hg ?_
          conv => whnf
          repeat (first | (refine bcase_f rfl ?_; conv => whnf) | (refine bcase_t rfl ?_; conv => whnf) | (refine condK_of rfl ?_; conv => whnf) | (refine condK_of (by decide) ?_; conv => whnf) | (refine condK_of (by omega) ?_; conv => whnf) | (refine wrapK_in (w64 (by omega) (by omega)) ?_; conv => whnf))
          refine bcase_f (by simp; omega) ?_
          conv => whnf
          refine bcase_t (by simp; omega) ?_
          conv => whnf
          repeat (first | (refine bcase_f rfl ?_; conv => whnf) | (refine bcase_t rfl ?_; conv => whnf) | (refine condK_of rfl ?_; conv => whnf) | (refine condK_of (by decide) ?_; conv => whnf) | (refine condK_of (by omega) ?_; conv => whnf) | (refine wrapK_in (w64 (by omega) (by omega)) ?_; conv => whnf))
          refine idxK_nat (by omega) ?_
          conv => whnf
          refine condK_of rfl ?_
          rw [killC_cellI]
          refine bif_of rfl (bif_of rfl (bif_of (by rw [hz, hcl, Nat.ble_eq, show (T 3).size = 1 from rfl]; omega) ?_))
          rw [hz]
          conv => whnf
          have hset : (want.map cellI).set pn (.d (.int .i64 ((k : Int) + 1))) = (want.set pn ((k : Int) + 1)).map cellI := by rw [List.map_set]; rfl
          have hr' := rightB_t.2 hI'.rt
          have hl16' := hI'.rt.len
          repeat (first | (refine bcase_f rfl ?_; conv => whnf) | (refine bcase_t rfl ?_; conv => whnf) | (refine condK_of rfl ?_; conv => whnf) | (refine condK_of (by decide) ?_; conv => whnf) | (refine condK_of (by omega) ?_; conv => whnf) | (refine wrapK_in (w64 (by omega) (by omega)) ?_; conv => whnf))
          refine callX_pure (right_ok l' (by omega)) ?_
          conv => whnf
          refine bcase_f (by rw [hr']; rfl) ?_
          conv => whnf
          refine aloop (ι := Nat) (fun q => [(0, .d (.lst (acts.map enc2))), (3, .ptr 3 0 0), (4, .ptr 4 0 0), (5, .d (.int .i64 ((many + 1) : Nat))), (6, .d (.int .i64 k)), (13, .d (.int .i64 ((q : Int) + 1)))]) (fun _ => [(3, .box [.d (encIs l')] false), (4, .box ((want.set pn ((k : Int) + 1)).map cellI) false)])
            (fun q => q ≤ 64) (fun q => 64 - q) 0 (Nat.zero_le _) (le0 (le_of_cov ⟨rfl, rfl, rfl, rfl, rfl, rfl, trivial⟩ ⟨rfl, by rw [← hset]; rfl, trivial⟩ ⟨rfl, rfl, rfl, rfl⟩)) ?_
          intro r hr
          conv => whnf
          refine bcase_p (fun h8 => ?_) (fun h8 => ?_) <;> conv => whnf
          · have hr3 : r + 1 ≤ 64 := by omega
            obtain ⟨t', ht1, ht2⟩ := hI'.find (p := r + 1) (by omega) hr3
            rw [Int.natCast_succ] at ht2
            repeat (first | (refine bcase_f rfl ?_; conv => whnf) | (refine bcase_t rfl ?_; conv => whnf) | (refine condK_of rfl ?_; conv => whnf) | (refine condK_of (by decide) ?_; conv => whnf) | (refine condK_of (by omega) ?_; conv => whnf) | (refine wrapK_in (w64 (by omega) (by omega)) ?_; conv => whnf))
            refine callX_pure (d := .tup [.int .i64 t', .bool (decide (t' ≠ 0))]) (by have h := find_ok l' ((r : Int) + 1) (by omega); rw [ht2] at h; exact h) ?_
            conv => whnf
            have hg : ((want.set pn ((k : Int) + 1)).map cellI)[0 + (r + 1) * (T 3).size]? = some (cellI t') := by
              rw [show 0 + (r + 1) * (T 3).size = r + 1 from by rw [show (T 3).size = 1 from rfl]; omega, List.getElem?_map, ht1]; rfl
            refine idxK_nat (i := r + 1) (by omega) ?_
            conv => whnf
            refine condK_of rfl ?_
            refine getC_of hg ?_
            conv => whnf
            refine bcase_f (by simp) ?_
            conv => whnf
            refine idxK_nat (i := r + 1) (by omega) ?_
            conv => whnf
            refine condK_of rfl ?_
            refine getC_of hg ?_
            conv => whnf
            refine bcase_f (by simp) ?_
            conv => whnf
            repeat (first | (refine bcase_f rfl ?_; conv => whnf) | (refine bcase_t rfl ?_; conv => whnf) | (refine condK_of rfl ?_; conv => whnf) | (refine condK_of (by decide) ?_; conv => whnf) | (refine condK_of (by omega) ?_; conv => whnf) | (refine wrapK_in (w64 (by omega) (by omega)) ?_; conv => whnf))
            exact ⟨r + 1, by omega, by omega, le0 (le_of_cov ⟨rfl, rfl, rfl, rfl, rfl, rfl, trivial⟩ ⟨rfl, rfl, trivial⟩ ⟨rfl, rfl, rfl, rfl⟩)⟩
          repeat (first | (refine bcase_f rfl ?_; conv => whnf) | (refine bcase_t rfl ?_; conv => whnf) | (refine condK_of rfl ?_; conv => whnf) | (refine condK_of (by decide) ?_; conv => whnf) | (refine condK_of (by omega) ?_; conv => whnf) | (refine wrapK_in (w64 (by omega) (by omega)) ?_; conv => whnf))
          exact ⟨(k + 1, l', (want.set pn ((k : Int) + 1)), (many + 1)), ⟨by simp only []; omega, by simp only []; omega, hI'⟩, by simp only []; omega, le0 (le_of_cov ⟨rfl, rfl, rfl, rfl, rfl, trivial⟩ ⟨rfl, rfl, trivial⟩ ⟨rfl, rfl, rfl, rfl⟩)⟩
        · generalize (putS l pn ((k : Int) + 1)).1 = l' at hI' ⊢
          generalize (putS l pn ((k : Int) + 1)).2 = e at e1 ⊢
          refine idxK_nat (by omega) ?_
          conv => whnf
          refine condK_of rfl ?_
          rw [killC_cellI]
          refine getC_of hg ?_
          conv => whnf
          refine bcase_p (fun h4 => ?_) (fun h4 => ?_) <;> conv => whnf
          · refine bcase_f (by simp; omega) ?_
            conv => whnf
            refine bcase_f (by simp; omega) ?_
            conv => whnf
            have hr' := rightB_t.2 hI'.rt
            have hl16' := hI'.rt.len
            repeat (first | (refine bcase_f rfl ?_; conv => whnf) | (refine bcase_t rfl ?_; conv => whnf) | (refine condK_of rfl ?_; conv => whnf) | (refine condK_of (by decide) ?_; conv => whnf) | (refine condK_of (by omega) ?_; conv => whnf) | (refine wrapK_in (w64 (by omega) (by omega)) ?_; conv => whnf))
            refine callX_pure (right_ok l' (by omega)) ?_
            conv => whnf
            refine bcase_f (by rw [hr']; rfl) ?_
            conv => whnf
            refine aloop (ι := Nat) (fun q => [(0, .d (.lst (acts.map enc2))), (3, .ptr 3 0 0), (4, .ptr 4 0 0), (5, .d (.int .i64 (many : Nat))), (6, .d (.int .i64 k)), (13, .d (.int .i64 ((q : Int) + 1)))]) (fun _ => [(3, .box [.d (encIs l')] false), (4, .box (want.map cellI) false)])
              (fun q => q ≤ 64) (fun q => 64 - q) 0 (Nat.zero_le _) (le0 (le_of_cov ⟨rfl, rfl, rfl, rfl, rfl, rfl, trivial⟩ ⟨rfl, by show some (Blk.box (killB.cells 8 (want.map cellI)) false) = _; rw [killC_cellI], trivial⟩ ⟨rfl, rfl, rfl, rfl⟩)) ?_
            intro r hr
            conv => whnf
            refine bcase_p (fun h8 => ?_) (fun h8 => ?_) <;> conv => whnf
            · have hr3 : r + 1 ≤ 64 := by omega
              obtain ⟨t', ht1, ht2⟩ := hI'.find (p := r + 1) (by omega) hr3
              rw [Int.natCast_succ] at ht2
              repeat (first | (refine bcase_f rfl ?_; conv => whnf) | (refine bcase_t rfl ?_; conv => whnf) | (refine condK_of rfl ?_; conv => whnf) | (refine condK_of (by decide) ?_; conv => whnf) | (refine condK_of (by omega) ?_; conv => whnf) | (refine wrapK_in (w64 (by omega) (by omega)) ?_; conv => whnf))
              refine callX_pure (d := .tup [.int .i64 t', .bool (decide (t' ≠ 0))]) (by have h := find_ok l' ((r : Int) + 1) (by omega); rw [ht2] at h; exact h) ?_
              conv => whnf
              have hg : (want.map cellI)[0 + (r + 1) * (T 3).size]? = some (cellI t') := by
                rw [show 0 + (r + 1) * (T 3).size = r + 1 from by rw [show (T 3).size = 1 from rfl]; omega, List.getElem?_map, ht1]; rfl
              refine idxK_nat (i := r + 1) (by omega) ?_
              conv => whnf
              refine condK_of rfl ?_
              refine getC_of hg ?_
              conv => whnf
              refine bcase_f (by simp) ?_
              conv => whnf
              refine idxK_nat (i := r + 1) (by omega) ?_
              conv => whnf
              refine condK_of rfl ?_
              refine getC_of hg ?_
              conv => whnf
              refine bcase_f (by simp) ?_
              conv => whnf
              repeat (first | (refine bcase_f rfl ?_; conv => whnf) | (refine bcase_t rfl ?_; conv => whnf) | (refine condK_of rfl ?_; conv => whnf) | (refine condK_of (by decide) ?_; conv => whnf) | (refine condK_of (by omega) ?_; conv => whnf) | (refine wrapK_in (w64 (by omega) (by omega)) ?_; conv => whnf))
              exact ⟨r + 1, by omega, by omega, le0 (le_of_cov ⟨rfl, rfl, rfl, rfl, rfl, rfl, trivial⟩ ⟨rfl, rfl, trivial⟩ ⟨rfl, rfl, rfl, rfl⟩)⟩
            repeat (first | (refine bcase_f rfl ?_; conv => whnf) | (refine bcase_t rfl ?_; conv => whnf) | (refine condK_of rfl ?_; conv => whnf) | (refine condK_of (by decide) ?_; conv => whnf) | (refine condK_of (by omega) ?_; conv => whnf) | (refine wrapK_in (w64 (by omega) (by omega)) ?_; conv => whnf))
            exact ⟨(k + 1, l', want, many), ⟨by simp only []; omega, by simp only []; omega, hI'⟩, by simp only []; omega, le0 (le_of_cov ⟨rfl, rfl, rfl, rfl, rfl, trivial⟩ ⟨rfl, rfl, trivial⟩ ⟨rfl, rfl, rfl, rfl⟩)⟩
          · repeat (first | (refine bcase_f rfl ?_; conv => whnf) | (refine bcase_t rfl ?_; conv => whnf) | (refine condK_of rfl ?_; conv => whnf) | (refine condK_of (by decide) ?_; conv => whnf) | (refine condK_of (by omega) ?_; conv => whnf) | (refine wrapK_in (w64 (by omega) (by omega)) ?_; conv => whnf))
            refine bcase_f (by simp; omega) ?_
            conv => whnf
            have hr' := rightB_t.2 hI'.rt
            have hl16' := hI'.rt.len
            repeat (first | (refine bcase_f rfl ?_; conv => whnf) | (refine bcase_t rfl ?_; conv => whnf) | (refine condK_of rfl ?_; conv => whnf) | (refine condK_of (by decide) ?_; conv => whnf) | (refine condK_of (by omega) ?_; conv => whnf) | (refine wrapK_in (w64 (by omega) (by omega)) ?_; conv => whnf))
            refine callX_pure (right_ok l' (by omega)) ?_
            conv => whnf
            refine bcase_f (by rw [hr']; rfl) ?_
            conv => whnf
            refine aloop (ι := Nat) (fun q => [(0, .d (.lst (acts.map enc2))), (3, .ptr 3 0 0), (4, .ptr 4 0 0), (5, .d (.int .i64 (many : Nat))), (6, .d (.int .i64 k)), (13, .d (.int .i64 ((q : Int) + 1)))]) (fun _ => [(3, .box [.d (encIs l')] false), (4, .box (want.map cellI) false)])
              (fun q => q ≤ 64) (fun q => 64 - q) 0 (Nat.zero_le _) (le0 (le_of_cov ⟨rfl, rfl, rfl, rfl, rfl, rfl, trivial⟩ ⟨rfl, by show some (Blk.box (killB.cells 8 (want.map cellI)) false) = _; rw [killC_cellI], trivial⟩ ⟨rfl, rfl, rfl, rfl⟩)) ?_
            intro r hr
            conv => whnf
            refine bcase_p (fun h8 => ?_) (fun h8 => ?_) <;> conv => whnf
            · have hr3 : r + 1 ≤ 64 := by omega
              obtain ⟨t', ht1, ht2⟩ := hI'.find (p := r + 1) (by omega) hr3
              rw [Int.natCast_succ] at ht2
              repeat (first | (refine bcase_f rfl ?_; conv => whnf) | (refine bcase_t rfl ?_; conv => whnf) | (refine condK_of rfl ?_; conv => whnf) | (refine condK_of (by decide) ?_; conv => whnf) | (refine condK_of (by omega) ?_; conv => whnf) | (refine wrapK_in (w64 (by omega) (by omega)) ?_; conv => whnf))
              refine callX_pure (d := .tup [.int .i64 t', .bool (decide (t' ≠ 0))]) (by have h := find_ok l' ((r : Int) + 1) (by omega); rw [ht2] at h; exact h) ?_
              conv => whnf
              have hg : (want.map cellI)[0 + (r + 1) * (T 3).size]? = some (cellI t') := by
                rw [show 0 + (r + 1) * (T 3).size = r + 1 from by rw [show (T 3).size = 1 from rfl]; omega, List.getElem?_map, ht1]; rfl
              refine idxK_nat (i := r + 1) (by omega) ?_
              conv => whnf
              refine condK_of rfl ?_
              refine getC_of hg ?_
              conv => whnf
              refine bcase_f (by simp) ?_
              conv => whnf
              refine idxK_nat (i := r + 1) (by omega) ?_
              conv => whnf
              refine condK_of rfl ?_
              refine getC_of hg ?_
              conv => whnf
              refine bcase_f (by simp) ?_
              conv => whnf
              repeat (first | (refine bcase_f rfl ?_; conv => whnf) | (refine bcase_t rfl ?_; conv => whnf) | (refine condK_of rfl ?_; conv => whnf) | (refine condK_of (by decide) ?_; conv => whnf) | (refine condK_of (by omega) ?_; conv => whnf) | (refine wrapK_in (w64 (by omega) (by omega)) ?_; conv => whnf))
              exact ⟨r + 1, by omega, by omega, le0 (le_of_cov ⟨rfl, rfl, rfl, rfl, rfl, rfl, trivial⟩ ⟨rfl, rfl, trivial⟩ ⟨rfl, rfl, rfl, rfl⟩)⟩
            repeat (first | (refine bcase_f rfl ?_; conv => whnf) | (refine bcase_t rfl ?_; conv => whnf) | (refine condK_of rfl ?_; conv => whnf) | (refine condK_of (by decide) ?_; conv => whnf) | (refine condK_of (by omega) ?_; conv => whnf) | (refine wrapK_in (w64 (by omega) (by omega)) ?_; conv => whnf))
            exact ⟨(k + 1, l', want, many), ⟨by simp only []; omega, by simp only []; omega, hI'⟩, by simp only []; omega, le0 (le_of_cov ⟨rfl, rfl, rfl, rfl, rfl, trivial⟩ ⟨rfl, rfl, trivial⟩ ⟨rfl, rfl, rfl, rfl⟩)⟩
      · repeat (first | (refine bcase_f rfl ?_; conv => whnf) | (refine bcase_t rfl ?_; conv => whnf) | (refine condK_of rfl ?_; conv => whnf) | (refine condK_of (by decide) ?_; conv => whnf) | (refine condK_of (by omega) ?_; conv => whnf) | (refine wrapK_in (w64 (by omega) (by omega)) ?_; conv => whnf))
        refine callX_pure (del_ok l pn (by omega)) ?_
        conv => whnf
        repeat (first | (refine bcase_f rfl ?_; conv => whnf) | (refine bcase_t rfl ?_; conv => whnf) | (refine condK_of rfl ?_; conv => whnf) | (refine condK_of (by decide) ?_; conv => whnf) | (refine condK_of (by omega) ?_; conv => whnf) | (refine wrapK_in (w64 (by omega) (by omega)) ?_; conv => whnf))
        rcases hI.del p0 p1 hf with ⟨f0, m1, e1, hI'⟩ | ⟨f0, e1, hI'⟩
        · rw [e1]
          generalize (delS l pn).1 = l' at hI' ⊢
          refine idxK_nat (by omega) ?_
          conv => whnf
          refine condK_of rfl ?_
          rw [killC_cellI]
          refine getC_of hg ?_
          conv => whnf
          refine bcase_f (by simp [f0]) ?_
          conv => whnf
          refine idxK_nat (by omega) ?_
          conv => whnf
          refine condK_of rfl ?_
          rw [killC_cellI]
          refine getC_of hg ?_
          conv => whnf
          refine bcase_t (by simp [f0]) ?_
          conv => whnf
          refine idxK_nat (by omega) ?_
          conv => whnf
          refine condK_of rfl ?_
          rw [killC_cellI]
          refine bif_of rfl (bif_of rfl (bif_of (by rw [hz, hcl, Nat.ble_eq, show (T 3).size = 1 from rfl]; omega) ?_))
          rw [hz]
          conv => whnf
          have hset : (want.map cellI).set pn (.d (.int .i64 0)) = (want.set pn 0).map cellI := by rw [List.map_set]; rfl
          have hm1 : ((many - 1 : Nat) : Int) = (many : Int) - 1 := by omega
          have hr' := rightB_t.2 hI'.rt
          have hl16' := hI'.rt.len
          repeat (first | (refine bcase_f rfl ?_; conv => whnf) | (refine bcase_t rfl ?_; conv => whnf) | (refine condK_of rfl ?_; conv => whnf) | (refine condK_of (by decide) ?_; conv => whnf) | (refine condK_of (by omega) ?_; conv => whnf) | (refine wrapK_in (w64 (by omega) (by omega)) ?_; conv => whnf))
          refine callX_pure (right_ok l' (by omega)) ?_
          conv => whnf
          refine bcase_f (by rw [hr']; rfl) ?_
          conv => whnf
          refine aloop (ι := Nat) (fun q => [(0, .d (.lst (acts.map enc2))), (3, .ptr 3 0 0), (4, .ptr 4 0 0), (5, .d (.int .i64 ((many - 1) : Nat))), (6, .d (.int .i64 k)), (13, .d (.int .i64 ((q : Int) + 1)))]) (fun _ => [(3, .box [.d (encIs l')] false), (4, .box ((want.set pn 0).map cellI) false)])
            (fun q => q ≤ 64) (fun q => 64 - q) 0 (Nat.zero_le _) (le0 (le_of_cov ⟨rfl, rfl, rfl, by rw [hm1]; rfl, rfl, rfl, trivial⟩ ⟨rfl, by rw [← hset]; rfl, trivial⟩ ⟨rfl, rfl, rfl, rfl⟩)) ?_
          intro r hr
          conv => whnf
          refine bcase_p (fun h8 => ?_) (fun h8 => ?_) <;> conv => whnf
          · have hr3 : r + 1 ≤ 64 := by omega
            obtain ⟨t', ht1, ht2⟩ := hI'.find (p := r + 1) (by omega) hr3
            rw [Int.natCast_succ] at ht2
            repeat (first | (refine bcase_f rfl ?_; conv => whnf) | (refine bcase_t rfl ?_; conv => whnf) | (refine condK_of rfl ?_; conv => whnf) | (refine condK_of (by decide) ?_; conv => whnf) | (refine condK_of (by omega) ?_; conv => whnf) | (refine wrapK_in (w64 (by omega) (by omega)) ?_; conv => whnf))
            refine callX_pure (d := .tup [.int .i64 t', .bool (decide (t' ≠ 0))]) (by have h := find_ok l' ((r : Int) + 1) (by omega); rw [ht2] at h; exact h) ?_
            conv => whnf
            have hg : ((want.set pn 0).map cellI)[0 + (r + 1) * (T 3).size]? = some (cellI t') := by
              rw [show 0 + (r + 1) * (T 3).size = r + 1 from by rw [show (T 3).size = 1 from rfl]; omega, List.getElem?_map, ht1]; rfl
            refine idxK_nat (i := r + 1) (by omega) ?_
            conv => whnf
            refine condK_of rfl ?_
            refine getC_of hg ?_
            conv => whnf
            refine bcase_f (by simp) ?_
            conv => whnf
            refine idxK_nat (i := r + 1) (by omega) ?_
            conv => whnf
            refine condK_of rfl ?_
            refine getC_of hg ?_
            conv => whnf
            refine bcase_f (by simp) ?_
            conv => whnf
            repeat (first | (refine bcase_f rfl ?_; conv => whnf) | (refine bcase_t rfl ?_; conv => whnf) | (refine condK_of rfl ?_; conv => whnf) | (refine condK_of (by decide) ?_; conv => whnf) | (refine condK_of (by omega) ?_; conv => whnf) | (refine wrapK_in (w64 (by omega) (by omega)) ?_; conv => whnf))
            exact ⟨r + 1, by omega, by omega, le0 (le_of_cov ⟨rfl, rfl, rfl, rfl, rfl, rfl, trivial⟩ ⟨rfl, rfl, trivial⟩ ⟨rfl, rfl, rfl, rfl⟩)⟩
          repeat (first | (refine bcase_f rfl ?_; conv => whnf) | (refine bcase_t rfl ?_; conv => whnf) | (refine condK_of rfl ?_; conv => whnf) | (refine condK_of (by decide) ?_; conv => whnf) | (refine condK_of (by omega) ?_; conv => whnf) | (refine wrapK_in (w64 (by omega) (by omega)) ?_; conv => whnf))
          exact ⟨(k + 1, l', (want.set pn 0), (many - 1)), ⟨by simp only []; omega, by simp only []; omega, hI'⟩, by simp only []; omega, le0 (le_of_cov ⟨rfl, rfl, rfl, rfl, rfl, trivial⟩ ⟨rfl, rfl, trivial⟩ ⟨rfl, rfl, rfl, rfl⟩)⟩
        · generalize (delS l pn).1 = l' at hI' ⊢
          generalize (delS l pn).2 = e at e1 ⊢
          refine idxK_nat (by omega) ?_
          conv => whnf
          refine condK_of rfl ?_
          rw [killC_cellI]
          refine getC_of hg ?_
          conv => whnf
          refine bcase_f (by simp [f0, e1]) ?_
          conv => whnf
          refine idxK_nat (by omega) ?_
          conv => whnf
          refine condK_of rfl ?_
          rw [killC_cellI]
          refine getC_of hg ?_
          conv => whnf
          refine bcase_f (by simp [f0]) ?_
          conv => whnf
          have hr' := rightB_t.2 hI'.rt
          have hl16' := hI'.rt.len
          repeat (first | (refine bcase_f rfl ?_; conv => whnf) | (refine bcase_t rfl ?_; conv => whnf) | (refine condK_of rfl ?_; conv => whnf) | (refine condK_of (by decide) ?_; conv => whnf) | (refine condK_of (by omega) ?_; conv => whnf) | (refine wrapK_in (w64 (by omega) (by omega)) ?_; conv => whnf))
          refine callX_pure (right_ok l' (by omega)) ?_
          conv => whnf
          refine bcase_f (by rw [hr']; rfl) ?_
          conv => whnf
          refine aloop (ι := Nat) (fun q => [(0, .d (.lst (acts.map enc2))), (3, .ptr 3 0 0), (4, .ptr 4 0 0), (5, .d (.int .i64 (many : Nat))), (6, .d (.int .i64 k)), (13, .d (.int .i64 ((q : Int) + 1)))]) (fun _ => [(3, .box [.d (encIs l')] false), (4, .box (want.map cellI) false)])
            (fun q => q ≤ 64) (fun q => 64 - q) 0 (Nat.zero_le _) (le0 (le_of_cov ⟨rfl, rfl, rfl, rfl, rfl, rfl, trivial⟩ ⟨rfl, by show some (Blk.box (killB.cells 11 (want.map cellI)) false) = _; rw [killC_cellI], trivial⟩ ⟨rfl, rfl, rfl, rfl⟩)) ?_
          intro r hr
          conv => whnf
          refine bcase_p (fun h8 => ?_) (fun h8 => ?_) <;> conv => whnf
          · have hr3 : r + 1 ≤ 64 := by omega
            obtain ⟨t', ht1, ht2⟩ := hI'.find (p := r + 1) (by omega) hr3
            rw [Int.natCast_succ] at ht2
            repeat (first | (refine bcase_f rfl ?_; conv => whnf) | (refine bcase_t rfl ?_; conv => whnf) | (refine condK_of rfl ?_; conv => whnf) | (refine condK_of (by decide) ?_; conv => whnf) | (refine condK_of (by omega) ?_; conv => whnf) | (refine wrapK_in (w64 (by omega) (by omega)) ?_; conv => whnf))
            refine callX_pure (d := .tup [.int .i64 t', .bool (decide (t' ≠ 0))]) (by have h := find_ok l' ((r : Int) + 1) (by omega); rw [ht2] at h; exact h) ?_
            conv => whnf
            have hg : (want.map cellI)[0 + (r + 1) * (T 3).size]? = some (cellI t') := by
              rw [show 0 + (r + 1) * (T 3).size = r + 1 from by rw [show (T 3).size = 1 from rfl]; omega, List.getElem?_map, ht1]; rfl
            refine idxK_nat (i := r + 1) (by omega) ?_
            conv => whnf
            refine condK_of rfl ?_
            refine getC_of hg ?_
            conv => whnf
            refine bcase_f (by simp) ?_
            conv => whnf
            refine idxK_nat (i := r + 1) (by omega) ?_
            conv => whnf
            refine condK_of rfl ?_
            refine getC_of hg ?_
            conv => whnf
            refine bcase_f (by simp) ?_
            conv => whnf
            repeat (first | (refine bcase_f rfl ?_; conv => whnf) | (refine bcase_t rfl ?_; conv => whnf) | (refine condK_of rfl ?_; conv => whnf) | (refine condK_of (by decide) ?_; conv => whnf) | (refine condK_of (by omega) ?_; conv => whnf) | (refine wrapK_in (w64 (by omega) (by omega)) ?_; conv => whnf))
            exact ⟨r + 1, by omega, by omega, le0 (le_of_cov ⟨rfl, rfl, rfl, rfl, rfl, rfl, trivial⟩ ⟨rfl, rfl, trivial⟩ ⟨rfl, rfl, rfl, rfl⟩)⟩
          repeat (first | (refine bcase_f rfl ?_; conv => whnf) | (refine bcase_t rfl ?_; conv => whnf) | (refine condK_of rfl ?_; conv => whnf) | (refine condK_of (by decide) ?_; conv => whnf) | (refine condK_of (by omega) ?_; conv => whnf) | (refine wrapK_in (w64 (by omega) (by omega)) ?_; conv => whnf))
          exact ⟨(k + 1, l', want, many), ⟨by simp only []; omega, by simp only []; omega, hI'⟩, by simp only []; omega, le0 (le_of_cov ⟨rfl, rfl, rfl, rfl, rfl, trivial⟩ ⟨rfl, rfl, trivial⟩ ⟨rfl, rfl, rfl, rfl⟩)⟩
    · repeat (first | (refine bcase_f rfl ?_; conv => whnf) | (refine bcase_t rfl ?_; conv => whnf) | (refine condK_of rfl ?_; conv => whnf) | (refine condK_of (by decide) ?_; conv => whnf) | (refine condK_of (by omega) ?_; conv => whnf) | (refine wrapK_in (w64 (by omega) (by omega)) ?_; conv => whnf))
      refine callX_pure hend ?_
      conv => whnf
      refine bcase_t (by rw [hpl]; simp) ?_
      conv => whnf
      refine callX_pure awake_ok ?_
      conv => whnf
      exact ret_of rfl rfl
  · repeat (first | (refine bcase_f rfl ?_; conv => whnf) | (refine bcase_t rfl ?_; conv => whnf) | (refine condK_of rfl ?_; conv => whnf) | (refine condK_of (by decide) ?_; conv => whnf) | (refine condK_of (by omega) ?_; conv => whnf) | (refine wrapK_in (w64 (by omega) (by omega)) ?_; conv => whnf))
    refine callX_pure hend ?_
    conv => whnf
    refine bcase_t (by rw [hpl]; simp) ?_
    conv => whnf
    refine callX_pure awake_ok ?_
    conv => whnf
    exact ret_of rfl rfl
end Go.Lk

set_option linter.unusedSimpArgs false
set_option linter.unusedVariables false
set_option linter.unnecessarySimpa false
namespace Go.Lk
open Go Go.RowKit

def MemS (l : Slots) (x : Int × Int) : Prop := ∃ j, j < 16 ∧ at' l j = x
theorem put_gen {l : Slots} {p f : Int} (h : RT l) (hf : fitsB p f = true) (hn : ∀ j, j < 16 → (at' l j).1 ≠ p) (hc : cntS l < 16) :
    ∃ l' i, i < 16 ∧ freeB (at' l i) = true ∧ l' = l.set i (p, f) ∧ putS l p f = (l', 0) ∧ RT l' ∧ Cut l' ∧ cntS l' = cntS l + 1 ∧ ∀ x, freeB x = false → (MemS l' x ↔ x = (p, f) ∨ MemS l x) := by
  have hp := fits_out.1 hf
  have hpl := placeT_no (p := p) (fun j hj => hn j (by rw [h.len] at hj; exact hj))
  cases hff : ffree l (homeN p) 0 16 with
  | none => have := (ffree_full h.len (by omega)).1 hff; omega
  | some i =>
    obtain ⟨hi16, fi, hrt, hcut⟩ := put_rt h hf (fun j hj _ => hn j hj) hff
    have hil : i < l.length := by rw [h.len]; exact hi16
    have hat : ∀ j, at' (l.set i (p, f)) j = if j = i then (p, f) else at' l j := fun j => at_set hil
    refine ⟨_, i, hi16, fi, rfl, put_val h hf hpl hff, hrt, hcut, ?_, fun x hx => ?_⟩
    · have c := cnt_set (x := (p, f)) hil
      rw [fi, fits_nonfree hf] at c
      simp at c
      exact c
    · constructor
      · rintro ⟨j, hj, e⟩
        rw [hat] at e
        by_cases ej : j = i
        · rw [if_pos ej] at e; exact .inl e.symm
        · rw [if_neg ej] at e; exact .inr ⟨j, hj, e⟩
      · rintro (e | ⟨j, hj, e⟩)
        · exact ⟨i, hi16, by rw [hat, if_pos rfl, e]⟩
        · refine ⟨j, hj, ?_⟩
          rw [hat, if_neg (fun e' => by rw [e'] at e; rw [e, hx] at fi; cases fi), e]
theorem put_full {l : Slots} {p f : Int} (h : RT l) (hf : fitsB p f = true) (hn : ∀ j, j < 16 → (at' l j).1 ≠ p) (hc : cntS l = 16) : putS l p f = (l, 7) := by
  have hp := fits_out.1 hf
  have hpl := placeT_no (p := p) (fun j hj => hn j (by rw [h.len] at hj; exact hj))
  rw [putS, if_neg (by simp [rightB_t.2 h, hf]), if_neg (by simp [hpl]), (ffree_full h.len (by omega)).2 hc]
theorem del_gen {l : Slots} {p f : Int} (h : RT l) (hc : Cut l) (hp : 1 ≤ p) (hm : MemS l (p, f)) :
    ∃ l', delS l p = (l', 0) ∧ RT l' ∧ Cut l' ∧ cntS l' + 1 = cntS l ∧ ∀ x, freeB x = false → (MemS l' x ↔ x.1 ≠ p ∧ MemS l x) := by
  obtain ⟨a, ha, e4⟩ := hm
  obtain ⟨hpl, hpa⟩ := place_at h hp ha (by rw [e4])
  have base : delS l p = (delG (l.set a (0, 0)) a a 15, 0) := by
    rw [delS, if_neg (by simp [rightB_t.2 h]), if_neg (by simp [hpl]), hpa]; rfl
  obtain ⟨z, hz⟩ := hc
  have fa : freeB (at' l a) = false := by rw [e4]; exact page_nonfree hp
  have hd := del_rt h hz ha fa
  have hal : a < l.length := by rw [h.len]; exact ha
  have hat : ∀ j, at' (l.set a (0, 0)) j = if j = a then (0, 0) else at' l j := fun j => at_set hal
  have c := cnt_set (x := (0, 0)) hal
  rw [fa, show freeB (0, 0) = true from rfl] at c
  simp at c
  obtain ⟨z', hz', fz'⟩ := hd.free
  refine ⟨_, base, hd.rt, ⟨z', free_cut hd.rt hz' fz'⟩, by have := hd.cnt; omega, fun x hx => ?_⟩
  unfold MemS
  rw [hd.same x hx]
  constructor
  · rintro ⟨j, hj, e⟩
    rw [hat] at e
    by_cases ej : j = a
    · rw [if_pos ej] at e; subst e; cases hx
    · rw [if_neg ej] at e
      refine ⟨fun e5 => ej (h.distinct j a hj ha (by rw [e]; exact hx) fa (by rw [e, e4, e5])), j, hj, e⟩
  · rintro ⟨e5, j, hj, e⟩
    exact ⟨j, hj, by rw [hat, if_neg (fun ej => by rw [ej, e4] at e; subst e; exact e5 rfl)]; exact e⟩

/-! ### put, and deleted -/
theorem set_free {l : Slots} {i : Nat} (hi : i < l.length) (hf : freeB (at' l i) = true) (x : Int × Int) : (l.set i x).set i (0, 0) = l := by
  rw [List.set_set]
  have : at' l i = (0, 0) := Prod.ext (free_out.1 hf).1 (free_out.1 hf).2
  apply List.ext_getElem (by simp)
  intro j h1 h2
  rw [List.getElem_set]
  by_cases e : i = j
  · subst e; rw [if_pos rfl, ← at_eq hi, this]
  · rw [if_neg e]
theorem put_ok0 {l : Slots} {p f : Int} (h : (putS l p f).2 = 0) : RT l ∧ fitsB p f = true ∧ (placeT l p).2 = false ∧ ∃ i, ffree l (homeN p) 0 16 = some i ∧ (putS l p f).1 = l.set i (p, f) := by
  unfold putS at h ⊢
  by_cases h1 : rightB l = false ∨ fitsB p f = false
  · rw [if_pos h1] at h; cases h
  · rw [if_neg h1] at h ⊢
    by_cases h2 : (placeT l p).2 = true
    · rw [if_pos h2] at h; cases h
    · rw [if_neg h2] at h ⊢
      simp at h1 h2
      cases hf : ffree l (homeN p) 0 16 with
      | none => rw [hf] at h; cases h
      | some i => exact ⟨rightB_t.1 h1.1, h1.2, h2, i, rfl, rfl⟩
theorem put_no {l : Slots} {p f : Int} (h : (putS l p f).2 ≠ 0) : (putS l p f).1 = l := by
  unfold putS at h ⊢
  by_cases h1 : rightB l = false ∨ fitsB p f = false
  · rw [if_pos h1]
  · rw [if_neg h1] at h ⊢
    by_cases h2 : (placeT l p).2 = true
    · rw [if_pos h2]
    · rw [if_neg h2] at h ⊢
      cases hf : ffree l (homeN p) 0 16 with
      | none => rfl
      | some i => rw [hf] at h; exact absurd rfl h
theorem put_back {l : Slots} {p f : Int} (h : (putS l p f).2 = 0) : ∃ l1, (putS l p f).1 = l1 ∧ RT l ∧ RT l1 ∧ findS l1 p = (f, true) ∧ delS l1 p = (l, 0) ∧ cntS l1 = cntS l + 1 := by
  obtain ⟨h1, h2, h3, i, h4, h5⟩ := put_ok0 h
  have hp := fits_out.1 h2
  have hn : ∀ j, j < 16 → (at' l j).1 ≠ p := fun j hj e => by
    have := (placeT_iff (l := l) (p := p) (by omega)).2 ⟨j, by rw [h1.len]; exact hj, e⟩
    rw [h3] at this; cases this
  obtain ⟨hi16, fi, hrt, hcut⟩ := put_rt h1 h2 (fun j hj _ => hn j hj) h4
  have hil : i < l.length := by rw [h1.len]; exact hi16
  have hat : at' (l.set i (p, f)) i = (p, f) := by rw [at_set hil, if_pos rfl]
  refine ⟨_, h5, h1, hrt, find_yes hrt (by omega) hi16 hat, ?_, ?_⟩
  · obtain ⟨hpl, hpa⟩ := place_at hrt (p := p) (by omega) hi16 (by rw [hat])
    rw [delS, if_neg (by simp [rightB_t.2 hrt]), if_neg (by simp [hpl]), hpa, Int.toNat_natCast, set_free hil fi, delG_still h1 hi16 fi]
  · have c := cnt_set (x := (p, f)) hil
    rw [fi, fits_nonfree h2] at c
    simp at c
    exact c

/-! ### the pages that are told -/
theorem pages_mem {l : Slots} (h : RT l) {q : Int} (hq : q ∈ pagesS l) : 1 ≤ q ∧ 0 ≤ placeG l q 0 := by
  rw [pagesS, if_neg (by simp [rightB_t.2 h]), sortI, List.mem_mergeSort, List.mem_filterMap] at hq
  obtain ⟨x, hx, e⟩ := hq
  obtain ⟨j, hj, rfl⟩ := List.mem_iff_getElem.1 hx
  rw [← at_eq hj] at e
  have hj16 : j < 16 := by rw [h.len] at hj; exact hj
  cases fj : freeB (at' l j) with
  | true => simp [pageF, fj] at e
  | false =>
    simp [pageF, fj] at e
    exact ⟨by rw [← e]; exact slot_page (h.slots j hj16) fj, placeG_mem.2 ⟨j, hj, e⟩⟩
theorem pages_rise {l : Slots} (h : RT l) : (pagesS l).Pairwise (fun a b => a < b) := by
  rw [pagesS, if_neg (by simp [rightB_t.2 h])]
  have hs : (sortI (l.filterMap pageF)).Pairwise (fun a b => a ≤ b) := by
    have := List.pairwise_mergeSort (le := fun (x y : Int) => decide (x ≤ y)) (fun a b c => by simp; omega) (fun a b => by simp; omega) (l.filterMap pageF)
    exact this.imp_of_mem fun _ _ h => by simpa using h
  have hd : (l.filterMap pageF).Pairwise (fun a b => a ≠ b) := by
    have h0 : l.Pairwise (fun a b => freeB a = false → freeB b = false → a.1 ≠ b.1) := by
      rw [List.pairwise_iff_getElem]
      intro i j hi hj hij fi fj e
      rw [← at_eq hi] at fi e
      rw [← at_eq hj] at fj e
      have := h.distinct i j (by rw [h.len] at hi; exact hi) (by rw [h.len] at hj; exact hj) fi fj e
      omega
    refine List.Pairwise.filterMap pageF (fun a b hab x hx y hy => ?_) h0
    cases fa : freeB a with
    | true => simp [pageF, fa] at hx
    | false =>
      cases fb : freeB b with
      | true => simp [pageF, fb] at hy
      | false =>
        simp [pageF, fa] at hx
        simp [pageF, fb] at hy
        have := hab fa fb
        omega
  have hd' : (sortI (l.filterMap pageF)).Pairwise (fun a b => a ≠ b) := by
    have hp := List.mergeSort_perm (l.filterMap pageF) (fun (x y : Int) => decide (x ≤ y))
    exact (hp.pairwise_iff (fun {a b} h => fun e => h e.symm)).2 hd
  rw [List.pairwise_iff_getElem] at hs hd' ⊢
  intro i j hi hj hij
  have h1 := hs i j hi hj hij
  have h2 := hd' i j hi hj hij
  omega
end Go.Lk

set_option linter.unusedSimpArgs false
set_option linter.unusedVariables false
set_option linter.unnecessarySimpa false
namespace Go.Lk
open Go Go.Proofs Go.RowKit

theorem tableBack_ok (l : Slots) (p f : Int) : ACall Try.prog 5 [encT l, .int .i64 p, .int .i64 f] (.bool true) := by
  refine acall_of Try.func5 3 rfl (by kernel_rfl) ?_
  conv => whnf
  repeat (first | (refine bcase_f rfl ?_; conv => whnf) | (refine bcase_t rfl ?_; conv => whnf) | (refine condK_of rfl ?_; conv => whnf) | (refine condK_of (by decide) ?_; conv => whnf) | (refine condK_of (by omega) ?_; conv => whnf) | (refine wrapK_in (w64 (by omega) (by omega)) ?_; conv => whnf))
  have href (r : Slots) (hr : r.length ≤ 40) : ACall Try.prog 7 [encT r] (.tup [encT r, .bool true]) := by
    have := ref_ok r
    rw [if_pos hr] at this; exact this
  by_cases h1 : l.length ≤ 40
  rotate_left
  · have := ref_ok l
    rw [if_neg h1] at this
    refine callX_pure this ?_
    conv => whnf
    repeat (first | (refine bcase_f rfl ?_; conv => whnf) | (refine bcase_t rfl ?_; conv => whnf) | (refine condK_of rfl ?_; conv => whnf) | (refine condK_of (by decide) ?_; conv => whnf) | (refine condK_of (by omega) ?_; conv => whnf) | (refine wrapK_in (w64 (by omega) (by omega)) ?_; conv => whnf))
    refine callX_pure awake_ok ?_
    conv => whnf
    exact ret_of rfl rfl
  refine callX_pure (href l h1) ?_
  conv => whnf
  repeat (first | (refine bcase_f rfl ?_; conv => whnf) | (refine bcase_t rfl ?_; conv => whnf) | (refine condK_of rfl ?_; conv => whnf) | (refine condK_of (by decide) ?_; conv => whnf) | (refine condK_of (by omega) ?_; conv => whnf) | (refine wrapK_in (w64 (by omega) (by omega)) ?_; conv => whnf))
  refine callX_pure (put_ok l p f (by omega)) ?_
  conv => whnf
  repeat (first | (refine bcase_f rfl ?_; conv => whnf) | (refine bcase_t rfl ?_; conv => whnf) | (refine condK_of rfl ?_; conv => whnf) | (refine condK_of (by decide) ?_; conv => whnf) | (refine condK_of (by omega) ?_; conv => whnf) | (refine wrapK_in (w64 (by omega) (by omega)) ?_; conv => whnf))
  refine bcase_n (fun h2 => ?_) (fun h2 => ?_) <;> conv => whnf
  · rw [put_no h2]
    repeat (first | (refine bcase_f rfl ?_; conv => whnf) | (refine bcase_t rfl ?_; conv => whnf) | (refine condK_of rfl ?_; conv => whnf) | (refine condK_of (by decide) ?_; conv => whnf) | (refine condK_of (by omega) ?_; conv => whnf) | (refine wrapK_in (w64 (by omega) (by omega)) ?_; conv => whnf))
    refine callX_pure (href l h1) ?_
    conv => whnf
    repeat (first | (refine bcase_f rfl ?_; conv => whnf) | (refine bcase_t rfl ?_; conv => whnf) | (refine condK_of rfl ?_; conv => whnf) | (refine condK_of (by decide) ?_; conv => whnf) | (refine condK_of (by omega) ?_; conv => whnf) | (refine wrapK_in (w64 (by omega) (by omega)) ?_; conv => whnf))
    refine callX_pure (same_ok l l (by omega) (by omega)) ?_
    conv => whnf
    refine bcase_t (by simp) ?_
    conv => whnf
    refine callX_pure awake_ok ?_
    conv => whnf
    exact ret_of rfl rfl
  obtain ⟨l1, e1, r0, r1, e2, e3, e4⟩ := put_back h2
  rw [e1]
  have hl0 := r0.len
  have hl1 := r1.len
  repeat (first | (refine bcase_f rfl ?_; conv => whnf) | (refine bcase_t rfl ?_; conv => whnf) | (refine condK_of rfl ?_; conv => whnf) | (refine condK_of (by decide) ?_; conv => whnf) | (refine condK_of (by omega) ?_; conv => whnf) | (refine wrapK_in (w64 (by omega) (by omega)) ?_; conv => whnf))
  refine callX_pure (d := .tup [.int .i64 f, .bool true]) (by have h := find_ok l1 p (by omega); rw [e2] at h; exact h) ?_
  conv => whnf
  repeat (first | (refine bcase_f rfl ?_; conv => whnf) | (refine bcase_t rfl ?_; conv => whnf) | (refine condK_of rfl ?_; conv => whnf) | (refine condK_of (by decide) ?_; conv => whnf) | (refine condK_of (by omega) ?_; conv => whnf) | (refine wrapK_in (w64 (by omega) (by omega)) ?_; conv => whnf))
  refine callX_pure (d := .tup [encT l, .int .i64 0]) (by have h := del_ok l1 p (by omega); rw [e3] at h; exact h) ?_
  conv => whnf
  repeat (first | (refine bcase_f rfl ?_; conv => whnf) | (refine bcase_t rfl ?_; conv => whnf) | (refine condK_of rfl ?_; conv => whnf) | (refine condK_of (by decide) ?_; conv => whnf) | (refine condK_of (by omega) ?_; conv => whnf) | (refine wrapK_in (w64 (by omega) (by omega)) ?_; conv => whnf))
  refine callX_pure (href l h1) ?_
  conv => whnf
  repeat (first | (refine bcase_f rfl ?_; conv => whnf) | (refine bcase_t rfl ?_; conv => whnf) | (refine condK_of rfl ?_; conv => whnf) | (refine condK_of (by decide) ?_; conv => whnf) | (refine condK_of (by omega) ?_; conv => whnf) | (refine wrapK_in (w64 (by omega) (by omega)) ?_; conv => whnf))
  refine callX_pure (same_ok l l (by omega) (by omega)) ?_
  conv => whnf
  repeat (first | (refine bcase_f rfl ?_; conv => whnf) | (refine bcase_t rfl ?_; conv => whnf) | (refine condK_of rfl ?_; conv => whnf) | (refine condK_of (by decide) ?_; conv => whnf) | (refine condK_of (by omega) ?_; conv => whnf) | (refine wrapK_in (w64 (by omega) (by omega)) ?_; conv => whnf))
  refine bcase_t (by simp) ?_
  conv => whnf
  repeat (first | (refine bcase_f rfl ?_; conv => whnf) | (refine bcase_t rfl ?_; conv => whnf) | (refine condK_of rfl ?_; conv => whnf) | (refine condK_of (by decide) ?_; conv => whnf) | (refine condK_of (by omega) ?_; conv => whnf) | (refine wrapK_in (w64 (by omega) (by omega)) ?_; conv => whnf))
  refine bcase_t (by simp) ?_
  conv => whnf
  repeat (first | (refine bcase_f rfl ?_; conv => whnf) | (refine bcase_t rfl ?_; conv => whnf) | (refine condK_of rfl ?_; conv => whnf) | (refine condK_of (by decide) ?_; conv => whnf) | (refine condK_of (by omega) ?_; conv => whnf) | (refine wrapK_in (w64 (by omega) (by omega)) ?_; conv => whnf))
  refine callX_pure (pages_ok l1 (by omega)) ?_
  conv => whnf
  repeat (first | (refine bcase_f rfl ?_; conv => whnf) | (refine bcase_t rfl ?_; conv => whnf) | (refine condK_of rfl ?_; conv => whnf) | (refine condK_of (by decide) ?_; conv => whnf) | (refine condK_of (by omega) ?_; conv => whnf) | (refine wrapK_in (w64 (by omega) (by omega)) ?_; conv => whnf))
  refine callX_pure (pages_ok l (by omega)) ?_
  conv => whnf
  have hp0 := pages_len r0
  have hp1 := pages_len r1
  have hc := cnt_le (l := l)
  have hpl0 : ((pagesS l).map enc1).length = cntS l := by rw [List.length_map, hp0]
  have hpl1 : ((pagesS l1).map enc1).length = cntS l + 1 := by rw [List.length_map, hp1, e4]
  repeat (first | (refine bcase_f rfl ?_; conv => whnf) | (refine bcase_t rfl ?_; conv => whnf) | (refine condK_of rfl ?_; conv => whnf) | (refine condK_of (by decide) ?_; conv => whnf) | (refine condK_of (by omega) ?_; conv => whnf) | (refine wrapK_in (w64 (by omega) (by omega)) ?_; conv => whnf))
  refine bcase_t (by rw [hpl0, hpl1]; simp) ?_
  conv => whnf
  repeat (first | (refine bcase_f rfl ?_; conv => whnf) | (refine bcase_t rfl ?_; conv => whnf) | (refine condK_of rfl ?_; conv => whnf) | (refine condK_of (by decide) ?_; conv => whnf) | (refine condK_of (by omega) ?_; conv => whnf) | (refine wrapK_in (w64 (by omega) (by omega)) ?_; conv => whnf))
  refine callX_pure awake_ok ?_
  conv => whnf
  repeat (first | (refine bcase_f rfl ?_; conv => whnf) | (refine bcase_t rfl ?_; conv => whnf) | (refine condK_of rfl ?_; conv => whnf) | (refine condK_of (by decide) ?_; conv => whnf) | (refine condK_of (by omega) ?_; conv => whnf) | (refine wrapK_in (w64 (by omega) (by omega)) ?_; conv => whnf))
  exact ret_of rfl rfl

/-! ### the document's own -/
theorem cnt_one {l : Slots} (h : RT l) {i : Nat} (hi : i < 16) (fi : freeB (at' l i) = false) : countG l (at' l i).1 = 1 := by
  have hil : i < l.length := by rw [h.len]; exact hi
  have hp := slot_page (h.slots i hi) fi
  have hsplit : l = l.take i ++ (l[i] :: l.drop (i + 1)) := by rw [← List.drop_eq_getElem_cons hil, List.take_append_drop]
  have no (j : Nat) (hj : j < l.length) (hne : j ≠ i) : (l[j].1 == (at' l i).1) = false := by
    simp only [beq_eq_false_iff_ne]
    intro e
    rw [← at_eq hj] at e
    have hj16 : j < 16 := by rw [h.len] at hj; exact hj
    exact hne (h.distinct j i hj16 hi (page_nonfree (by omega)) fi e)
  unfold countG
  rw [hsplit, List.countP_append, List.countP_cons]
  have h1 : (l.take i).countP (fun x => x.1 == (at' l i).1) = 0 := by
    rw [List.countP_eq_zero]
    intro x hx
    obtain ⟨j, hj, rfl⟩ := List.mem_iff_getElem.1 hx
    rw [List.getElem_take]
    simp at hj
    rw [no j (by omega) (by omega)]; simp
  have h2 : (l.drop (i + 1)).countP (fun x => x.1 == (at' l i).1) = 0 := by
    rw [List.countP_eq_zero]
    intro x hx
    obtain ⟨j, hj, rfl⟩ := List.mem_iff_getElem.1 hx
    rw [List.getElem_drop]
    simp at hj
    rw [no (i + 1 + j) (by omega) (by omega)]; simp
  rw [← hsplit, h1, h2, at_eq hil]
  simp
theorem cnt_uniq {l : Slots} {p : Int} (h : countG l p = 1) {i j : Nat} (hij : i < j) (hj : j < l.length) (e1 : (at' l i).1 = p) (e2 : (at' l j).1 = p) : False := by
  have hi : i < l.length := by omega
  rw [at_eq hi] at e1
  rw [at_eq hj] at e2
  unfold countG at h
  rw [← List.take_append_drop j l, List.countP_append] at h
  have h1 : 0 < (l.take j).countP (fun x => x.1 == p) := List.countP_pos_iff.2 ⟨l[i], by
    rw [List.mem_iff_getElem]; exact ⟨i, by simp; omega, by rw [List.getElem_take]⟩, by simp [e1]⟩
  have h2 : 0 < (l.drop j).countP (fun x => x.1 == p) := List.countP_pos_iff.2 ⟨l[j], by
    rw [List.mem_iff_getElem]; exact ⟨0, by simp; omega, by rw [List.getElem_drop]; simp⟩, by simp [e2]⟩
  omega

theorem rright_ok (l : Slots) (hl : l.length ≤ 1000000) : ACall Try.prog 10 [encT l] (.bool (rightB l)) := by
  refine acall_of Try.func10 1 rfl (by kernel_rfl) ?_
  conv => whnf
  have hm : (l.map encI).length = l.length := List.length_map ..
  repeat (first | (refine bcase_f rfl ?_; conv => whnf) | (refine bcase_t rfl ?_; conv => whnf) | (refine condK_of rfl ?_; conv => whnf) | (refine condK_of (by decide) ?_; conv => whnf) | (refine condK_of (by omega) ?_; conv => whnf) | (refine wrapK_in (w64 (by omega) (by omega)) ?_; conv => whnf))
  refine bcase_n (fun h0 => ?_) (fun h0 => ?_) <;> conv => whnf
  · exact ret_of rfl (congrArg D.bool (rightB_f.2 fun h => h0 (by rw [hm, h.len]; rfl)).symm)
  have hlen : l.length = 16 := by omega
  refine aloop (ι := Nat) (fun k => [(1, .ptr 1 0 0), (3, .d (.int .i64 k))]) (fun _ => [(1, .box [.d (encIs l)] false)])
    (fun k => k ≤ 16 ∧ ∀ j, j < k → SlotP (at' l j) ∧ (freeB (at' l j) = false → countG l (at' l j).1 = 1) ∧ PlaceP l j) (fun k => 16 - k) 0 ⟨Nat.zero_le _, fun j h => absurd h (Nat.not_lt_zero _)⟩ (le0 (le_of_cov ⟨rfl, rfl, trivial⟩ ⟨rfl, trivial⟩ ⟨rfl, rfl, rfl, rfl⟩)) ?_
  rintro k ⟨hk, hR⟩
  conv => whnf
  refine bcase_p (fun h => ?_) (fun h => ?_) <;> conv => whnf
  · have hk2 : k < l.length := by omega
    have hat := at_eq hk2
    have hlast (hs : SlotP (at' l k) ∧ (freeB (at' l k) = false → countG l (at' l k).1 = 1) ∧ PlaceP l k) : ∀ j, j < k + 1 → SlotP (at' l j) ∧ (freeB (at' l j) = false → countG l (at' l j).1 = 1) ∧ PlaceP l j := fun j hj => (Nat.lt_succ_iff_lt_or_eq.1 hj).elim (hR j) (fun e => by subst e; exact hs)
    repeat (first | (refine bcase_f rfl ?_; conv => whnf) | (refine bcase_t rfl ?_; conv => whnf) | (refine condK_of rfl ?_; conv => whnf) | (refine condK_of (by decide) ?_; conv => whnf) | (refine condK_of (by omega) ?_; conv => whnf) | (refine wrapK_in (w64 (by omega) (by omega)) ?_; conv => whnf))
    refine idxK_nat (by omega) ?_
    conv => whnf
    refine getRow_of (x := encI l[k]) (by simp [hk2]) ?_
    conv => whnf
    repeat (first | (refine bcase_f rfl ?_; conv => whnf) | (refine bcase_t rfl ?_; conv => whnf) | (refine condK_of rfl ?_; conv => whnf) | (refine condK_of (by decide) ?_; conv => whnf) | (refine condK_of (by omega) ?_; conv => whnf) | (refine wrapK_in (w64 (by omega) (by omega)) ?_; conv => whnf))
    refine bcase_p (fun g1 => ?_) (fun g1 => ?_) <;> conv => whnf
    · repeat (first | (refine bcase_f rfl ?_; conv => whnf) | (refine bcase_t rfl ?_; conv => whnf) | (refine condK_of rfl ?_; conv => whnf) | (refine condK_of (by decide) ?_; conv => whnf) | (refine condK_of (by omega) ?_; conv => whnf) | (refine wrapK_in (w64 (by omega) (by omega)) ?_; conv => whnf))
      refine bcase_p (fun g2 => ?_) (fun g2 => ?_) <;> conv => whnf
      · repeat (first | (refine bcase_f rfl ?_; conv => whnf) | (refine bcase_t rfl ?_; conv => whnf) | (refine condK_of rfl ?_; conv => whnf) | (refine condK_of (by decide) ?_; conv => whnf) | (refine condK_of (by omega) ?_; conv => whnf) | (refine wrapK_in (w64 (by omega) (by omega)) ?_; conv => whnf))
        have hfr : freeB (at' l k) = true := by rw [hat]; simp [freeB, g1, g2]
        exact ⟨k + 1, ⟨by omega, hlast ⟨.inl hfr, fun h => (by rw [hfr] at h; cases h), .inl hfr⟩⟩, by omega, le0 (le_of_cov ⟨rfl, rfl, trivial⟩ ⟨rfl, trivial⟩ ⟨rfl, rfl, rfl, rfl⟩)⟩
      repeat (first | (refine bcase_f rfl ?_; conv => whnf) | (refine bcase_t rfl ?_; conv => whnf) | (refine condK_of rfl ?_; conv => whnf) | (refine condK_of (by decide) ?_; conv => whnf) | (refine condK_of (by omega) ?_; conv => whnf) | (refine wrapK_in (w64 (by omega) (by omega)) ?_; conv => whnf))
      refine bcase_t (by simp; omega) ?_
      conv => whnf
      refine ret_of rfl (congrArg D.bool (rightB_f.2 fun h => ?_).symm)
      have h5 := h.slots k (by omega)
      rw [hat] at h5
      rcases h5 with h5 | h5
      · have := free_out.1 h5; omega
      · have := fits_out.1 h5; omega
    repeat (first | (refine bcase_f rfl ?_; conv => whnf) | (refine bcase_t rfl ?_; conv => whnf) | (refine condK_of rfl ?_; conv => whnf) | (refine condK_of (by decide) ?_; conv => whnf) | (refine condK_of (by omega) ?_; conv => whnf) | (refine wrapK_in (w64 (by omega) (by omega)) ?_; conv => whnf))
    refine bcase_p (fun g2 => ?_) (fun g2 => ?_) <;> conv => whnf
    · refine ret_of rfl (congrArg D.bool (rightB_f.2 fun h => ?_).symm)
      have h5 := h.slots k (by omega)
      rw [hat] at h5
      rcases h5 with h5 | h5
      · have := free_out.1 h5; omega
      · have := fits_out.1 h5; omega
    repeat (first | (refine bcase_f rfl ?_; conv => whnf) | (refine bcase_t rfl ?_; conv => whnf) | (refine condK_of rfl ?_; conv => whnf) | (refine condK_of (by decide) ?_; conv => whnf) | (refine condK_of (by omega) ?_; conv => whnf) | (refine wrapK_in (w64 (by omega) (by omega)) ?_; conv => whnf))
    refine bcase_p (fun g3 => ?_) (fun g3 => ?_) <;> conv => whnf
    · refine ret_of rfl (congrArg D.bool (rightB_f.2 fun h => ?_).symm)
      have h5 := h.slots k (by omega)
      rw [hat] at h5
      rcases h5 with h5 | h5
      · have := free_out.1 h5; omega
      · have := fits_out.1 h5; omega
    repeat (first | (refine bcase_f rfl ?_; conv => whnf) | (refine bcase_t rfl ?_; conv => whnf) | (refine condK_of rfl ?_; conv => whnf) | (refine condK_of (by decide) ?_; conv => whnf) | (refine condK_of (by omega) ?_; conv => whnf) | (refine wrapK_in (w64 (by omega) (by omega)) ?_; conv => whnf))
    refine bcase_p (fun g4 => ?_) (fun g4 => ?_) <;> conv => whnf
    · refine ret_of rfl (congrArg D.bool (rightB_f.2 fun h => ?_).symm)
      have h5 := h.slots k (by omega)
      rw [hat] at h5
      rcases h5 with h5 | h5
      · have := free_out.1 h5; omega
      · have := fits_out.1 h5; omega
    repeat (first | (refine bcase_f rfl ?_; conv => whnf) | (refine bcase_t rfl ?_; conv => whnf) | (refine condK_of rfl ?_; conv => whnf) | (refine condK_of (by decide) ?_; conv => whnf) | (refine condK_of (by omega) ?_; conv => whnf) | (refine wrapK_in (w64 (by omega) (by omega)) ?_; conv => whnf))
    refine bcase_p (fun g5 => ?_) (fun g5 => ?_) <;> conv => whnf
    · refine ret_of rfl (congrArg D.bool (rightB_f.2 fun h => ?_).symm)
      have h5 := h.slots k (by omega)
      rw [hat] at h5
      rcases h5 with h5 | h5
      · have := free_out.1 h5; omega
      · have := fits_out.1 h5; omega
    repeat (first | (refine bcase_f rfl ?_; conv => whnf) | (refine bcase_t rfl ?_; conv => whnf) | (refine condK_of rfl ?_; conv => whnf) | (refine condK_of (by decide) ?_; conv => whnf) | (refine condK_of (by omega) ?_; conv => whnf) | (refine wrapK_in (w64 (by omega) (by omega)) ?_; conv => whnf))
    have hfr : freeB l[k] = false := by simp [freeB]; omega
    have hsl : SlotP (at' l k) := by rw [hat]; exact .inr (fits_out.2 (by omega))
    refine callX_pure (there_ok l l[k].1 (by omega)) ?_
    conv => whnf
    refine bcase_n (fun h3 => ?_) (fun h3 => ?_) <;> conv => whnf
    · refine ret_of rfl (congrArg D.bool (rightB_f.2 fun h => h3 ?_).symm)
      have := cnt_one h (i := k) (by omega) (by rw [hat]; exact hfr)
      rw [hat] at this; omega
    have hc1 : countG l l[k].1 = 1 := by omega
    have hhm : ((homeN l[k].1 : Nat) : Int) = l[k].1 % 16 := by simp [homeN]; omega
    have hh16 : homeN l[k].1 < 16 := by simp [homeN]; omega
    have hw16 : wayN (homeN l[k].1) k < 16 := by simp [wayN]; omega
    have hQk : ∀ j, j < k → (at' l j).1 ≠ (at' l k).1 := fun j hj e => by
      rw [hat] at e; exact cnt_uniq hc1 hj hk2 e (by rw [hat])
    repeat (first | (refine bcase_f rfl ?_; conv => whnf) | (refine bcase_t rfl ?_; conv => whnf) | (refine condK_of rfl ?_; conv => whnf) | (refine condK_of (by decide) ?_; conv => whnf) | (refine condK_of (by omega) ?_; conv => whnf) | (refine wrapK_in (w64 (by omega) (by omega)) ?_; conv => whnf))
    refine aloop (ι := Nat) (fun d => [(1, .ptr 1 0 0), (3, .d (.int .i64 k)), (4, .ptr 4 0 0), (5, .d (.int .i64 d))]) (fun _ => [(1, .box [.d (encIs l)] false), (4, .box [.d (.int .i64 l[k].1), .d (.int .i64 l[k].2)] false)])
      (fun d => d ≤ wayN (homeN l[k].1) k ∧ ∀ d', d' < d → freeB (at' l ((homeN l[k].1 + d') % 16)) = false) (fun d => 16 - d) 0 ⟨Nat.zero_le _, fun j h => absurd h (Nat.not_lt_zero _)⟩ (le0 (le_of_cov ⟨rfl, rfl, rfl, rfl, trivial⟩ ⟨rfl, rfl, trivial⟩ ⟨rfl, rfl, rfl, rfl⟩)) ?_
    rintro d ⟨hd, hD⟩
    conv => whnf
    refine bcase_t (by simp; omega) ?_
    conv => whnf
    repeat (first | (refine bcase_f rfl ?_; conv => whnf) | (refine bcase_t rfl ?_; conv => whnf) | (refine condK_of rfl ?_; conv => whnf) | (refine condK_of (by decide) ?_; conv => whnf) | (refine condK_of (by omega) ?_; conv => whnf) | (refine wrapK_in (w64 (by omega) (by omega)) ?_; conv => whnf))
    refine divK_rem (by decide) (by omega) ?_
    conv => whnf
    refine bcase_p (fun h4 => ?_) (fun h4 => ?_) <;> conv => whnf
    · have hd3 : d = wayN (homeN l[k].1) k := by simp only [wayN] at hd hw16 ⊢; omega
      repeat (first | (refine bcase_f rfl ?_; conv => whnf) | (refine bcase_t rfl ?_; conv => whnf) | (refine condK_of rfl ?_; conv => whnf) | (refine condK_of (by decide) ?_; conv => whnf) | (refine condK_of (by omega) ?_; conv => whnf) | (refine wrapK_in (w64 (by omega) (by omega)) ?_; conv => whnf))
      refine ⟨k + 1, ⟨by omega, hlast ⟨hsl, fun _ => by rw [hat]; exact hc1, .inr ⟨hQk, ?_⟩⟩⟩, by omega, le0 (le_of_cov ⟨rfl, rfl, trivial⟩ ⟨rfl, trivial⟩ ⟨rfl, rfl, rfl, rfl⟩)⟩
      rw [hat, ← hd3]; exact hD
    have hd2 : d < wayN (homeN l[k].1) k := by
      by_cases e : d = wayN (homeN l[k].1) k
      · exfalso; apply h4; rw [e]; simp only [wayN]; omega
      · omega
    have hcast : (l[k].1 + (d : Int)) % 16 = (((homeN l[k].1 + d) % 16 : Nat) : Int) := by omega
    have hj : (homeN l[k].1 + d) % 16 < l.length := by omega
    rw [hcast]
    repeat (first | (refine bcase_f rfl ?_; conv => whnf) | (refine bcase_t rfl ?_; conv => whnf) | (refine condK_of rfl ?_; conv => whnf) | (refine condK_of (by decide) ?_; conv => whnf) | (refine condK_of (by omega) ?_; conv => whnf) | (refine wrapK_in (w64 (by omega) (by omega)) ?_; conv => whnf))
    refine idxK_nat (by omega) ?_
    conv => whnf
    refine getRow_of (x := encI l[(homeN l[k].1 + d) % 16]) (by simp [hj]) ?_
    conv => whnf
    repeat (first | (refine bcase_f rfl ?_; conv => whnf) | (refine bcase_t rfl ?_; conv => whnf) | (refine condK_of rfl ?_; conv => whnf) | (refine condK_of (by decide) ?_; conv => whnf) | (refine condK_of (by omega) ?_; conv => whnf) | (refine wrapK_in (w64 (by omega) (by omega)) ?_; conv => whnf))
    refine bcase_p (fun h5 => ?_) (fun h5 => ?_) <;> conv => whnf
    · refine ret_of rfl (congrArg D.bool (rightB_f.2 fun h => ?_).symm)
      have h6 := h.path (i := k) (by omega) (by rw [hat]; exact hfr) (d := d) (by rw [hat]; exact hd2)
      rw [hat, at_eq hj] at h6
      have h7 := h.slots ((homeN l[k].1 + d) % 16) (Nat.mod_lt _ (by decide))
      rw [at_eq hj] at h7
      have := slot_page h7 h6
      omega
    repeat (first | (refine bcase_f rfl ?_; conv => whnf) | (refine bcase_t rfl ?_; conv => whnf) | (refine condK_of rfl ?_; conv => whnf) | (refine condK_of (by decide) ?_; conv => whnf) | (refine condK_of (by omega) ?_; conv => whnf) | (refine wrapK_in (w64 (by omega) (by omega)) ?_; conv => whnf))
    exact ⟨d + 1, ⟨by omega, fun j hj' => (Nat.lt_succ_iff_lt_or_eq.1 hj').elim (hD j) (fun e => by subst e; rw [at_eq hj]; simp [freeB]; omega)⟩, by omega, le0 (le_of_cov ⟨rfl, rfl, rfl, rfl, trivial⟩ ⟨rfl, rfl, trivial⟩ ⟨rfl, rfl, rfl, rfl⟩)⟩
  · exact ret_of rfl (congrArg D.bool (rightB_t.2 ⟨hlen, fun i hi => (hR i (by omega)).1, fun i hi => (hR i (by omega)).2.2⟩).symm)
end Go.Lk

set_option linter.unusedSimpArgs false
set_option linter.unusedVariables false
set_option linter.unnecessarySimpa false
namespace Go.Lk
open Go Go.Proofs Go.RowKit

theorem tablePages_ok (l : Slots) : ACall Try.prog 3 [encT l] (.bool true) := by
  refine acall_of Try.func3 1 rfl (by kernel_rfl) ?_
  conv => whnf
  repeat (first | (refine bcase_f rfl ?_; conv => whnf) | (refine bcase_t rfl ?_; conv => whnf) | (refine condK_of rfl ?_; conv => whnf) | (refine condK_of (by decide) ?_; conv => whnf) | (refine condK_of (by omega) ?_; conv => whnf) | (refine wrapK_in (w64 (by omega) (by omega)) ?_; conv => whnf))
  by_cases h1 : l.length ≤ 40
  rotate_left
  · have := ref_ok l
    rw [if_neg h1] at this
    refine callX_pure this ?_
    conv => whnf
    repeat (first | (refine bcase_f rfl ?_; conv => whnf) | (refine bcase_t rfl ?_; conv => whnf) | (refine condK_of rfl ?_; conv => whnf) | (refine condK_of (by decide) ?_; conv => whnf) | (refine condK_of (by omega) ?_; conv => whnf) | (refine wrapK_in (w64 (by omega) (by omega)) ?_; conv => whnf))
    refine callX_pure awake_ok ?_
    conv => whnf
    exact ret_of rfl rfl
  have href := ref_ok l
  rw [if_pos h1] at href
  refine callX_pure href ?_
  conv => whnf
  repeat (first | (refine bcase_f rfl ?_; conv => whnf) | (refine bcase_t rfl ?_; conv => whnf) | (refine condK_of rfl ?_; conv => whnf) | (refine condK_of (by decide) ?_; conv => whnf) | (refine condK_of (by omega) ?_; conv => whnf) | (refine wrapK_in (w64 (by omega) (by omega)) ?_; conv => whnf))
  refine callX_pure (pages_ok l (by omega)) ?_
  conv => whnf
  repeat (first | (refine bcase_f rfl ?_; conv => whnf) | (refine bcase_t rfl ?_; conv => whnf) | (refine condK_of rfl ?_; conv => whnf) | (refine condK_of (by decide) ?_; conv => whnf) | (refine condK_of (by omega) ?_; conv => whnf) | (refine wrapK_in (w64 (by omega) (by omega)) ?_; conv => whnf))
  refine callX_pure (rright_ok l (by omega)) ?_
  conv => whnf
  refine bcase_intro (fun hr => ?_) (fun hr => ?_) <;> conv => whnf
  · simp at hr
    refine bcase_t (by simp [pagesS, hr, encNs]) ?_
    conv => whnf
    refine callX_pure awake_ok ?_
    conv => whnf
    exact ret_of rfl rfl
  simp at hr
  have hR := rightB_t.1 hr
  have hlen := hR.len
  have hm : (l.map encI).length = l.length := List.length_map ..
  have hpl : ((pagesS l).map enc1).length = cntS l := by rw [List.length_map, pages_len hR]
  have hc16 := cnt_le (l := l)
  repeat (first | (refine bcase_f rfl ?_; conv => whnf) | (refine bcase_t rfl ?_; conv => whnf) | (refine condK_of rfl ?_; conv => whnf) | (refine condK_of (by decide) ?_; conv => whnf) | (refine condK_of (by omega) ?_; conv => whnf) | (refine wrapK_in (w64 (by omega) (by omega)) ?_; conv => whnf))
  refine aloop (ι := Nat) (fun k => [(3, .ptr 3 0 0), (5, .d (encNs (pagesS l))), (6, .d (.int .i64 (cntS (l.take k)))), (31, .d (encIs l)), (32, .d (.int .i64 (l.map encI).length)), (33, .d (.int .i64 k))]) (fun _ => [(3, .box [.d (encIs l)] false)])
    (fun k => k ≤ l.length) (fun k => l.length - k) 0 (Nat.zero_le _) (le0 (le_of_cov ⟨rfl, rfl, rfl, rfl, rfl, rfl, trivial⟩ ⟨rfl, trivial⟩ ⟨rfl, rfl, rfl, rfl⟩)) ?_
  intro k hk
  have hck : cntS (l.take k) ≤ 16 := Nat.le_trans (cnt_le (l := l.take k)) (by simp; omega)
  conv => whnf
  refine bcase_p (fun h => ?_) (fun h => ?_) <;> conv => whnf
  · have hk2 : k < l.length := by omega
    have hcs : cntS (l.take (k + 1)) = cntS (l.take k) + (if freeB l[k] = true then 0 else 1) := by
      unfold cntS; rw [take_snoc hk2, List.countP_append, List.countP_cons, List.countP_nil]
      cases freeB l[k] <;> rfl
    have hsl := hR.slots k (by omega)
    rw [at_eq hk2] at hsl
    refine idxK_nat (by omega) ?_
    conv => whnf
    refine getRow_of (x := encI l[k]) (by simp [hk2]) ?_
    conv => whnf
    repeat (first | (refine bcase_f rfl ?_; conv => whnf) | (refine bcase_t rfl ?_; conv => whnf) | (refine condK_of rfl ?_; conv => whnf) | (refine condK_of (by decide) ?_; conv => whnf) | (refine condK_of (by omega) ?_; conv => whnf) | (refine wrapK_in (w64 (by omega) (by omega)) ?_; conv => whnf))
    refine bcase_n (fun h2 => ?_) (fun h2 => ?_) <;> conv => whnf
    · have hfr : freeB l[k] = false := by simp [freeB, h2]
      repeat (first | (refine bcase_f rfl ?_; conv => whnf) | (refine bcase_t rfl ?_; conv => whnf) | (refine condK_of rfl ?_; conv => whnf) | (refine condK_of (by decide) ?_; conv => whnf) | (refine condK_of (by omega) ?_; conv => whnf) | (refine wrapK_in (w64 (by omega) (by omega)) ?_; conv => whnf))
      exact ⟨k + 1, by omega, by omega, le0 (le_of_cov ⟨rfl, rfl, by
        show AV.d (.int .i64 ((cntS (l.take k) : Int) + 1)) = AV.d (.int .i64 (cntS (l.take (k + 1)))); rw [hcs, hfr]; rfl, rfl, rfl, rfl, trivial⟩ ⟨rfl, trivial⟩ ⟨rfl, rfl, rfl, rfl⟩)⟩
    · have hfr : freeB l[k] = true := by
        rcases hsl with h3 | h3
        · exact h3
        · have := fits_out.1 h3; omega
      repeat (first | (refine bcase_f rfl ?_; conv => whnf) | (refine bcase_t rfl ?_; conv => whnf) | (refine condK_of rfl ?_; conv => whnf) | (refine condK_of (by decide) ?_; conv => whnf) | (refine condK_of (by omega) ?_; conv => whnf) | (refine wrapK_in (w64 (by omega) (by omega)) ?_; conv => whnf))
      exact ⟨k + 1, by omega, by omega, le0 (le_of_cov ⟨rfl, rfl, by
        show AV.d (.int .i64 (cntS (l.take k))) = AV.d (.int .i64 (cntS (l.take (k + 1)))); rw [hcs, hfr]; rfl, rfl, rfl, rfl, trivial⟩ ⟨rfl, trivial⟩ ⟨rfl, rfl, rfl, rfl⟩)⟩
  have hkl : k = l.length := by omega
  subst hkl
  rw [List.take_length]
  clear hck h hk
  refine aloop (ι := Nat) (fun k => [(3, .ptr 3 0 0), (5, .d (encNs (pagesS l))), (6, .d (.int .i64 (cntS l))), (43, .d (encNs (pagesS l))), (44, .d (.int .i64 ((pagesS l).map enc1).length)), (45, .d (.int .i64 k))]) (fun _ => [(3, .box [.d (encIs l)] false)])
    (fun k => k ≤ cntS l) (fun k => cntS l - k) 0 (Nat.zero_le _) (le0 (le_of_cov ⟨rfl, rfl, rfl, rfl, rfl, rfl, trivial⟩ ⟨rfl, trivial⟩ ⟨rfl, rfl, rfl, rfl⟩)) ?_
  intro k hk
  conv => whnf
  refine bcase_p (fun h => ?_) (fun h => ?_) <;> conv => whnf
  · have hpl2 : (pagesS l).length = cntS l := pages_len hR
    have hk2 : k < (pagesS l).length := by omega
    obtain ⟨m1, m2⟩ := pages_mem hR (List.getElem_mem hk2)
    refine idxK_nat (by omega) ?_
    conv => whnf
    refine getRow_of (x := enc1 (pagesS l)[k]) (by simp [hk2]) ?_
    conv => whnf
    repeat (first | (refine bcase_f rfl ?_; conv => whnf) | (refine bcase_t rfl ?_; conv => whnf) | (refine condK_of rfl ?_; conv => whnf) | (refine condK_of (by decide) ?_; conv => whnf) | (refine condK_of (by omega) ?_; conv => whnf) | (refine wrapK_in (w64 (by omega) (by omega)) ?_; conv => whnf))
    refine callX_pure (d := .int .i64 (placeG l (pagesS l)[k] 0)) (by have h := rfind_ok l (pagesS l)[k] (by omega); rw [if_neg (by omega)] at h; exact h) ?_
    conv => whnf
    refine bcase_f (by simp; omega) ?_
    conv => whnf
    refine bcase_p (fun h3 => ?_) (fun h3 => ?_) <;> conv => whnf
    · repeat (first | (refine bcase_f rfl ?_; conv => whnf) | (refine bcase_t rfl ?_; conv => whnf) | (refine condK_of rfl ?_; conv => whnf) | (refine condK_of (by decide) ?_; conv => whnf) | (refine condK_of (by omega) ?_; conv => whnf) | (refine wrapK_in (w64 (by omega) (by omega)) ?_; conv => whnf))
      have hk3 : k - 1 < (pagesS l).length := by omega
      refine idxK_int (by omega) (by omega) ?_
      conv => whnf
      refine getRow_of (x := enc1 (pagesS l)[k-1]) (by rw [show ((k:Int) - 1).toNat = k - 1 by omega]; simp [hk3]) ?_
      conv => whnf
      repeat (first | (refine bcase_f rfl ?_; conv => whnf) | (refine bcase_t rfl ?_; conv => whnf) | (refine condK_of rfl ?_; conv => whnf) | (refine condK_of (by decide) ?_; conv => whnf) | (refine condK_of (by omega) ?_; conv => whnf) | (refine wrapK_in (w64 (by omega) (by omega)) ?_; conv => whnf))
      have := List.pairwise_iff_getElem.1 (pages_rise hR) (k - 1) k hk3 hk2 (by omega)
      refine bcase_f (by simp; omega) ?_
      conv => whnf
      repeat (first | (refine bcase_f rfl ?_; conv => whnf) | (refine bcase_t rfl ?_; conv => whnf) | (refine condK_of rfl ?_; conv => whnf) | (refine condK_of (by decide) ?_; conv => whnf) | (refine condK_of (by omega) ?_; conv => whnf) | (refine wrapK_in (w64 (by omega) (by omega)) ?_; conv => whnf))
      exact ⟨k + 1, by omega, by omega, le0 (le_of_cov ⟨rfl, rfl, rfl, rfl, rfl, rfl, trivial⟩ ⟨rfl, trivial⟩ ⟨rfl, rfl, rfl, rfl⟩)⟩
    · repeat (first | (refine bcase_f rfl ?_; conv => whnf) | (refine bcase_t rfl ?_; conv => whnf) | (refine condK_of rfl ?_; conv => whnf) | (refine condK_of (by decide) ?_; conv => whnf) | (refine condK_of (by omega) ?_; conv => whnf) | (refine wrapK_in (w64 (by omega) (by omega)) ?_; conv => whnf))
      exact ⟨k + 1, by omega, by omega, le0 (le_of_cov ⟨rfl, rfl, rfl, rfl, rfl, rfl, trivial⟩ ⟨rfl, trivial⟩ ⟨rfl, rfl, rfl, rfl⟩)⟩
  refine bcase_t (by rw [hpl]; simp) ?_
  conv => whnf
  refine callX_pure awake_ok ?_
  conv => whnf
  exact ret_of rfl rfl
end Go.Lk

set_option linter.unusedSimpArgs false
set_option linter.unusedVariables false
set_option linter.unnecessarySimpa false
namespace Go.Lk
open Go Go.Proofs Go.RowKit

/-- the page of an index -/
def pg (h i : Nat) : Int := 16 * ((i : Int) + 1) + (h : Int)
structure HInv (h : Nat) (S : Nat → Prop) (n : Nat) (l : Slots) : Prop where
  rt : RT l
  cut : Cut l
  cnt : cntS l = n
  mem : ∀ x, freeB x = false → (MemS l x ↔ ∃ i, i < 16 ∧ S i ∧ x = (pg h i, (i : Int)))
theorem pg_inj {h i j : Nat} (e : pg h i = pg h j) : i = j := by simp only [pg] at e; omega
theorem pg_free {h i : Nat} {f : Int} : freeB (pg h i, f) = false := page_nonfree (by simp only [pg]; omega)
theorem HInv.put {h k : Nat} {l : Slots} (hh : h < 16) (hk : k < 16) (hI : HInv h (· < k) k l) : ∃ l', putS l (pg h k) k = (l', 0) ∧ HInv h (· < k + 1) (k + 1) l' := by
  obtain ⟨l', i, _, _, _, e, h1, h2, h3, h4⟩ := put_gen (p := pg h k) (f := k) hI.rt (fits_out.2 (by simp only [pg]; omega)) (fun j hj e => by
    have hf : freeB (at' l j) = false := page_nonfree (by rw [e]; simp only [pg]; omega)
    obtain ⟨i, _, hi, ex⟩ := (hI.mem _ hf).1 ⟨j, hj, rfl⟩
    have e2 : pg h k = pg h i := by rw [← e, ex]
    have := pg_inj e2
    omega) (by rw [hI.cnt]; exact hk)
  refine ⟨l', e, h1, h2, by rw [h3, hI.cnt], fun x hx => ?_⟩
  rw [h4 x hx, hI.mem x hx]
  constructor
  · rintro (rfl | ⟨i, a, b, c⟩)
    · exact ⟨k, hk, Nat.lt_succ_self _, rfl⟩
    · exact ⟨i, a, by omega, c⟩
  · rintro ⟨i, a, b, rfl⟩
    by_cases e : i = k
    · subst e; exact .inl rfl
    · exact .inr ⟨i, a, by omega, rfl⟩
theorem HInv.full {h : Nat} {l : Slots} (hh : h < 16) (hI : HInv h (· < 16) 16 l) : putS l (640 + (h : Int)) 1 = (l, 7) :=
  put_full hI.rt (fits_out.2 (by omega)) (fun j hj e => by
    have hf : freeB (at' l j) = false := page_nonfree (by rw [e]; omega)
    obtain ⟨i, hi, _, ex⟩ := (hI.mem _ hf).1 ⟨j, hj, rfl⟩
    rw [ex] at e
    simp only [pg] at e
    omega) hI.cnt
theorem HInv.del {h n a : Nat} {S : Nat → Prop} {l : Slots} (ha : a < 16) (hS : S a) (hI : HInv h S (n + 1) l) : ∃ l', delS l (pg h a) = (l', 0) ∧ HInv h (fun i => S i ∧ i ≠ a) n l' := by
  obtain ⟨l', e, h1, h2, h3, h4⟩ := del_gen (p := pg h a) (f := a) hI.rt hI.cut (by simp only [pg]; omega) ((hI.mem _ pg_free).2 ⟨a, ha, hS, rfl⟩)
  refine ⟨l', e, h1, h2, by have := hI.cnt; omega, fun x hx => ?_⟩
  rw [h4 x hx, hI.mem x hx]
  constructor
  · rintro ⟨e1, i, a1, b1, rfl⟩
    exact ⟨i, a1, ⟨b1, fun e2 => e1 (by rw [e2])⟩, rfl⟩
  · rintro ⟨i, a1, ⟨b1, c1⟩, rfl⟩
    exact ⟨fun e2 => c1 (pg_inj e2), i, a1, b1, rfl⟩
theorem turns {s m n : Nat} (hs : s < 8) (hmn : m < n) (hn : n < 16) : (m * (1 + 2 * s)) % 16 ≠ (n * (1 + 2 * s)) % 16 := by
  have : s = 0 ∨ s = 1 ∨ s = 2 ∨ s = 3 ∨ s = 4 ∨ s = 5 ∨ s = 6 ∨ s = 7 := by omega
  rcases this with rfl | rfl | rfl | rfl | rfl | rfl | rfl | rfl <;> omega

theorem tableHomes_ok (a b : Int) (a0 : 0 ≤ a) (a1 : a ≤ 255) (b0 : 0 ≤ b) (b1 : b ≤ 255) : ACall Try.prog 6 [.int .u8 a, .int .u8 b] (.bool true) := by
  refine acall_of Try.func6 2 rfl (by kernel_rfl) ?_
  conv => whnf
  refine callX_pure new_ok ?_
  conv => whnf
  repeat (first | (refine bcase_f rfl ?_; conv => whnf) | (refine bcase_t rfl ?_; conv => whnf) | (refine condK_of rfl ?_; conv => whnf) | (refine condK_of (by decide) ?_; conv => whnf) | (refine condK_of (by omega) ?_; conv => whnf) | (refine wrapK_in (w64 (by omega) (by omega)) ?_; conv => whnf))
  refine divK_rem (by decide) a0 ?_
  conv => whnf
  refine wrapK_in (w64 (by omega) (by omega)) ?_
  conv => whnf
  obtain ⟨h, hh⟩ : ∃ h : Nat, a % 16 = (h : Int) := ⟨(a % 16).toNat, by omega⟩
  have hh16 : h < 16 := by omega
  obtain ⟨s, hs⟩ : ∃ s : Nat, b % 8 = (s : Int) := ⟨(b % 8).toNat, by omega⟩
  have hs8 : s < 8 := by omega
  rw [hh]
  refine aloop (ι := Nat × Slots) (fun i => [(1, .d (.int .u8 b)), (5, .ptr 5 0 0), (6, .d (.int .i64 h)), (20, .d (.int .i64 i.1))]) (fun i => [(5, .box [.d (encIs i.2)] false)])
    (fun i => i.1 ≤ 16 ∧ HInv h (· < i.1) i.1 i.2) (fun i => 16 - i.1) (0, List.replicate 16 (0, 0)) ⟨Nat.zero_le _, new_rt, ⟨0, free_cut new_rt (by decide) (by rw [new_at]; rfl)⟩, by decide, fun x hx => ⟨fun ⟨j, hj, e⟩ => (by rw [new_at] at e; subst e; cases hx), fun ⟨i, _, hi, _⟩ => absurd hi (Nat.not_lt_zero _)⟩⟩ (le0 (le_of_cov ⟨rfl, rfl, rfl, rfl, trivial⟩ ⟨rfl, trivial⟩ ⟨rfl, rfl, rfl, rfl⟩)) ?_
  rintro ⟨k, l⟩ ⟨hk, hI⟩
  simp only at hk hI ⊢
  have hl16 := hI.rt.len
  conv => whnf
  refine bcase_p (fun hlt => ?_) (fun hlt => ?_) <;> conv => whnf
  · obtain ⟨l', e1, hI'⟩ := hI.put hh16 (by omega)
    have hpg : 16 * ((k : Int) + 1) + (h : Int) = pg h k := rfl
    repeat (first | (refine bcase_f rfl ?_; conv => whnf) | (refine bcase_t rfl ?_; conv => whnf) | (refine condK_of rfl ?_; conv => whnf) | (refine condK_of (by decide) ?_; conv => whnf) | (refine condK_of (by omega) ?_; conv => whnf) | (refine wrapK_in (w64 (by omega) (by omega)) ?_; conv => whnf))
    refine callX_pure (d := .tup [encT l', .int .i64 0]) (by have h := put_ok l (pg h k) k (by omega); rw [e1] at h; exact h) ?_
    conv => whnf
    repeat (first | (refine bcase_f rfl ?_; conv => whnf) | (refine bcase_t rfl ?_; conv => whnf) | (refine condK_of rfl ?_; conv => whnf) | (refine condK_of (by decide) ?_; conv => whnf) | (refine condK_of (by omega) ?_; conv => whnf) | (refine wrapK_in (w64 (by omega) (by omega)) ?_; conv => whnf))
    exact ⟨(k + 1, l'), ⟨by simp only []; omega, hI'⟩, by simp only []; omega, le0 (le_of_cov ⟨rfl, rfl, rfl, rfl, trivial⟩ ⟨rfl, trivial⟩ ⟨rfl, rfl, rfl, rfl⟩)⟩
  have hk16 : k = 16 := by omega
  subst hk16
  repeat (first | (refine bcase_f rfl ?_; conv => whnf) | (refine bcase_t rfl ?_; conv => whnf) | (refine condK_of rfl ?_; conv => whnf) | (refine condK_of (by decide) ?_; conv => whnf) | (refine condK_of (by omega) ?_; conv => whnf) | (refine wrapK_in (w64 (by omega) (by omega)) ?_; conv => whnf))
  refine callX_pure (d := .tup [encT l, .int .i64 7]) (by have h := put_ok l (640 + (h : Int)) 1 (by omega); rw [hI.full hh16] at h; exact h) ?_
  conv => whnf
  repeat (first | (refine bcase_f rfl ?_; conv => whnf) | (refine bcase_t rfl ?_; conv => whnf) | (refine condK_of rfl ?_; conv => whnf) | (refine condK_of (by decide) ?_; conv => whnf) | (refine condK_of (by omega) ?_; conv => whnf) | (refine wrapK_in (w64 (by omega) (by omega)) ?_; conv => whnf))
  refine aloop (ι := Nat × Slots) (fun i => [(1, .d (.int .u8 b)), (5, .ptr 5 0 0), (6, .d (.int .i64 h)), (11, .d (.int .i64 7)), (12, .d (.int .i64 (((i.1 * (1 + 2 * s)) % 16 : Nat) : Int))), (45, .d (.int .i64 i.1))]) (fun i => [(5, .box [.d (encIs i.2)] false)])
    (fun i => i.1 ≤ 16 ∧ HInv h (fun j => ∀ m, m < i.1 → (m * (1 + 2 * s)) % 16 ≠ j) (16 - i.1) i.2) (fun i => 16 - i.1) (0, l) ⟨Nat.zero_le _, hI.rt, hI.cut, hI.cnt, fun x hx => (hI.mem x hx).trans ⟨fun ⟨i, q1, _, q3⟩ => ⟨i, q1, fun m hm => absurd hm (Nat.not_lt_zero _), q3⟩, fun ⟨i, q1, _, q3⟩ => ⟨i, q1, q1, q3⟩⟩⟩ (le0 (le_of_cov ⟨rfl, rfl, rfl, rfl, by
      show AV.d (.int .i64 0) = AV.d (.int .i64 (((0 * (1 + 2 * s)) % 16 : Nat) : Int)); rw [Nat.zero_mul]; rfl, rfl, trivial⟩ ⟨rfl, trivial⟩ ⟨rfl, rfl, rfl, rfl⟩)) ?_
  rintro ⟨n, l⟩ ⟨hn, hI⟩
  simp only at hn hI ⊢
  have hl16 := hI.rt.len
  conv => whnf
  refine bcase_p (fun hlt => ?_) (fun hlt => ?_) <;> conv => whnf
  · have hat16 : (n * (1 + 2 * s)) % 16 < 16 := Nat.mod_lt _ (by decide)
    have hSn : ∀ m, m < n → (m * (1 + 2 * s)) % 16 ≠ (n * (1 + 2 * s)) % 16 := fun m hm => turns hs8 hm (by omega)
    obtain ⟨l', e1, hI'⟩ := HInv.del (S := fun j => ∀ m, m < n → (m * (1 + 2 * s)) % 16 ≠ j) (n := 15 - n) hat16 hSn (by rw [show 15 - n + 1 = 16 - n by omega]; exact hI)
    have hnext : ((n + 1) * (1 + 2 * s)) % 16 = ((n * (1 + 2 * s)) % 16 + (1 + 2 * s)) % 16 := by rw [Nat.succ_mul]; generalize n * (1 + 2 * s) = t; omega
    have hpg : 16 * ((((n * (1 + 2 * s)) % 16 : Nat) : Int) + 1) + (h : Int) = pg h ((n * (1 + 2 * s)) % 16) := rfl
    clear hSn
    generalize hat : (n * (1 + 2 * s)) % 16 = t at hat16 e1 hI' hnext hpg ⊢
    have hr' := rightB_t.2 hI'.rt
    have hl16' := hI'.rt.len
    have hpl : ((pagesS l').map enc1).length = 15 - n := by rw [List.length_map, pages_len hI'.rt, hI'.cnt]
    repeat (first | (refine bcase_f rfl ?_; conv => whnf) | (refine bcase_t rfl ?_; conv => whnf) | (refine condK_of rfl ?_; conv => whnf) | (refine condK_of (by decide) ?_; conv => whnf) | (refine condK_of (by omega) ?_; conv => whnf) | (refine wrapK_in (w64 (by omega) (by omega)) ?_; conv => whnf))
    refine callX_pure (d := .tup [encT l', .int .i64 0]) (by have h := del_ok l (pg h t) (by omega); rw [e1] at h; exact h) ?_
    conv => whnf
    repeat (first | (refine bcase_f rfl ?_; conv => whnf) | (refine bcase_t rfl ?_; conv => whnf) | (refine condK_of rfl ?_; conv => whnf) | (refine condK_of (by decide) ?_; conv => whnf) | (refine condK_of (by omega) ?_; conv => whnf) | (refine wrapK_in (w64 (by omega) (by omega)) ?_; conv => whnf))
    refine callX_pure (right_ok l' (by omega)) ?_
    conv => whnf
    refine bcase_f (by rw [hr']; rfl) ?_
    conv => whnf
    repeat (first | (refine bcase_f rfl ?_; conv => whnf) | (refine bcase_t rfl ?_; conv => whnf) | (refine condK_of rfl ?_; conv => whnf) | (refine condK_of (by decide) ?_; conv => whnf) | (refine condK_of (by omega) ?_; conv => whnf) | (refine wrapK_in (w64 (by omega) (by omega)) ?_; conv => whnf))
    refine callX_pure (pages_ok l' (by omega)) ?_
    conv => whnf
    repeat (first | (refine bcase_f rfl ?_; conv => whnf) | (refine bcase_t rfl ?_; conv => whnf) | (refine condK_of rfl ?_; conv => whnf) | (refine condK_of (by decide) ?_; conv => whnf) | (refine condK_of (by omega) ?_; conv => whnf) | (refine wrapK_in (w64 (by omega) (by omega)) ?_; conv => whnf))
    refine bcase_f (by rw [hpl]; simp; omega) ?_
    conv => whnf
    repeat (first | (refine bcase_f rfl ?_; conv => whnf) | (refine bcase_t rfl ?_; conv => whnf) | (refine condK_of rfl ?_; conv => whnf) | (refine condK_of (by decide) ?_; conv => whnf) | (refine condK_of (by omega) ?_; conv => whnf) | (refine wrapK_in (w64 (by omega) (by omega)) ?_; conv => whnf))
    refine divK_rem (by decide) b0 ?_
    conv => whnf
    rw [hs]
    repeat (first | (refine bcase_f rfl ?_; conv => whnf) | (refine bcase_t rfl ?_; conv => whnf) | (refine condK_of rfl ?_; conv => whnf) | (refine condK_of (by decide) ?_; conv => whnf) | (refine condK_of (by omega) ?_; conv => whnf) | (refine wrapK_in (w64 (by omega) (by omega)) ?_; conv => whnf))
    refine divK_rem (by decide) (by omega) ?_
    conv => whnf
    repeat (first | (refine bcase_f rfl ?_; conv => whnf) | (refine bcase_t rfl ?_; conv => whnf) | (refine condK_of rfl ?_; conv => whnf) | (refine condK_of (by decide) ?_; conv => whnf) | (refine condK_of (by omega) ?_; conv => whnf) | (refine wrapK_in (w64 (by omega) (by omega)) ?_; conv => whnf))
    exact ⟨(n + 1, l'), ⟨by simp only []; omega, hI'.rt, hI'.cut, by simp only []; rw [hI'.cnt]; omega, fun x hx => (hI'.mem x hx).trans ⟨fun ⟨i, q1, ⟨q2, q4⟩, q3⟩ => ⟨i, q1, fun m hm => by
        by_cases e : m = n
        · rw [e, hat]; exact fun e => q4 e.symm
        · exact q2 m (by simp only [] at hm; omega), q3⟩, fun ⟨i, q1, q2, q3⟩ => ⟨i, q1, ⟨fun m hm => q2 m (by simp only []; omega), fun e => q2 n (by simp only []; omega) (by rw [hat, e])⟩, q3⟩⟩⟩, by simp only []; omega, le0 (le_of_cov ⟨rfl, rfl, rfl, rfl, by
          show AV.d (.int .i64 (((t : Int) + 1 + 2 * (s : Int)) % 16)) = AV.d (.int .i64 ((((n + 1) * (1 + 2 * s)) % 16 : Nat) : Int))
          rw [hnext]; congr 2; omega, rfl, trivial⟩ ⟨rfl, trivial⟩ ⟨rfl, rfl, rfl, rfl⟩)⟩
  · repeat (first | (refine bcase_f rfl ?_; conv => whnf) | (refine bcase_t rfl ?_; conv => whnf) | (refine condK_of rfl ?_; conv => whnf) | (refine condK_of (by decide) ?_; conv => whnf) | (refine condK_of (by omega) ?_; conv => whnf) | (refine wrapK_in (w64 (by omega) (by omega)) ?_; conv => whnf))
    refine callX_pure awake_ok ?_
    conv => whnf
    exact ret_of rfl rfl
end Go.Lk

set_option linter.unusedSimpArgs false
set_option linter.unusedVariables false
namespace Go.Lk
open Go Go.Proofs Go.RowKit

theorem kids : Kids Try.prog (· < Try.prog.types.size) := kids_rows (by kernel_rfl) (by kernel_rfl)
theorem sizes : ∀ t e, t < Try.prog.types.size → Try.prog.underlying t = some (.slice e) → 0 < Try.prog.cellsOf e := sliceSize_out (by kernel_rfl)
theorem own : ownKnob Try.prog.godebug = none := by kernel_rfl

theorem table_arg {n : Nat} {d : D} (h : FitV T n 24 d) : ∃ l : Slots, d = encT l := by
  obtain ⟨ds, e0, h'⟩ := fitV_agg (T := T) (t := 24) rfl h
  subst e0
  obtain ⟨m, u, v, rfl, h1, rfl⟩ := fit_struct (fs := [(0, 22)]) rfl h'
  obtain ⟨k, r, rfl, _, hr⟩ := fit_slice (e := 52) rfl h1
  obtain ⟨l, rfl, _⟩ := exists_map (f := encI) (Q := fun _ => True) fun x hx => by
    obtain ⟨a, b, e, _, _⟩ := fit_two (a := 3) (b := 3) rfl rfl rfl (hr x hx)
    exact ⟨(a, b), e, trivial⟩
  exact ⟨l, rfl⟩
theorem tablePages_law : ∀ dds, FitAll T Try.f3.params.toList dds → ACall Try.prog 3 dds (.bool true) := by
  rintro dds ⟨n1, d1, r1, rfl, h1, rfl⟩
  obtain ⟨l, rfl⟩ := table_arg h1
  exact tablePages_ok l
theorem tableBack_law : ∀ dds, FitAll T Try.f5.params.toList dds → ACall Try.prog 5 dds (.bool true) := by
  rintro dds ⟨n1, d1, r1, rfl, h1, n2, d2, r2, rfl, h2, n3, d3, r3, rfl, h3, rfl⟩
  obtain ⟨l, rfl⟩ := table_arg h1
  obtain ⟨p, rfl, _⟩ := fitV_int (k := .i64) rfl h2
  obtain ⟨f, rfl, _⟩ := fitV_int (k := .i64) rfl h3
  exact tableBack_ok l p f
theorem tableHomes_law : ∀ dds, FitAll T Try.f6.params.toList dds → ACall Try.prog 6 dds (.bool true) := by
  rintro dds ⟨n1, d1, r1, rfl, h1, n2, d2, r2, rfl, h2, rfl⟩
  obtain ⟨a, rfl, w1⟩ := fitV_int (k := .u8) rfl h1
  obtain ⟨b, rfl, w2⟩ := fitV_int (k := .u8) rfl h2
  exact tableHomes_ok a b (wf_u8 w1).1 (wf_u8 w1).2 (wf_u8 w2).1 (wf_u8 w2).2
theorem tableKeeps_law : ∀ dds, FitAll T Try.f4.params.toList dds → ACall Try.prog 4 dds (.bool true) := by
  rintro dds ⟨n1, d1, r1, rfl, h1, rfl⟩
  obtain ⟨l, rfl, hl, hw⟩ := fitV_rows (f := enc2) (Q := fun x => (Lit.int .u8 x.1).wf = true ∧ (Lit.int .u8 x.2).wf = true) (e := 41) rfl h1 fun m x hx => by
    obtain ⟨m', u, v, rfl, h3, u', v', rfl, h4, rfl⟩ := fit_arr (e := 5) (k := 2) rfl hx
    obtain ⟨x, rfl, wx⟩ := fit_int (k := .u8) rfl h3
    obtain ⟨y, rfl, wy⟩ := fit_int (k := .u8) rfl h4
    exact ⟨(x, y), rfl, wx, wy⟩
  exact tableKeeps_ok l (fun x hx => ⟨wf_u8 (hw x hx).1, wf_u8 (hw x hx).2⟩) (Nat.le_trans hl (by decide))
end Go.Lk

