/-
  Apart.
-/
import Derived.Test.YtmkjebpdcclfdaaSd
set_option linter.unusedSectionVars false
set_option linter.unusedSimpArgs false
set_option linter.unusedVariables false
set_option linter.unnecessarySimpa false
namespace Go.Lk
open Go Go.Proofs Go.RowKit Go.Lk.St

theorem ins_perm {le : Ev → Ev → Bool} (x : Ev) : ∀ l : List Ev, (ins le x l).Perm (x :: l)
  | [] => .refl _
  | y :: r => by
    simp only [ins]
    split
    · exact .refl _
    · exact ((ins_perm x r).cons y).trans (.swap x y r)
theorem srt_perm {le : Ev → Ev → Bool} : ∀ l : List Ev, (srt le l).Perm l
  | [] => .refl _
  | x :: r => (ins_perm x _).trans ((srt_perm r).cons x)
def evOk (x : Ev) : Prop := x.began < x.done ∧ x.done < x.ended
def RD (x y : Ev) : Prop := x.done ≠ y.done
def RW (x y : Ev) : Prop := x.who = y.who → x.ended < y.began ∨ y.ended < x.began
structure AP (l : List Ev) : Prop where
  ok : ∀ x ∈ l, evOk x
  rd : l.Pairwise RD
  rw_ : l.Pairwise RW
theorem rd_sym {x y : Ev} (h : RD x y) : RD y x := fun e => h e.symm
theorem rw_sym {x y : Ev} (h : RW x y) : RW y x := fun e => (h e.symm).symm
theorem pw_srt {R : Ev → Ev → Prop} (hs : ∀ {x y}, R x y → R y x) (le : Ev → Ev → Bool) (l : List Ev) : (srt le l).Pairwise R ↔ l.Pairwise R := (srt_perm l).pairwise_iff hs
open Classical in
noncomputable def apB (l : List Ev) : Bool := decide (AP l)
theorem apB_t {l : List Ev} : apB l = true ↔ AP l := by simp [apB]
theorem apB_f {l : List Ev} : apB l = false ↔ ¬ AP l := by simp [apB]
theorem AP.perm {l r : List Ev} (h : l.Perm r) : AP l ↔ AP r := by
  constructor
  · intro a
    exact ⟨fun x hx => a.ok x (h.mem_iff.2 hx), (h.pairwise_iff rd_sym).1 a.rd, (h.pairwise_iff rw_sym).1 a.rw_⟩
  · intro a
    exact ⟨fun x hx => a.ok x (h.mem_iff.1 hx), (h.pairwise_iff rd_sym).2 a.rd, (h.pairwise_iff rw_sym).2 a.rw_⟩

/-- sorted, and no two neighbours alike -/
theorem rd_adj {s : List Ev} (hs : Sorted leD s) (h : ∀ i, (hi : i + 1 < s.length) → s[i].done ≠ s[i + 1].done) : s.Pairwise RD := by
  rw [List.pairwise_iff_getElem]
  have hp := List.pairwise_iff_getElem.1 hs
  have key : ∀ (j i : Nat), (hij : i < j) → (hj : j < s.length) → (s[i]'(Nat.lt_trans hij hj)).done < s[j].done := by
    intro j
    induction j with
    | zero => intro i h; omega
    | succ j ih =>
      intro i hij hj
      have h1 := hp j (j + 1) (by omega) hj (by omega)
      have h2 := h j hj
      simp only [leD, decide_eq_true_eq] at h1
      by_cases e : i = j
      · subst e; omega
      · have := ih i (by omega) (by omega)
        omega
  intro i j hi hj hij e
  have := key j i hij hj
  omega
theorem rw_adj {s : List Ev} (hs : Sorted leW s) (hok : ∀ x ∈ s, evOk x) (h : ∀ i, (hi : i + 1 < s.length) → s[i].who = s[i + 1].who → s[i].ended < s[i + 1].began) : s.Pairwise RW := by
  rw [List.pairwise_iff_getElem]
  have hp := List.pairwise_iff_getElem.1 hs
  have key : ∀ (j i : Nat), (hij : i < j) → (hj : j < s.length) → (s[i]'(Nat.lt_trans hij hj)).who = s[j].who → (s[i]'(Nat.lt_trans hij hj)).ended < s[j].began := by
    intro j
    induction j with
    | zero => intro i h; omega
    | succ j ih =>
      intro i hij hj hw
      by_cases e : i = j
      · subst e; exact h i hj hw
      · have h0 := hp i j (by omega) (by omega) (by omega)
        have h1 := hp j (j + 1) (by omega) hj (by omega)
        simp only [leW, decide_eq_true_eq] at h0 h1
        have hw2 : s[i].who = s[j].who := by omega
        have h3 := ih i (by omega) (by omega) hw2
        have h4 := h j hj (by omega)
        have h5 := hok s[j] (List.getElem_mem (by omega))
        unfold evOk at h5
        omega
  intro i j hi hj hij e
  exact .inl (key j i hij hj e)
theorem rw_no {s : List Ev} (hs : Sorted leW s) (hok : ∀ x ∈ s, evOk x) (hp : s.Pairwise RW) {i : Nat} (hi : i + 1 < s.length) (hw : s[i].who = s[i + 1].who) : s[i].ended < s[i + 1].began := by
  have h1 := List.pairwise_iff_getElem.1 hs i (i + 1) (by omega) hi (by omega)
  have h2 := List.pairwise_iff_getElem.1 hp i (i + 1) (by omega) hi (by omega) hw
  have h3 := hok s[i + 1] (List.getElem_mem hi)
  simp only [leW, decide_eq_true_eq] at h1
  unfold evOk at h3
  omega
theorem rd_no {s : List Ev} (hp : s.Pairwise RD) {i : Nat} (hi : i + 1 < s.length) : s[i].done ≠ s[i + 1].done :=
  List.pairwise_iff_getElem.1 hp i (i + 1) (by omega) hi (by omega)
end Go.Lk

set_option linter.unusedSimpArgs false
set_option linter.unusedVariables false
set_option linter.unnecessarySimpa false
namespace Go.Lk
open Go Go.Proofs Go.RowKit Go.Lk.St

set_option maxHeartbeats 4000000 in
theorem apart_ok (l : List Ev) (hl : l.length ≤ 1000) : ACall Try.prog 18 [.lst (l.map encE)] (.bool (apB l)) := by
  refine acall_of Try.func18 1 rfl (by kernel_rfl) ?_
  conv => whnf
  have hm : (l.map encE).length = l.length := List.length_map ..
  refine aloop (ι := Nat) (fun k => [(0, .d (.lst (l.map encE))), (11, .d (.lst (l.map encE))), (12, .d (.int .i64 (l.map encE).length)), (13, .d (.int .i64 k))]) (fun _ => [])
    (fun k => k ≤ l.length ∧ ∀ i, i < k → (hi : i < l.length) → evOk l[i]) (fun k => l.length - k) 0 ⟨by omega, by omega⟩ (le0 (le_of_cov ⟨rfl, rfl, rfl, rfl, trivial⟩ trivial ⟨rfl, rfl, rfl, rfl⟩)) ?_
  rintro k ⟨hk, hR⟩
  conv => whnf
  refine bcase_p (fun h5 => ?_) (fun h5 => ?_) <;> conv => whnf
  · have hk2 : k < l.length := by omega
    refine idxK_nat (by omega) ?_
    conv => whnf
    refine getRow_of (x := encE l[k]) (by simp [hk2]) ?_
    conv => whnf
    repeat (first | (refine bcase_f rfl ?_; conv => whnf) | (refine bcase_t rfl ?_; conv => whnf) | (refine condK_draw (by kernel_rfl) ?_; conv => whnf) | (refine condK_of rfl ?_; conv => whnf) | (refine condK_of (by decide) ?_; conv => whnf) | (refine condK_of (by omega) ?_; conv => whnf) | (refine wrapK_in (w64 (by omega) (by omega)) ?_; conv => whnf))
    refine bcase_p (fun g1 => ?_) (fun g1 => ?_) <;> conv => whnf
    · repeat (first | (refine bcase_f rfl ?_; conv => whnf) | (refine bcase_t rfl ?_; conv => whnf) | (refine condK_draw (by kernel_rfl) ?_; conv => whnf) | (refine condK_of rfl ?_; conv => whnf) | (refine condK_of (by decide) ?_; conv => whnf) | (refine condK_of (by omega) ?_; conv => whnf) | (refine wrapK_in (w64 (by omega) (by omega)) ?_; conv => whnf))
      exact ret_of rfl (congrArg D.bool (apB_f.2 fun h => by have := h.ok l[k] (List.getElem_mem hk2); unfold evOk at this; omega).symm)
    repeat (first | (refine bcase_f rfl ?_; conv => whnf) | (refine bcase_t rfl ?_; conv => whnf) | (refine condK_draw (by kernel_rfl) ?_; conv => whnf) | (refine condK_of rfl ?_; conv => whnf) | (refine condK_of (by decide) ?_; conv => whnf) | (refine condK_of (by omega) ?_; conv => whnf) | (refine wrapK_in (w64 (by omega) (by omega)) ?_; conv => whnf))
    refine bcase_p (fun g2 => ?_) (fun g2 => ?_) <;> conv => whnf
    · exact ret_of rfl (congrArg D.bool (apB_f.2 fun h => by have := h.ok l[k] (List.getElem_mem hk2); unfold evOk at this; omega).symm)
    repeat (first | (refine bcase_f rfl ?_; conv => whnf) | (refine bcase_t rfl ?_; conv => whnf) | (refine condK_draw (by kernel_rfl) ?_; conv => whnf) | (refine condK_of rfl ?_; conv => whnf) | (refine condK_of (by decide) ?_; conv => whnf) | (refine condK_of (by omega) ?_; conv => whnf) | (refine wrapK_in (w64 (by omega) (by omega)) ?_; conv => whnf))
    refine ⟨k + 1, ⟨by omega, fun i hi hi2 => by
      by_cases q : i = k
      · subst q; exact ⟨by omega, by omega⟩
      · exact hR i (by omega) hi2⟩, by omega, le0 (le_of_cov ⟨?_, ?_, ?_, ?_, trivial⟩ trivial ⟨?_, ?_, ?_, ?_⟩)⟩ <;> kernel_rfl
  have hok : ∀ x ∈ l, evOk x := fun x hx => by
    obtain ⟨i, hi, rfl⟩ := List.mem_iff_getElem.1 hx
    exact hR i (by omega) hi
  clear hR
  repeat (first | (refine bcase_f rfl ?_; conv => whnf) | (refine bcase_t rfl ?_; conv => whnf) | (refine condK_draw (by kernel_rfl) ?_; conv => whnf) | (refine condK_of rfl ?_; conv => whnf) | (refine condK_of (by decide) ?_; conv => whnf) | (refine condK_of (by omega) ?_; conv => whnf) | (refine wrapK_in (w64 (by omega) (by omega)) ?_; conv => whnf))
  refine callX_own (sort_ok l (by omega)) ?_
  conv => whnf
  repeat (first | (refine bcase_f rfl ?_; conv => whnf) | (refine bcase_t rfl ?_; conv => whnf) | (refine condK_draw (by kernel_rfl) ?_; conv => whnf) | (refine condK_of rfl ?_; conv => whnf) | (refine condK_of (by decide) ?_; conv => whnf) | (refine condK_of (by omega) ?_; conv => whnf) | (refine wrapK_in (w64 (by omega) (by omega)) ?_; conv => whnf))
  obtain ⟨s, hs⟩ : ∃ s, srt leD l = s := ⟨_, rfl⟩
  have hss : Sorted leD s := hs ▸ srt_sorted cmpD.tp l
  have hsl : s.length = l.length := by rw [← hs, srt_len]
  have hms : (s.map encE).length = s.length := List.length_map ..
  rw [hs]
  refine aloop (ι := Nat) (fun k => [(0, .d (.lst (l.map encE))), (5, .own 31), (6, .d (.int .i64 (k + 1 : Nat)))]) (fun _ => [(31, .row (s.map encE) 11 false)])
    (fun k => (k = 0 ∨ k + 1 ≤ s.length) ∧ ∀ i, i < k → (hi : i + 1 < s.length) → s[i].done ≠ s[i + 1].done) (fun k => s.length - k) 0 ⟨.inl rfl, by omega⟩ (le0 (le_of_cov ⟨rfl, rfl, rfl, trivial⟩ ⟨rfl, trivial⟩ ⟨rfl, rfl, rfl, rfl⟩)) ?_
  rintro q ⟨hq, hR⟩
  conv => whnf
  refine bcase_p (fun h6 => ?_) (fun h6 => ?_) <;> conv => whnf
  · have hk2 : q + 1 < s.length := by omega
    have hk3 : q < s.length := by omega
    have eq1 : ((q + 1 : Nat) : Int) - 1 = ((q : Nat) : Int) := by omega
    repeat (first | (refine bcase_f rfl ?_; conv => whnf) | (refine bcase_t rfl ?_; conv => whnf) | (refine condK_draw (by kernel_rfl) ?_; conv => whnf) | (refine condK_of rfl ?_; conv => whnf) | (refine condK_of (by decide) ?_; conv => whnf) | (refine condK_of (by omega) ?_; conv => whnf) | (refine wrapK_in (w64 (by omega) (by omega)) ?_; conv => whnf))
    refine idxK_nat (by omega) ?_
    conv => whnf
    refine getRow_of (x := encE s[q + 1]) (by simp [hk2]) ?_
    conv => whnf
    repeat (first | (refine bcase_f rfl ?_; conv => whnf) | (refine bcase_t rfl ?_; conv => whnf) | (refine condK_draw (by kernel_rfl) ?_; conv => whnf) | (refine condK_of rfl ?_; conv => whnf) | (refine condK_of (by decide) ?_; conv => whnf) | (refine condK_of (by omega) ?_; conv => whnf) | (refine wrapK_in (w64 (by omega) (by omega)) ?_; conv => whnf))
    rw [eq1]
    refine idxK_nat (by omega) ?_
    conv => whnf
    refine getRow_of (x := encE s[q]) (by simp [hk3]) ?_
    conv => whnf
    repeat (first | (refine bcase_f rfl ?_; conv => whnf) | (refine bcase_t rfl ?_; conv => whnf) | (refine condK_draw (by kernel_rfl) ?_; conv => whnf) | (refine condK_of rfl ?_; conv => whnf) | (refine condK_of (by decide) ?_; conv => whnf) | (refine condK_of (by omega) ?_; conv => whnf) | (refine wrapK_in (w64 (by omega) (by omega)) ?_; conv => whnf))
    refine bcase_p (fun g => ?_) (fun g => ?_) <;> conv => whnf
    · repeat (first | (refine bcase_f rfl ?_; conv => whnf) | (refine bcase_t rfl ?_; conv => whnf) | (refine condK_draw (by kernel_rfl) ?_; conv => whnf) | (refine condK_of rfl ?_; conv => whnf) | (refine condK_of (by decide) ?_; conv => whnf) | (refine condK_of (by omega) ?_; conv => whnf) | (refine wrapK_in (w64 (by omega) (by omega)) ?_; conv => whnf))
      exact ret_of rfl (congrArg D.bool (apB_f.2 fun h => by
        have h2 := (pw_srt (fun h => rd_sym h) leD l).2 h.rd
        rw [hs] at h2
        exact rd_no h2 hk2 g.symm).symm)
    repeat (first | (refine bcase_f rfl ?_; conv => whnf) | (refine bcase_t rfl ?_; conv => whnf) | (refine condK_draw (by kernel_rfl) ?_; conv => whnf) | (refine condK_of rfl ?_; conv => whnf) | (refine condK_of (by decide) ?_; conv => whnf) | (refine condK_of (by omega) ?_; conv => whnf) | (refine wrapK_in (w64 (by omega) (by omega)) ?_; conv => whnf))
    refine ⟨q + 1, ⟨.inr (by omega), fun i hi hi2 => by
      by_cases e : i = q
      · subst e; exact fun e => g e.symm
      · exact hR i (by omega) hi2⟩, by omega, le0 (le_of_cov ⟨?_, ?_, ?_, trivial⟩ ⟨?_, trivial⟩ ⟨?_, ?_, ?_, ?_⟩)⟩ <;> kernel_rfl
  have hrd : s.Pairwise RD := rd_adj hss fun i hi => hR i (by omega) hi
  clear hR
  repeat (first | (refine bcase_f rfl ?_; conv => whnf) | (refine bcase_t rfl ?_; conv => whnf) | (refine condK_draw (by kernel_rfl) ?_; conv => whnf) | (refine condK_of rfl ?_; conv => whnf) | (refine condK_of (by decide) ?_; conv => whnf) | (refine condK_of (by omega) ?_; conv => whnf) | (refine wrapK_in (w64 (by omega) (by omega)) ?_; conv => whnf))
  refine callX_own (cloneE_ok l (by omega)) ?_
  conv => whnf
  repeat (first | (refine bcase_f rfl ?_; conv => whnf) | (refine bcase_t rfl ?_; conv => whnf) | (refine condK_draw (by kernel_rfl) ?_; conv => whnf) | (refine condK_of rfl ?_; conv => whnf) | (refine condK_of (by decide) ?_; conv => whnf) | (refine condK_of (by omega) ?_; conv => whnf) | (refine wrapK_in (w64 (by omega) (by omega)) ?_; conv => whnf))
  refine callX_blk (sortStable_ok 29 leW cmpW l (by omega)) [(1000000, 51)] rfl ⟨rfl, trivial⟩ rfl ?_
  conv => whnf
  repeat (first | (refine bcase_f rfl ?_; conv => whnf) | (refine bcase_t rfl ?_; conv => whnf) | (refine condK_draw (by kernel_rfl) ?_; conv => whnf) | (refine condK_of rfl ?_; conv => whnf) | (refine condK_of (by decide) ?_; conv => whnf) | (refine condK_of (by omega) ?_; conv => whnf) | (refine wrapK_in (w64 (by omega) (by omega)) ?_; conv => whnf))
  obtain ⟨t, ht⟩ : ∃ t, srt leW l = t := ⟨_, rfl⟩
  have hts : Sorted leW t := ht ▸ srt_sorted cmpW.tp l
  have htl : t.length = l.length := by rw [← ht, srt_len]
  have hmt : (t.map encE).length = t.length := List.length_map ..
  have htok : ∀ x ∈ t, evOk x := fun x hx => hok x (by rw [← ht] at hx; exact (srt_mem cmpW.tp).1 hx)
  rw [ht]
  refine aloop (ι := Nat) (fun k => [(7, .own 51), (8, .d (.int .i64 (k + 1 : Nat)))]) (fun _ => [(51, .row (t.map encE) 11 false)])
    (fun k => (k = 0 ∨ k + 1 ≤ t.length) ∧ ∀ i, i < k → (hi : i + 1 < t.length) → t[i].who = t[i + 1].who → t[i].ended < t[i + 1].began) (fun k => t.length - k) 0 ⟨.inl rfl, by omega⟩ (le0 (le_of_cov ⟨rfl, rfl, trivial⟩ ⟨rfl, trivial⟩ ⟨rfl, rfl, rfl, rfl⟩)) ?_
  rintro q2 ⟨hq2, hR⟩
  conv => whnf
  refine bcase_p (fun h7 => ?_) (fun h7 => ?_) <;> conv => whnf
  · have hk2 : q2 + 1 < t.length := by omega
    have hk3 : q2 < t.length := by omega
    have eq1 : ((q2 + 1 : Nat) : Int) - 1 = ((q2 : Nat) : Int) := by omega
    repeat (first | (refine bcase_f rfl ?_; conv => whnf) | (refine bcase_t rfl ?_; conv => whnf) | (refine condK_draw (by kernel_rfl) ?_; conv => whnf) | (refine condK_of rfl ?_; conv => whnf) | (refine condK_of (by decide) ?_; conv => whnf) | (refine condK_of (by omega) ?_; conv => whnf) | (refine wrapK_in (w64 (by omega) (by omega)) ?_; conv => whnf))
    rw [eq1]
    refine idxK_nat (by omega) ?_
    conv => whnf
    refine getRow_of (x := encE t[q2]) (by simp [hk3]) ?_
    conv => whnf
    repeat (first | (refine bcase_f rfl ?_; conv => whnf) | (refine bcase_t rfl ?_; conv => whnf) | (refine condK_draw (by kernel_rfl) ?_; conv => whnf) | (refine condK_of rfl ?_; conv => whnf) | (refine condK_of (by decide) ?_; conv => whnf) | (refine condK_of (by omega) ?_; conv => whnf) | (refine wrapK_in (w64 (by omega) (by omega)) ?_; conv => whnf))
    refine idxK_nat (by omega) ?_
    conv => whnf
    refine getRow_of (x := encE t[q2 + 1]) (by simp [hk2]) ?_
    conv => whnf
    repeat (first | (refine bcase_f rfl ?_; conv => whnf) | (refine bcase_t rfl ?_; conv => whnf) | (refine condK_draw (by kernel_rfl) ?_; conv => whnf) | (refine condK_of rfl ?_; conv => whnf) | (refine condK_of (by decide) ?_; conv => whnf) | (refine condK_of (by omega) ?_; conv => whnf) | (refine wrapK_in (w64 (by omega) (by omega)) ?_; conv => whnf))
    refine bcase_p (fun g => ?_) (fun g => ?_) <;> conv => whnf
    · repeat (first | (refine bcase_f rfl ?_; conv => whnf) | (refine bcase_t rfl ?_; conv => whnf) | (refine condK_draw (by kernel_rfl) ?_; conv => whnf) | (refine condK_of rfl ?_; conv => whnf) | (refine condK_of (by decide) ?_; conv => whnf) | (refine condK_of (by omega) ?_; conv => whnf) | (refine wrapK_in (w64 (by omega) (by omega)) ?_; conv => whnf))
      refine bcase_p (fun g2 => ?_) (fun g2 => ?_) <;> conv => whnf
      · repeat (first | (refine bcase_f rfl ?_; conv => whnf) | (refine bcase_t rfl ?_; conv => whnf) | (refine condK_draw (by kernel_rfl) ?_; conv => whnf) | (refine condK_of rfl ?_; conv => whnf) | (refine condK_of (by decide) ?_; conv => whnf) | (refine condK_of (by omega) ?_; conv => whnf) | (refine wrapK_in (w64 (by omega) (by omega)) ?_; conv => whnf))
        exact ret_of rfl (congrArg D.bool (apB_f.2 fun h => by
          have h2 := (pw_srt (fun h => rw_sym h) leW l).2 h.rw_
          rw [ht] at h2
          have := rw_no hts htok h2 hk2 g
          omega).symm)
      repeat (first | (refine bcase_f rfl ?_; conv => whnf) | (refine bcase_t rfl ?_; conv => whnf) | (refine condK_draw (by kernel_rfl) ?_; conv => whnf) | (refine condK_of rfl ?_; conv => whnf) | (refine condK_of (by decide) ?_; conv => whnf) | (refine condK_of (by omega) ?_; conv => whnf) | (refine wrapK_in (w64 (by omega) (by omega)) ?_; conv => whnf))
      refine ⟨q2 + 1, ⟨.inr (by omega), fun i hi hi2 => by
        by_cases e : i = q2
        · subst e; intro _; omega
        · exact hR i (by omega) hi2⟩, by omega, le0 (le_of_cov ⟨?_, ?_, trivial⟩ ⟨?_, trivial⟩ ⟨?_, ?_, ?_, ?_⟩)⟩ <;> kernel_rfl
    · repeat (first | (refine bcase_f rfl ?_; conv => whnf) | (refine bcase_t rfl ?_; conv => whnf) | (refine condK_draw (by kernel_rfl) ?_; conv => whnf) | (refine condK_of rfl ?_; conv => whnf) | (refine condK_of (by decide) ?_; conv => whnf) | (refine condK_of (by omega) ?_; conv => whnf) | (refine wrapK_in (w64 (by omega) (by omega)) ?_; conv => whnf))
      refine ⟨q2 + 1, ⟨.inr (by omega), fun i hi hi2 => by
        by_cases e : i = q2
        · subst e; intro e2; exact absurd e2 g
        · exact hR i (by omega) hi2⟩, by omega, le0 (le_of_cov ⟨?_, ?_, trivial⟩ ⟨?_, trivial⟩ ⟨?_, ?_, ?_, ?_⟩)⟩ <;> kernel_rfl
  have hrw : t.Pairwise RW := rw_adj hts htok fun i hi => hR i (by omega) hi
  repeat (first | (refine bcase_f rfl ?_; conv => whnf) | (refine bcase_t rfl ?_; conv => whnf) | (refine condK_draw (by kernel_rfl) ?_; conv => whnf) | (refine condK_of rfl ?_; conv => whnf) | (refine condK_of (by decide) ?_; conv => whnf) | (refine condK_of (by omega) ?_; conv => whnf) | (refine wrapK_in (w64 (by omega) (by omega)) ?_; conv => whnf))
  exact ret_of rfl (congrArg D.bool (apB_t.2 ⟨hok, (pw_srt (fun h => rd_sym h) leD l).1 (by rw [hs]; exact hrd), (pw_srt (fun h => rw_sym h) leW l).1 (by rw [ht]; exact hrw)⟩).symm)
end Go.Lk

set_option linter.unusedSimpArgs false
set_option linter.unusedVariables false
set_option linter.unnecessarySimpa false
namespace Go.Lk
open Go Go.Proofs Go.RowKit Go.Lk.St

set_option maxHeartbeats 4000000 in
theorem refApart_ok (l : List Ev) (hl : l.length ≤ 1000) : ACall Try.prog 19 [.lst (l.map encE)] (.bool (apB l)) := by
  refine acall_of Try.func19 1 rfl (by kernel_rfl) ?_
  conv => whnf
  have hm : (l.map encE).length = l.length := List.length_map ..
  refine aloop (ι := Nat) (fun k => [(0, .d (.lst (l.map encE))), (3, .d (.int .i64 k))]) (fun _ => [])
    (fun k => k ≤ l.length ∧ ∀ i, i < k → (hi : i < l.length) → evOk l[i] ∧ ∀ j, i < j → (hj : j < l.length) → RD l[i] l[j] ∧ RW l[i] l[j]) (fun k => l.length - k) 0 ⟨by omega, by omega⟩ (le0 (le_of_cov ⟨rfl, rfl, trivial⟩ trivial ⟨rfl, rfl, rfl, rfl⟩)) ?_
  rintro k ⟨hk, hR⟩
  conv => whnf
  refine bcase_p (fun h5 => ?_) (fun h5 => ?_) <;> conv => whnf
  · have hk2 : k < l.length := by omega
    refine idxK_nat (by omega) ?_
    conv => whnf
    refine getRow_of (x := encE l[k]) (by simp [hk2]) ?_
    conv => whnf
    repeat (first | (refine bcase_f rfl ?_; conv => whnf) | (refine bcase_t rfl ?_; conv => whnf) | (refine condK_draw (by kernel_rfl) ?_; conv => whnf) | (refine condK_of rfl ?_; conv => whnf) | (refine condK_of (by decide) ?_; conv => whnf) | (refine condK_of (by omega) ?_; conv => whnf) | (refine wrapK_in (w64 (by omega) (by omega)) ?_; conv => whnf))
    refine bcase_p (fun g1 => ?_) (fun g1 => ?_) <;> conv => whnf
    · repeat (first | (refine bcase_f rfl ?_; conv => whnf) | (refine bcase_t rfl ?_; conv => whnf) | (refine condK_draw (by kernel_rfl) ?_; conv => whnf) | (refine condK_of rfl ?_; conv => whnf) | (refine condK_of (by decide) ?_; conv => whnf) | (refine condK_of (by omega) ?_; conv => whnf) | (refine wrapK_in (w64 (by omega) (by omega)) ?_; conv => whnf))
      exact ret_of rfl (congrArg D.bool (apB_f.2 fun h => by have := h.ok l[k] (List.getElem_mem hk2); unfold evOk at this; omega).symm)
    repeat (first | (refine bcase_f rfl ?_; conv => whnf) | (refine bcase_t rfl ?_; conv => whnf) | (refine condK_draw (by kernel_rfl) ?_; conv => whnf) | (refine condK_of rfl ?_; conv => whnf) | (refine condK_of (by decide) ?_; conv => whnf) | (refine condK_of (by omega) ?_; conv => whnf) | (refine wrapK_in (w64 (by omega) (by omega)) ?_; conv => whnf))
    refine bcase_p (fun g2 => ?_) (fun g2 => ?_) <;> conv => whnf
    · exact ret_of rfl (congrArg D.bool (apB_f.2 fun h => by have := h.ok l[k] (List.getElem_mem hk2); unfold evOk at this; omega).symm)
    repeat (first | (refine bcase_f rfl ?_; conv => whnf) | (refine bcase_t rfl ?_; conv => whnf) | (refine condK_draw (by kernel_rfl) ?_; conv => whnf) | (refine condK_of rfl ?_; conv => whnf) | (refine condK_of (by decide) ?_; conv => whnf) | (refine condK_of (by omega) ?_; conv => whnf) | (refine wrapK_in (w64 (by omega) (by omega)) ?_; conv => whnf))
    refine aloop (ι := Nat) (fun j => [(0, .d (.lst (l.map encE))), (3, .d (.int .i64 k)), (4, .ptr 4 0 0), (5, .d (.int .i64 j))]) (fun _ => [(4, .box ((encE l[k]).map .d) false)])
      (fun j => k < j ∧ j ≤ l.length ∧ ∀ i, k < i → i < j → (hi : i < l.length) → RD l[k] l[i] ∧ RW l[k] l[i]) (fun j => l.length - j) (k + 1) ⟨by omega, by omega, by omega⟩ (le0 (le_of_cov ⟨rfl, rfl, rfl, rfl, trivial⟩ ⟨rfl, trivial⟩ ⟨rfl, rfl, rfl, rfl⟩)) ?_
    rintro j ⟨hj1, hj2, hJ⟩
    conv => whnf
    refine bcase_p (fun h6 => ?_) (fun h6 => ?_) <;> conv => whnf
    · have hj3 : j < l.length := by omega
      refine idxK_nat (by omega) ?_
      conv => whnf
      refine getRow_of (x := encE l[j]) (by simp [hj3]) ?_
      conv => whnf
      repeat (first | (refine bcase_f rfl ?_; conv => whnf) | (refine bcase_t rfl ?_; conv => whnf) | (refine condK_draw (by kernel_rfl) ?_; conv => whnf) | (refine condK_of rfl ?_; conv => whnf) | (refine condK_of (by decide) ?_; conv => whnf) | (refine condK_of (by omega) ?_; conv => whnf) | (refine wrapK_in (w64 (by omega) (by omega)) ?_; conv => whnf))
      refine bcase_p (fun a1 => ?_) (fun a1 => ?_) <;> conv => whnf
      · repeat (first | (refine bcase_f rfl ?_; conv => whnf) | (refine bcase_t rfl ?_; conv => whnf) | (refine condK_draw (by kernel_rfl) ?_; conv => whnf) | (refine condK_of rfl ?_; conv => whnf) | (refine condK_of (by decide) ?_; conv => whnf) | (refine condK_of (by omega) ?_; conv => whnf) | (refine wrapK_in (w64 (by omega) (by omega)) ?_; conv => whnf))
        exact ret_of rfl (congrArg D.bool (apB_f.2 fun h => (List.pairwise_iff_getElem.1 h.rd k j hk2 hj3 hj1) a1).symm)
      repeat (first | (refine bcase_f rfl ?_; conv => whnf) | (refine bcase_t rfl ?_; conv => whnf) | (refine condK_draw (by kernel_rfl) ?_; conv => whnf) | (refine condK_of rfl ?_; conv => whnf) | (refine condK_of (by decide) ?_; conv => whnf) | (refine condK_of (by omega) ?_; conv => whnf) | (refine wrapK_in (w64 (by omega) (by omega)) ?_; conv => whnf))
      refine bcase_p (fun a2 => ?_) (fun a2 => ?_) <;> conv => whnf
      · repeat (first | (refine bcase_f rfl ?_; conv => whnf) | (refine bcase_t rfl ?_; conv => whnf) | (refine condK_draw (by kernel_rfl) ?_; conv => whnf) | (refine condK_of rfl ?_; conv => whnf) | (refine condK_of (by decide) ?_; conv => whnf) | (refine condK_of (by omega) ?_; conv => whnf) | (refine wrapK_in (w64 (by omega) (by omega)) ?_; conv => whnf))
        refine bcase_p (fun a3 => ?_) (fun a3 => ?_) <;> conv => whnf
        · repeat (first | (refine bcase_f rfl ?_; conv => whnf) | (refine bcase_t rfl ?_; conv => whnf) | (refine condK_draw (by kernel_rfl) ?_; conv => whnf) | (refine condK_of rfl ?_; conv => whnf) | (refine condK_of (by decide) ?_; conv => whnf) | (refine condK_of (by omega) ?_; conv => whnf) | (refine wrapK_in (w64 (by omega) (by omega)) ?_; conv => whnf))
          refine ⟨j + 1, ⟨by omega, by omega, fun i hi1 hi hi2 => by
            by_cases e : i = j
            · subst e; exact ⟨a1, fun e2 => .inl a3⟩
            · exact hJ i hi1 (by omega) hi2⟩, by omega, le0 (le_of_cov ⟨?_, ?_, ?_, ?_, trivial⟩ ⟨?_, trivial⟩ ⟨?_, ?_, ?_, ?_⟩)⟩ <;> kernel_rfl
        repeat (first | (refine bcase_f rfl ?_; conv => whnf) | (refine bcase_t rfl ?_; conv => whnf) | (refine condK_draw (by kernel_rfl) ?_; conv => whnf) | (refine condK_of rfl ?_; conv => whnf) | (refine condK_of (by decide) ?_; conv => whnf) | (refine condK_of (by omega) ?_; conv => whnf) | (refine wrapK_in (w64 (by omega) (by omega)) ?_; conv => whnf))
        refine bcase_n (fun a4 => ?_) (fun a4 => ?_) <;> conv => whnf
        · repeat (first | (refine bcase_f rfl ?_; conv => whnf) | (refine bcase_t rfl ?_; conv => whnf) | (refine condK_draw (by kernel_rfl) ?_; conv => whnf) | (refine condK_of rfl ?_; conv => whnf) | (refine condK_of (by decide) ?_; conv => whnf) | (refine condK_of (by omega) ?_; conv => whnf) | (refine wrapK_in (w64 (by omega) (by omega)) ?_; conv => whnf))
          exact ret_of rfl (congrArg D.bool (apB_f.2 fun h => by
            rcases (List.pairwise_iff_getElem.1 h.rw_ k j hk2 hj3 hj1) a2 with h | h
            · exact a3 h
            · exact a4 h).symm)
        repeat (first | (refine bcase_f rfl ?_; conv => whnf) | (refine bcase_t rfl ?_; conv => whnf) | (refine condK_draw (by kernel_rfl) ?_; conv => whnf) | (refine condK_of rfl ?_; conv => whnf) | (refine condK_of (by decide) ?_; conv => whnf) | (refine condK_of (by omega) ?_; conv => whnf) | (refine wrapK_in (w64 (by omega) (by omega)) ?_; conv => whnf))
        refine ⟨j + 1, ⟨by omega, by omega, fun i hi1 hi hi2 => by
          by_cases e : i = j
          · subst e; exact ⟨a1, fun e2 => .inr a4⟩
          · exact hJ i hi1 (by omega) hi2⟩, by omega, le0 (le_of_cov ⟨?_, ?_, ?_, ?_, trivial⟩ ⟨?_, trivial⟩ ⟨?_, ?_, ?_, ?_⟩)⟩ <;> kernel_rfl
      repeat (first | (refine bcase_f rfl ?_; conv => whnf) | (refine bcase_t rfl ?_; conv => whnf) | (refine condK_draw (by kernel_rfl) ?_; conv => whnf) | (refine condK_of rfl ?_; conv => whnf) | (refine condK_of (by decide) ?_; conv => whnf) | (refine condK_of (by omega) ?_; conv => whnf) | (refine wrapK_in (w64 (by omega) (by omega)) ?_; conv => whnf))
      refine ⟨j + 1, ⟨by omega, by omega, fun i hi1 hi hi2 => by
        by_cases e : i = j
        · subst e; exact ⟨a1, fun e2 => absurd e2 a2⟩
        · exact hJ i hi1 (by omega) hi2⟩, by omega, le0 (le_of_cov ⟨?_, ?_, ?_, ?_, trivial⟩ ⟨?_, trivial⟩ ⟨?_, ?_, ?_, ?_⟩)⟩ <;> kernel_rfl
    · repeat (first | (refine bcase_f rfl ?_; conv => whnf) | (refine bcase_t rfl ?_; conv => whnf) | (refine condK_draw (by kernel_rfl) ?_; conv => whnf) | (refine condK_of rfl ?_; conv => whnf) | (refine condK_of (by decide) ?_; conv => whnf) | (refine condK_of (by omega) ?_; conv => whnf) | (refine wrapK_in (w64 (by omega) (by omega)) ?_; conv => whnf))
      refine ⟨k + 1, ⟨by omega, fun i hi hi2 => by
        by_cases e : i = k
        · subst e; exact ⟨⟨by omega, by omega⟩, fun j2 h1 h2 => hJ j2 h1 (by omega) h2⟩
        · exact hR i (by omega) hi2⟩, by omega, le0 (le_of_cov ⟨?_, ?_, trivial⟩ trivial ⟨?_, ?_, ?_, ?_⟩)⟩ <;> kernel_rfl
  · repeat (first | (refine bcase_f rfl ?_; conv => whnf) | (refine bcase_t rfl ?_; conv => whnf) | (refine condK_draw (by kernel_rfl) ?_; conv => whnf) | (refine condK_of rfl ?_; conv => whnf) | (refine condK_of (by decide) ?_; conv => whnf) | (refine condK_of (by omega) ?_; conv => whnf) | (refine wrapK_in (w64 (by omega) (by omega)) ?_; conv => whnf))
    refine ret_of rfl (congrArg D.bool (apB_t.2 ⟨fun x hx => ?_, ?_, ?_⟩).symm)
    · obtain ⟨i, hi, rfl⟩ := List.mem_iff_getElem.1 hx
      exact (hR i (by omega) hi).1
    · rw [List.pairwise_iff_getElem]
      intro i j hi hj hij
      exact ((hR i (by omega) hi).2 j hij hj).1
    · rw [List.pairwise_iff_getElem]
      intro i j hi hj hij
      exact ((hR i (by omega) hi).2 j hij hj).2
end Go.Lk

