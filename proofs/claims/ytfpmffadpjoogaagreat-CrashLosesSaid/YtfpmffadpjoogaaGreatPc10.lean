/-
  What is proved here: what functions of the program compute, and what follows; no condition beyond each theorem's own.
-/
import Derived.Test.YtfpmffadpjoogaaGreatPc9
set_option linter.unusedSimpArgs false
set_option linter.unusedVariables false
set_option linter.unnecessarySimpa false
set_option linter.unusedSectionVars false
namespace Go.Lk
open Go Go.Proofs Go.RowKit

theorem ite_ne {c : Prop} [Decidable c] {A B : R3} (hA : A.2.2.2 ≠ 13) (hB : B.2.2.2 ≠ 13) : (if c then A else B).2.2.2 ≠ 13 := by split <;> assumption
theorem doc_e (P : Nat → Pg) (W : Nat → Int) (n : Nat) (a : PAct) : (docM P W n a).2.2.2 ≠ 13 := by
  rw [docM, thereM]
  repeat' refine ite_ne ?_ ?_
  all_goals simp
def pastL (L : Nat → List Pg) (P : Nat → Pg) (a : PAct) (e : Int) : Nat → List Pg :=
  if e ≠ 0 ∨ ¬ (1 ≤ a.2.1 ∧ a.2.1 ≤ 16) then L
  else if a.1 = 2 ∨ a.1 = 4 then ud L a.2.1.toNat (L a.2.1.toNat ++ [P a.2.1.toNat])
  else if a.1 = 6 ∨ a.1 = 7 then ud L a.2.1.toNat [P a.2.1.toNat] else L
theorem pastL_len {L : Nat → List Pg} {P a e} {c : Nat} (h : ∀ q, (L q).length ≤ c) (q : Nat) : (pastL L P a e q).length ≤ c + 1 := by
  have h0 := h q
  have h1 := h a.2.1.toNat
  rw [pastL]
  repeat' split
  · omega
  · rw [ud]; split
    · rw [List.length_append]; simp; omega
    · omega
  · rw [ud]; split
    · simp
    · omega
  · omega
set_option maxRecDepth 100000 in
set_option maxHeartbeats 8000000 in
theorem actW_ok {p P W v u} (h : Inv p P W v u) (h0 : p.now = 0) (hv1 : 1 ≤ v) (hv : v < 2147483647) (hu0 : 0 ≤ u) (hu : u < 2147483647) (a : PAct) {n : Nat} (hl : p.f.fr.length = n) (L : Nat → List Pg) (hL : ∀ q, (L q).length ≤ 1000) :
    ∃ q P' W' x l e, poolDo p a = (q, x, l, e) ∧ Inv q P' W' (v + 1) (u + 1) ∧ q.now = 0 ∧ q.f.fr.length = n ∧ runL p.d l = q.d ∧ (e ≠ 0 → l = []) ∧ docM P W n a = (P', W', x, e) ∧
      ACall Tryz.prog 35 [.agg (wD (tsOf p) P W n L), .agg (encPA a)] (.tup [.agg (wD (tsOf q) P' W' n (pastL L P' a e)), .bool true]) := by
  obtain ⟨q, P', W', x, l, e, e1, iq, qn, qlen, run, few, none, hdoc, c18, c19⟩ := act_facts h hv1 hv hu0 hu a hl
  refine ⟨q, P', W', x, l, e, e1, iq, qn.trans h0, qlen, run, none, hdoc, ?_⟩
  have he13 : e ≠ 13 := by
    have := doc_e P W n a
    rw [hdoc] at this; exact this
  have hG : Gd 0 p := ⟨h.pj.fm, by rw [h.pj.d]; exact h.pj.rest.us, h0⟩
  have c32 := hG.t.ok (by decide) a
  rw [doT_of e1] at c32
  have hM := ML.of P' W' n
  have hlm : (mL P' W' n).length = 69 := rfl
  refine acall_of Tryz.func35 2 rfl (by kernel_rfl) ?_
  conv => whnf
  repeat ((first | refine bF ?_ | refine bT ?_ | refine dK ?_ | refine cR ?_ | refine cK ?_ | refine wK ?_); conv => whnf)
  refine callX_pure c32 ?_
  conv => whnf
  repeat ((first | refine bF ?_ | refine bT ?_ | refine dK ?_ | refine cR ?_ | refine cK ?_ | refine wK ?_); conv => whnf)
  refine callX_pure c19 ?_
  conv => whnf
  repeat ((first | refine bF ?_ | refine bT ?_ | refine dK ?_ | refine cR ?_ | refine cK ?_ | refine wK ?_); conv => whnf)
  -- is there such a page?
  obtain ⟨k, id, b⟩ := a
  by_cases ht : 1 ≤ id ∧ id ≤ 16
  · obtain ⟨t1, t16⟩ := ht
    obtain ⟨d, rfl⟩ : ∃ d : Nat, id = d := ⟨id.toNat, by omega⟩
    refine bcase_t (decide_eq_true t1) ?_
    conv => whnf
    repeat ((first | refine bF ?_ | refine bT ?_ | refine dK ?_ | refine cR ?_ | refine cK ?_ | refine wK ?_); conv => whnf)
    refine bcase_f (decide_eq_false he13) ?_
    conv => whnf
    repeat ((first | refine bF ?_ | refine bT ?_ | refine dK ?_ | refine cR ?_ | refine cK ?_ | refine wK ?_); conv => whnf)
    refine bcase_f (by simp) ?_
    conv => whnf
    refine bcase_f (by simp) ?_
    conv => whnf
    repeat ((first | refine bF ?_ | refine bT ?_ | refine dK ?_ | refine cR ?_ | refine cK ?_ | refine wK ?_); conv => whnf)
    by_cases h0e : e = 0
    · subst h0e
      repeat ((first | refine bF ?_ | refine bT ?_ | refine dK ?_ | refine cR ?_ | refine cK ?_ | refine wK ?_); conv => whnf)
      refine bcase_f (by simp [t16]) ?_
      conv => whnf
      repeat ((first | refine bF ?_ | refine bT ?_ | refine dK ?_ | refine cR ?_ | refine cK ?_ | refine wK ?_); conv => whnf)
      refine bcase_p (fun c1 => ?_) (fun c1 => ?_) <;> conv => whnf
      · refine bcase_t (decide_eq_true c1) ?_
        conv => whnf
        repeat ((first | refine bF ?_ | refine bT ?_ | refine dK ?_ | refine cR ?_ | refine cK ?_ | refine wK ?_); conv => whnf)
        refine idxK_nat (by omega) ?_
        conv => whnf
        try (refine condK_of rfl ?_)
        refine (part_agg (l := mL P' W' n) (l2 := encP (P' d)) (by first | rfl | simp only [killC_d]) (by first | omega | (simp only [szs]; omega)) (hM.p (by simp only [szs]; omega) (by omega)) ?_)
        conv => whnf
        repeat ((first | refine bF ?_ | refine bT ?_ | refine dK ?_ | refine cR ?_ | refine cK ?_ | refine wK ?_); conv => whnf)
        refine callX_pure (became_ok L d (P' d) (by omega) (by omega) (hL d)) ?_
        conv => whnf
        repeat ((first | refine bF ?_ | refine bT ?_ | refine dK ?_ | refine cR ?_ | refine cK ?_ | refine wK ?_); conv => whnf)
        rw [pastL, if_neg (fun g => g.elim (fun g => g rfl) (fun g => g ⟨t1, t16⟩)), if_pos (.inl c1), Int.toNat_natCast]
        exact ret_of rfl rfl
      refine bcase_p (fun c2 => ?_) (fun c2 => ?_) <;> conv => whnf
      · repeat ((first | refine bF ?_ | refine bT ?_ | refine dK ?_ | refine cR ?_ | refine cK ?_ | refine wK ?_); conv => whnf)
        refine idxK_nat (by omega) ?_
        conv => whnf
        try (refine condK_of rfl ?_)
        refine (part_agg (l := mL P' W' n) (l2 := encP (P' d)) (by first | rfl | simp only [killC_d]) (by first | omega | (simp only [szs]; omega)) (hM.p (by simp only [szs]; omega) (by omega)) ?_)
        conv => whnf
        repeat ((first | refine bF ?_ | refine bT ?_ | refine dK ?_ | refine cR ?_ | refine cK ?_ | refine wK ?_); conv => whnf)
        refine callX_pure (became_ok L d (P' d) (by omega) (by omega) (hL d)) ?_
        conv => whnf
        repeat ((first | refine bF ?_ | refine bT ?_ | refine dK ?_ | refine cR ?_ | refine cK ?_ | refine wK ?_); conv => whnf)
        rw [pastL, if_neg (fun g => g.elim (fun g => g rfl) (fun g => g ⟨t1, t16⟩)), if_pos (.inr c2), Int.toNat_natCast]
        exact ret_of rfl rfl
      repeat ((first | refine bF ?_ | refine bT ?_ | refine dK ?_ | refine cR ?_ | refine cK ?_ | refine wK ?_); conv => whnf)
      refine bcase_p (fun c3 => ?_) (fun c3 => ?_) <;> conv => whnf
      · refine bcase_t (decide_eq_true c3) ?_
        conv => whnf
        repeat ((first | refine bF ?_ | refine bT ?_ | refine dK ?_ | refine cR ?_ | refine cK ?_ | refine wK ?_); conv => whnf)
        refine idxK_nat (by omega) ?_
        conv => whnf
        try (refine condK_of rfl ?_)
        refine (part_agg (l := mL P' W' n) (l2 := encP (P' d)) (by first | rfl | simp only [killC_d]) (by first | omega | (simp only [szs]; omega)) (hM.p (by simp only [szs]; omega) (by omega)) ?_)
        conv => whnf
        repeat ((first | refine bF ?_ | refine bT ?_ | refine dK ?_ | refine cR ?_ | refine cK ?_ | refine wK ?_); conv => whnf)
        refine callX_pure (sure_ok L d (P' d) (by omega) (by omega)) ?_
        conv => whnf
        repeat ((first | refine bF ?_ | refine bT ?_ | refine dK ?_ | refine cR ?_ | refine cK ?_ | refine wK ?_); conv => whnf)
        rw [pastL, if_neg (fun g => g.elim (fun g => g rfl) (fun g => g ⟨t1, t16⟩)), if_neg (fun g => g.elim c1 c2), if_pos (.inl c3), Int.toNat_natCast]
        exact ret_of rfl rfl
      refine bcase_p (fun c4 => ?_) (fun c4 => ?_) <;> conv => whnf
      · repeat ((first | refine bF ?_ | refine bT ?_ | refine dK ?_ | refine cR ?_ | refine cK ?_ | refine wK ?_); conv => whnf)
        refine idxK_nat (by omega) ?_
        conv => whnf
        try (refine condK_of rfl ?_)
        refine (part_agg (l := mL P' W' n) (l2 := encP (P' d)) (by first | rfl | simp only [killC_d]) (by first | omega | (simp only [szs]; omega)) (hM.p (by simp only [szs]; omega) (by omega)) ?_)
        conv => whnf
        repeat ((first | refine bF ?_ | refine bT ?_ | refine dK ?_ | refine cR ?_ | refine cK ?_ | refine wK ?_); conv => whnf)
        refine callX_pure (sure_ok L d (P' d) (by omega) (by omega)) ?_
        conv => whnf
        repeat ((first | refine bF ?_ | refine bT ?_ | refine dK ?_ | refine cR ?_ | refine cK ?_ | refine wK ?_); conv => whnf)
        rw [pastL, if_neg (fun g => g.elim (fun g => g rfl) (fun g => g ⟨t1, t16⟩)), if_neg (fun g => g.elim c1 c2), if_pos (.inr c4), Int.toNat_natCast]
        exact ret_of rfl rfl
      repeat ((first | refine bF ?_ | refine bT ?_ | refine dK ?_ | refine cR ?_ | refine cK ?_ | refine wK ?_); conv => whnf)
      rw [pastL, if_neg (fun g => g.elim (fun g => g rfl) (fun g => g ⟨t1, t16⟩)), if_neg (fun g => g.elim c1 c2), if_neg (fun g => g.elim c3 c4)]
      exact ret_of rfl rfl
    refine bcase_t (by simp [h0e]) ?_
    conv => whnf
    repeat ((first | refine bF ?_ | refine bT ?_ | refine dK ?_ | refine cR ?_ | refine cK ?_ | refine wK ?_); conv => whnf)
    rw [pastL, if_pos (.inl h0e)]
    exact ret_of rfl rfl
  have hp : pastL L P' (k, id, b) e = L := by rw [pastL, if_pos (.inr ht)]
  rw [hp]
  by_cases t1 : 1 ≤ id
  · have t16 : ¬ id ≤ 16 := fun g => ht ⟨t1, g⟩
    refine bcase_t (decide_eq_true t1) ?_
    conv => whnf
    repeat ((first | refine bF ?_ | refine bT ?_ | refine dK ?_ | refine cR ?_ | refine cK ?_ | refine wK ?_); conv => whnf)
    refine bcase_f (decide_eq_false he13) ?_
    conv => whnf
    repeat ((first | refine bF ?_ | refine bT ?_ | refine dK ?_ | refine cR ?_ | refine cK ?_ | refine wK ?_); conv => whnf)
    refine bcase_f (by simp) ?_
    conv => whnf
    refine bcase_f (by simp) ?_
    conv => whnf
    repeat ((first | refine bF ?_ | refine bT ?_ | refine dK ?_ | refine cR ?_ | refine cK ?_ | refine wK ?_); conv => whnf)
    by_cases h0e : e = 0
    · subst h0e
      repeat ((first | refine bF ?_ | refine bT ?_ | refine dK ?_ | refine cR ?_ | refine cK ?_ | refine wK ?_); conv => whnf)
      refine bcase_t (by simp [t16]) ?_
      conv => whnf
      repeat ((first | refine bF ?_ | refine bT ?_ | refine dK ?_ | refine cR ?_ | refine cK ?_ | refine wK ?_); conv => whnf)
      exact ret_of rfl rfl
    refine bcase_t (by simp [h0e]) ?_
    conv => whnf
    repeat ((first | refine bF ?_ | refine bT ?_ | refine dK ?_ | refine cR ?_ | refine cK ?_ | refine wK ?_); conv => whnf)
    exact ret_of rfl rfl
  refine bcase_f (decide_eq_false t1) ?_
  conv => whnf
  repeat ((first | refine bF ?_ | refine bT ?_ | refine dK ?_ | refine cR ?_ | refine cK ?_ | refine wK ?_); conv => whnf)
  refine bcase_f (decide_eq_false he13) ?_
  conv => whnf
  repeat ((first | refine bF ?_ | refine bT ?_ | refine dK ?_ | refine cR ?_ | refine cK ?_ | refine wK ?_); conv => whnf)
  refine bcase_f (by simp) ?_
  conv => whnf
  refine bcase_f (by simp) ?_
  conv => whnf
  repeat ((first | refine bF ?_ | refine bT ?_ | refine dK ?_ | refine cR ?_ | refine cK ?_ | refine wK ?_); conv => whnf)
  by_cases h0e : e = 0
  · subst h0e
    repeat ((first | refine bF ?_ | refine bT ?_ | refine dK ?_ | refine cR ?_ | refine cK ?_ | refine wK ?_); conv => whnf)
    exact ret_of rfl rfl
  refine bcase_t (by simp [h0e]) ?_
  conv => whnf
  repeat ((first | refine bF ?_ | refine bT ?_ | refine dK ?_ | refine cR ?_ | refine cK ?_ | refine wK ?_); conv => whnf)
  exact ret_of rfl rfl
end Go.Lk

