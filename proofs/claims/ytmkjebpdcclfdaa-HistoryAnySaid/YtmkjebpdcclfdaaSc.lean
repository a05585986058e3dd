/-
  the stable sort: symMerge, stable.
-/
import Derived.Test.YtmkjebpdcclfdaaSb
set_option linter.unusedSectionVars false
set_option linter.unusedSimpArgs false
set_option linter.unusedVariables false
set_option linter.unnecessarySimpa false
namespace Go.Lk
open Go Go.Proofs Go.RowKit Go.Lk.St

section
variable {E : Type} {le : E → E → Bool}
theorem sorted_le (h : TP le) {l : List E} (hs : Sorted le l) {i j : Nat} (hi : i < l.length) (hj : j < l.length) (hij : i ≤ j) : le l[i] l[j] = true := by
  by_cases e : i = j
  · subst e; exact h.refl _
  · exact List.pairwise_iff_getElem.1 hs i j hi hj (by omega)
def symLo (a b h : Nat) : Nat := if a > h then h - b else 0
def symHi (a h : Nat) : Nat := if a > h then h else a
theorem sym_split (tp : TP le) {L R : List E} (hL : Sorted le L) (hR : Sorted le R) {h s : Nat} (hh : h = (L.length + R.length) / 2) (h1 : symLo L.length R.length h ≤ s) (h2 : s ≤ symHi L.length h)
    (P1 : ∀ u, symLo L.length R.length h ≤ u → u < s → ∀ (hu : u < L.length) (hv : h - 1 - u < R.length), le L[u] R[h - 1 - u] = true)
    (P2 : ∀ u, s ≤ u → u < symHi L.length h → ∀ (hu : u < L.length) (hv : h - 1 - u < R.length), le L[u] R[h - 1 - u] = false) :
    (∀ x ∈ L.drop s, ∀ y ∈ R.take (h - s), le x y = false) ∧ ∀ x ∈ L.take s, ∀ y ∈ R.drop (h - s), le x y = true := by
  have hcs : (L.length > h ∧ symLo L.length R.length h = h - R.length ∧ symHi L.length h = h) ∨ (L.length ≤ h ∧ symLo L.length R.length h = 0 ∧ symHi L.length h = L.length) := by
    by_cases hc : L.length > h
    · exact .inl ⟨hc, if_pos hc, if_pos hc⟩
    · exact .inr ⟨by omega, if_neg hc, if_neg hc⟩
  constructor
  · intro x hx y hy
    obtain ⟨i, hi, rfl⟩ := List.mem_iff_getElem.1 hx
    obtain ⟨j, hj, rfl⟩ := List.mem_iff_getElem.1 hy
    simp only [List.getElem_drop, List.getElem_take]
    simp only [List.length_drop] at hi
    simp only [List.length_take] at hj
    have hs : s < symHi L.length h := by omega
    have hsl : s < L.length := by omega
    have hv : h - 1 - s < R.length := by omega
    cases e : le L[s + i] R[j] with
    | false => rfl
    | true =>
      have q := P2 s (Nat.le_refl _) hs hsl hv
      have := tp.trans _ _ _ (tp.trans _ _ _ (sorted_le tp hL hsl (show s + i < L.length by omega) (by omega)) e) (sorted_le tp hR (show j < R.length by omega) hv (by omega))
      rw [this] at q; cases q
  · intro x hx y hy
    obtain ⟨i, hi, rfl⟩ := List.mem_iff_getElem.1 hx
    obtain ⟨j, hj, rfl⟩ := List.mem_iff_getElem.1 hy
    simp only [List.getElem_drop, List.getElem_take]
    simp only [List.length_take] at hi
    simp only [List.length_drop] at hj
    have hs : symLo L.length R.length h < s := by omega
    have hv : h - 1 - (s - 1) < R.length := by omega
    have hsl : s - 1 < L.length := by omega
    have q := P1 (s - 1) (by omega) (by omega) hsl hv
    exact tp.trans _ _ _ (tp.trans _ _ _ (sorted_le tp hL (show i < L.length by omega) hsl (by omega)) q) (sorted_le tp hR hv (show h - s + j < R.length by omega) (by omega))
end
theorem wu64 {n : Int} (h0 : 0 ≤ n) (h1 : n ≤ 9223372036854775807) : IntKind.u64.wrap n = n := by
  rw [IntKind.wrap_u64]; omega
theorem half {a b : Nat} : Int.fdiv (((a + b : Nat) : Int)) (2 ^ (min (1 : Int).toNat (IntKind.bits .u64))) = (((a + b) / 2 : Nat) : Int) := by
  rw [show (2 : Int) ^ (min (1 : Int).toNat (IntKind.bits .u64)) = 2 from rfl, Int.fdiv_eq_ediv_of_nonneg _ (by decide)]
  omega

theorem rotate2 (cf : FuncId) (A L R C X : List Ev) (a m b : Nat) (ha : a = A.length) (hmm : m = A.length + L.length) (hb : b = A.length + L.length + R.length) (hX : X = A ++ (L ++ (R ++ C))) (hL : L ≠ []) (hR : R ≠ []) (hm : A.length + L.length + R.length + C.length ≤ 1000000) :
    HCall Try.prog 44 [.own 1000000, .d (.int .i64 (a : Int)), .d (.int .i64 (m : Int)), .d (.int .i64 (b : Int)), .d (.fn cf [])] [(1000000, .row (X.map encE) 11 false)] [(1000000, .row ((A ++ (R ++ (L ++ C))).map encE) 11 false)] (.tup []) := by
  subst ha hmm hb hX
  exact rotate_ok cf A L R C hL hR hm
set_option maxHeartbeats 4000000 in
theorem symMerge_ok (cf : FuncId) (le : Ev → Ev → Bool) (hc : Cmp cf le) : ∀ (n : Nat) (A L R C : List Ev), L.length + R.length ≤ n → L ≠ [] → R ≠ [] → Sorted le L → Sorted le R → A.length + L.length + R.length + C.length ≤ 1000000 →
    HCall Try.prog 42 [.own 1000000, .d (.int .i64 A.length), .d (.int .i64 ((A.length + L.length : Nat) : Int)), .d (.int .i64 ((A.length + L.length + R.length : Nat) : Int)), .d (.fn cf [])] [(1000000, .row ((A ++ (L ++ (R ++ C))).map encE) 11 false)] [(1000000, .row ((A ++ (srt le (L ++ R) ++ C)).map encE) 11 false)] (.tup [])
  | 0, A, L, R, C, hn, hL, hR, _, _, _ => absurd (List.length_eq_zero_iff.1 (show L.length = 0 by omega)) hL
  | n + 1, A, L, R, C, hn, hL, hR, sL, sR, hm => by
    refine hcall_of Try.func42 5 rfl (by kernel_rfl) (by rfl) ?_
    conv => whnf
    have l0 : 0 < L.length := List.length_pos_iff.2 hL
    have r0 : 0 < R.length := List.length_pos_iff.2 hR
    have e1 : ((A.length + L.length : Nat) : Int) - (A.length : Int) = ((L.length : Nat) : Int) := by omega
    have e2 : ((A.length + L.length + R.length : Nat) : Int) - ((A.length + L.length : Nat) : Int) = ((R.length : Nat) : Int) := by omega
    repeat (first | (refine bcase_f rfl ?_; conv => whnf) | (refine bcase_t rfl ?_; conv => whnf) | (refine condK_draw (by kernel_rfl) ?_; conv => whnf) | (refine condK_of rfl ?_; conv => whnf) | (refine condK_of (by decide) ?_; conv => whnf) | (refine condK_of (by omega) ?_; conv => whnf) | (refine wrapK_in (w64 (by omega) (by omega)) ?_; conv => whnf))
    rw [e1]
    refine bcase_p (fun hl1 => ?_) (fun hl1 => ?_) <;> conv => whnf
    · obtain ⟨x, rfl⟩ : ∃ x, L = [x] := by
        match L, hl1 with
        | [x], _ => exact ⟨x, rfl⟩
        | _ :: _ :: _, h => simp at h; omega
      clear e1 e2 l0 hL sL hl1
      repeat (first | (refine bcase_f rfl ?_; conv => whnf) | (refine bcase_t rfl ?_; conv => whnf) | (refine condK_draw (by kernel_rfl) ?_; conv => whnf) | (refine condK_of rfl ?_; conv => whnf) | (refine condK_of (by decide) ?_; conv => whnf) | (refine condK_of (by omega) ?_; conv => whnf) | (refine wrapK_in (w64 (by omega) (by omega)) ?_; conv => whnf))
      have ga : (A ++ ([x] ++ (R ++ C)))[A.length]? = some x := get_mid rfl
      have hml : ((A ++ ([x] ++ (R ++ C))).map encE).length = A.length + 1 + R.length + C.length := by simp; omega
      have gr (r : Nat) (hr : r < R.length) : (A ++ ([x] ++ (R ++ C)))[A.length + 1 + r]? = some R[r] := by
        rw [List.getElem?_append_right (by omega), show A.length + 1 + r - A.length = r + 1 by omega, List.singleton_append, List.getElem?_cons_succ, List.getElem?_append_left hr, List.getElem?_eq_getElem hr]
      refine aloop (ι := Nat × Nat) (fun s => [(0, .own 1000000), (1, .d (.int .i64 A.length)), (4, .d (.fn cf [])), (10, .d (.int .i64 ((A.length + 1 + s.1 : Nat) : Int))), (11, .d (.int .i64 ((A.length + 1 + s.2 : Nat) : Int)))]) (fun s => [(1000000, .row ((A ++ ([x] ++ (R ++ C))).map encE) 11 false)])
        (fun s => s.1 ≤ s.2 ∧ s.2 ≤ R.length ∧ (∀ i, i < s.1 → ∀ h : i < R.length, le x R[i] = false) ∧ (∀ i, s.2 ≤ i → ∀ h : i < R.length, le x R[i] = true)) (fun s => s.2 - s.1) (0, R.length) ⟨Nat.zero_le _, Nat.le_refl _, fun i h => absurd h (Nat.not_lt_zero _), fun i h h2 => by omega⟩ (le0 (le_of_cov ⟨rfl, rfl, rfl, rfl, rfl, trivial⟩ ⟨rfl, trivial⟩ ⟨rfl, rfl, rfl, rfl⟩)) ?_
      rintro ⟨p, q⟩ ⟨hpq, hqR, hP, hQ⟩
      simp only at hpq hqR hP hQ ⊢
      conv => whnf
      refine bcase_p (fun hlt => ?_) (fun hlt => ?_) <;> conv => whnf
      · have es : ((A.length + 1 + p : Nat) : Int) + ((A.length + 1 + q : Nat) : Int) = (((A.length + 1 + p) + (A.length + 1 + q) : Nat) : Int) := by omega
        have eh : ((A.length + 1 + p) + (A.length + 1 + q)) / 2 = A.length + 1 + (p + q) / 2 := by omega
        have hr : (p + q) / 2 < R.length := by omega
        have hb1 : p ≤ (p + q) / 2 := by omega
        have hb2 : (p + q) / 2 < q := by omega
        repeat (first | (refine bcase_f rfl ?_; conv => whnf) | (refine bcase_t rfl ?_; conv => whnf) | (refine condK_draw (by kernel_rfl) ?_; conv => whnf) | (refine condK_of rfl ?_; conv => whnf) | (refine condK_of (by decide) ?_; conv => whnf) | (refine condK_of (by omega) ?_; conv => whnf) | (refine wrapK_in (w64 (by omega) (by omega)) ?_; conv => whnf))
        rw [es]
        refine wrapK_in (wu64 (by omega) (by omega)) ?_
        conv => whnf
        repeat (first | (refine bcase_f rfl ?_; conv => whnf) | (refine bcase_t rfl ?_; conv => whnf) | (refine condK_draw (by kernel_rfl) ?_; conv => whnf) | (refine condK_of rfl ?_; conv => whnf) | (refine condK_of (by decide) ?_; conv => whnf) | (refine condK_of (by omega) ?_; conv => whnf) | (refine wrapK_in (w64 (by omega) (by omega)) ?_; conv => whnf))
        rw [half, eh]
        generalize hrr : (p + q) / 2 = r at hr hb1 hb2 ⊢
        repeat (first | (refine bcase_f rfl ?_; conv => whnf) | (refine bcase_t rfl ?_; conv => whnf) | (refine condK_draw (by kernel_rfl) ?_; conv => whnf) | (refine condK_of rfl ?_; conv => whnf) | (refine condK_of (by decide) ?_; conv => whnf) | (refine condK_of (by omega) ?_; conv => whnf) | (refine wrapK_in (w64 (by omega) (by omega)) ?_; conv => whnf))
        refine idxK_nat (by omega) ?_
        conv => whnf
        refine getRow_of (getE_enc (gr r hr)) ?_
        conv => whnf
        repeat (first | (refine bcase_f rfl ?_; conv => whnf) | (refine bcase_t rfl ?_; conv => whnf) | (refine condK_draw (by kernel_rfl) ?_; conv => whnf) | (refine condK_of rfl ?_; conv => whnf) | (refine condK_of (by decide) ?_; conv => whnf) | (refine condK_of (by omega) ?_; conv => whnf) | (refine wrapK_in (w64 (by omega) (by omega)) ?_; conv => whnf))
        refine idxK_nat (by omega) ?_
        conv => whnf
        refine getRow_of (getE_enc ga) ?_
        conv => whnf
        repeat (first | (refine bcase_f rfl ?_; conv => whnf) | (refine bcase_t rfl ?_; conv => whnf) | (refine condK_draw (by kernel_rfl) ?_; conv => whnf) | (refine condK_of rfl ?_; conv => whnf) | (refine condK_of (by decide) ?_; conv => whnf) | (refine condK_of (by omega) ?_; conv => whnf) | (refine wrapK_in (w64 (by omega) (by omega)) ?_; conv => whnf))
        obtain ⟨c, hcall, hlt2⟩ := hc.call R[r] x
        refine callX_pure hcall ?_
        conv => whnf
        repeat (first | (refine bcase_f rfl ?_; conv => whnf) | (refine bcase_t rfl ?_; conv => whnf) | (refine condK_draw (by kernel_rfl) ?_; conv => whnf) | (refine condK_of rfl ?_; conv => whnf) | (refine condK_of (by decide) ?_; conv => whnf) | (refine condK_of (by omega) ?_; conv => whnf) | (refine wrapK_in (w64 (by omega) (by omega)) ?_; conv => whnf))
        refine bcase_p (fun h2 => ?_) (fun h2 => ?_) <;> conv => whnf
        · have h3 := hlt2.1 h2
          repeat (first | (refine bcase_f rfl ?_; conv => whnf) | (refine bcase_t rfl ?_; conv => whnf) | (refine condK_draw (by kernel_rfl) ?_; conv => whnf) | (refine condK_of rfl ?_; conv => whnf) | (refine condK_of (by decide) ?_; conv => whnf) | (refine condK_of (by omega) ?_; conv => whnf) | (refine wrapK_in (w64 (by omega) (by omega)) ?_; conv => whnf))
          have e1 : ((A.length + 1 + r : Nat) : Int) + 1 = ((A.length + 1 + (r + 1) : Nat) : Int) := by omega
          rw [e1]
          exact ⟨(r + 1, q), ⟨by simp only []; omega, hqR, fun i hi hiR => by
            cases e : le x R[i] with
            | false => rfl
            | true => (rw [hc.tp.trans _ _ _ e (sorted_le hc.tp sR hiR hr (by simp only [] at hi; omega))] at h3; cases h3), hQ⟩, by simp only []; omega, (le0 (le_of_cov ⟨rfl, rfl, rfl, rfl, rfl, trivial⟩ ⟨rfl, trivial⟩ ⟨rfl, rfl, rfl, rfl⟩))⟩
        · have h3 : le x R[r] = true := by
            cases e : le x R[r] with
            | true => rfl
            | false => exact absurd (hlt2.2 e) h2
          repeat (first | (refine bcase_f rfl ?_; conv => whnf) | (refine bcase_t rfl ?_; conv => whnf) | (refine condK_draw (by kernel_rfl) ?_; conv => whnf) | (refine condK_of rfl ?_; conv => whnf) | (refine condK_of (by decide) ?_; conv => whnf) | (refine condK_of (by omega) ?_; conv => whnf) | (refine wrapK_in (w64 (by omega) (by omega)) ?_; conv => whnf))
          exact ⟨(p, r), ⟨hb1, by simp only []; omega, hP, fun i hi hiR => hc.tp.trans _ _ _ h3 (sorted_le hc.tp sR hr hiR hi)⟩, by simp only []; omega, (le0 (le_of_cov ⟨rfl, rfl, rfl, rfl, rfl, trivial⟩ ⟨rfl, trivial⟩ ⟨rfl, rfl, rfl, rfl⟩))⟩
      · have hpq2 : p = q := by omega
        subst hpq2
        obtain ⟨R1, R2, rfl, hR1⟩ := split_at (X := R) (n := p) hqR
        have f1 : ∀ y ∈ R1, le x y = false := fun y hy => by
          obtain ⟨i, hi, rfl⟩ := List.mem_iff_getElem.1 hy
          have := hP i (by omega) (by simp; omega)
          rwa [List.getElem_append_left hi] at this
        have f2 : ∀ y ∈ R2, le x y = true := fun y hy => by
          obtain ⟨i, hi, rfl⟩ := List.mem_iff_getElem.1 hy
          have := hQ (R1.length + i) (by omega) (by simp; omega)
          rw [List.getElem_append_right (by omega)] at this
          simpa [Nat.add_sub_cancel_left] using this
        subst hR1
        have hfin : A ++ (srt le ([x] ++ (R1 ++ R2)) ++ C) = A ++ (R1 ++ (x :: (R2 ++ C))) := by
          rw [List.singleton_append, ← ins_front hc.tp sR f1 f2]; simp
        rw [hfin]
        clear hfin gr hP hQ ga hml
        rw [List.length_append] at hm hqR
        have ei : ((A.length + 1 + R1.length : Nat) : Int) - 1 = ((A.length + R1.length : Nat) : Int) := by omega
        repeat (first | (refine bcase_f rfl ?_; conv => whnf) | (refine bcase_t rfl ?_; conv => whnf) | (refine condK_draw (by kernel_rfl) ?_; conv => whnf) | (refine condK_of rfl ?_; conv => whnf) | (refine condK_of (by decide) ?_; conv => whnf) | (refine condK_of (by omega) ?_; conv => whnf) | (refine wrapK_in (w64 (by omega) (by omega)) ?_; conv => whnf))
        refine aloop (ι := Nat) (fun u => [(0, .own 1000000), (10, .d (.int .i64 ((A.length + 1 + R1.length : Nat) : Int))), (13, .d (.int .i64 ((A.length + u : Nat) : Int)))]) (fun u => [(1000000, .row ((A ++ (R1.take u ++ (x :: (R1.drop u ++ (R2 ++ C))))).map encE) 11 false)])
          (fun u => u ≤ R1.length) (fun u => R1.length - u) 0 (Nat.zero_le _) (le0 (le_of_cov ⟨rfl, rfl, rfl, trivial⟩ ⟨by show some (Blk.row ((A ++ ([x] ++ ((R1 ++ R2) ++ C))).map encE) 11 false) = _; simp, trivial⟩ ⟨by show some _ = some (Blk.row ((A ++ ([x] ++ ((R1 ++ R2) ++ C))).map encE) 11 false); simp, rfl, rfl, rfl⟩)) ?_
        intro u hu
        conv => whnf
        repeat (first | (refine bcase_f rfl ?_; conv => whnf) | (refine bcase_t rfl ?_; conv => whnf) | (refine condK_draw (by kernel_rfl) ?_; conv => whnf) | (refine condK_of rfl ?_; conv => whnf) | (refine condK_of (by decide) ?_; conv => whnf) | (refine condK_of (by omega) ?_; conv => whnf) | (refine wrapK_in (w64 (by omega) (by omega)) ?_; conv => whnf))
        rw [ei]
        refine bcase_p (fun h4 => ?_) (fun h4 => ?_) <;> conv => whnf
        · have hu2 : u < R1.length := by omega
          have hd : R1.drop u = R1[u] :: R1.drop (u + 1) := drop_cons hu2
          have ht : R1.take (u + 1) = R1.take u ++ [R1[u]] := take_snoc hu2
          have hl : (R1.take u).length = u := by simp; omega
          have hl2 : (R1.drop (u + 1)).length + (u + 1) = R1.length := by simp; omega
          generalize R1[u] = y at hd ht
          have ez : A ++ (R1.take u ++ (x :: (R1.drop u ++ (R2 ++ C)))) = (A ++ R1.take u) ++ x :: (y :: (R1.drop (u + 1) ++ (R2 ++ C))) := by rw [hd]; simp only [List.append_assoc, List.cons_append]
          have ez2 : (A ++ R1.take u) ++ x :: (y :: (R1.drop (u + 1) ++ (R2 ++ C))) = ((A ++ R1.take u) ++ [x]) ++ y :: (R1.drop (u + 1) ++ (R2 ++ C)) := by simp only [List.append_assoc, List.cons_append, List.nil_append]
          rw [ez]
          have hml : (((A ++ R1.take u) ++ x :: (y :: (R1.drop (u + 1) ++ (R2 ++ C)))).map encE).length = A.length + 1 + R1.length + R2.length + C.length := by simp only [List.length_map, List.length_append, List.length_cons, hl]; omega
          have g1 : ((A ++ R1.take u) ++ x :: (y :: (R1.drop (u + 1) ++ (R2 ++ C))))[A.length + u]? = some x := get_mid (by simp [hl])
          have g2 : ((A ++ R1.take u) ++ x :: (y :: (R1.drop (u + 1) ++ (R2 ++ C))))[A.length + (u + 1)]? = some y := by rw [ez2]; exact get_mid (by simp [hl] <;> omega)
          have eu : ((A.length + u : Nat) : Int) + 1 = ((A.length + (u + 1) : Nat) : Int) := by omega
          have hs1 : ((A ++ R1.take u) ++ x :: (y :: (R1.drop (u + 1) ++ (R2 ++ C)))).set (A.length + u) y = (A ++ R1.take u) ++ y :: (y :: (R1.drop (u + 1) ++ (R2 ++ C))) := set_mid (by simp [hl])
          have hs2 : ((A ++ R1.take u) ++ y :: (y :: (R1.drop (u + 1) ++ (R2 ++ C)))).set (A.length + (u + 1)) x = A ++ (R1.take (u + 1) ++ (x :: (R1.drop (u + 1) ++ (R2 ++ C)))) := by
            rw [show (A ++ R1.take u) ++ y :: (y :: (R1.drop (u + 1) ++ (R2 ++ C))) = ((A ++ R1.take u) ++ [y]) ++ y :: (R1.drop (u + 1) ++ (R2 ++ C)) by simp only [List.append_assoc, List.cons_append, List.nil_append], set_mid (by simp [hl] <;> omega), ht]
            simp only [List.append_assoc, List.cons_append, List.nil_append]
          have g3 : ((A ++ R1.take u) ++ y :: (y :: (R1.drop (u + 1) ++ (R2 ++ C))))[A.length + (u + 1)]? = some y := by
            rw [show (A ++ R1.take u) ++ y :: (y :: (R1.drop (u + 1) ++ (R2 ++ C))) = ((A ++ R1.take u) ++ [y]) ++ y :: (R1.drop (u + 1) ++ (R2 ++ C)) by simp only [List.append_assoc, List.cons_append, List.nil_append]]
            exact get_mid (by simp [hl] <;> omega)
          generalize (A ++ R1.take u) ++ x :: (y :: (R1.drop (u + 1) ++ (R2 ++ C))) = Z0 at *
          generalize (A ++ R1.take u) ++ y :: (y :: (R1.drop (u + 1) ++ (R2 ++ C))) = Z1 at *
          repeat (first | (refine bcase_f rfl ?_; conv => whnf) | (refine bcase_t rfl ?_; conv => whnf) | (refine condK_draw (by kernel_rfl) ?_; conv => whnf) | (refine condK_of rfl ?_; conv => whnf) | (refine condK_of (by decide) ?_; conv => whnf) | (refine condK_of (by omega) ?_; conv => whnf) | (refine wrapK_in (w64 (by omega) (by omega)) ?_; conv => whnf))
          rw [eu]
          refine idxK_nat (by omega) ?_
          conv => whnf
          refine getRow_of (getE_enc g2) ?_
          conv => whnf
          repeat (first | (refine bcase_f rfl ?_; conv => whnf) | (refine bcase_t rfl ?_; conv => whnf) | (refine condK_draw (by kernel_rfl) ?_; conv => whnf) | (refine condK_of rfl ?_; conv => whnf) | (refine condK_of (by decide) ?_; conv => whnf) | (refine condK_of (by omega) ?_; conv => whnf) | (refine wrapK_in (w64 (by omega) (by omega)) ?_; conv => whnf))
          refine idxK_nat (by omega) ?_
          conv => whnf
          refine getRow_of (getE_enc g1) ?_
          conv => whnf
          repeat (first | (refine bcase_f rfl ?_; conv => whnf) | (refine bcase_t rfl ?_; conv => whnf) | (refine condK_draw (by kernel_rfl) ?_; conv => whnf) | (refine condK_of rfl ?_; conv => whnf) | (refine condK_of (by decide) ?_; conv => whnf) | (refine condK_of (by omega) ?_; conv => whnf) | (refine wrapK_in (w64 (by omega) (by omega)) ?_; conv => whnf))
          refine idxK_nat (by omega) ?_
          conv => whnf
          refine getRow_of (getE_enc g1) ?_
          conv => whnf
          have s1 : (Z0.map encE).set (A.length + u) (splice (encE x) 0 (encE y)) = Z1.map encE := by rw [← hs1]; exact setE_enc _ _ _
          repeat (first | (refine bcase_f rfl ?_; conv => whnf) | (refine bcase_t rfl ?_; conv => whnf) | (refine condK_draw (by kernel_rfl) ?_; conv => whnf) | (refine condK_of rfl ?_; conv => whnf) | (refine condK_of (by decide) ?_; conv => whnf) | (refine condK_of (by omega) ?_; conv => whnf) | (refine wrapK_in (w64 (by omega) (by omega)) ?_; conv => whnf))
          refine idxK_nat (by show _ < (List.set _ _ _).length; rw [List.length_set]; omega) ?_
          conv => whnf
          refine getRow_of (x := encE y) (by show (List.set _ _ (splice (encE x) 0 (encE y)))[_]? = _; rw [s1]; exact getE_enc g3) ?_
          conv => whnf
          repeat (first | (refine bcase_f rfl ?_; conv => whnf) | (refine bcase_t rfl ?_; conv => whnf) | (refine condK_draw (by kernel_rfl) ?_; conv => whnf) | (refine condK_of rfl ?_; conv => whnf) | (refine condK_of (by decide) ?_; conv => whnf) | (refine condK_of (by omega) ?_; conv => whnf) | (refine wrapK_in (w64 (by omega) (by omega)) ?_; conv => whnf))
          rw [eu]
          exact ⟨u + 1, hu2, by omega, le0 (le_of_cov ⟨rfl, rfl, rfl, trivial⟩ ⟨by rw [← hs2, ← setE_enc, ← s1]; rfl, trivial⟩ ⟨by rw [show stL.hpL [(1000000, Blk.row ((A ++ (R1.take (u + 1) ++ (x :: (R1.drop (u + 1) ++ (R2 ++ C))))).map encE) 11 false)] 1000000 = some (Blk.row ((A ++ (R1.take (u + 1) ++ (x :: (R1.drop (u + 1) ++ (R2 ++ C))))).map encE) 11 false) from rfl, ← hs2, ← setE_enc, ← s1]; rfl, rfl, rfl, rfl⟩)⟩
        · have hu2 : u = R1.length := by omega
          subst hu2
          rw [List.take_of_length_le (Nat.le_refl _), List.drop_eq_nil_of_le (Nat.le_refl _), List.nil_append]
          repeat (first | (refine bcase_f rfl ?_; conv => whnf) | (refine bcase_t rfl ?_; conv => whnf) | (refine condK_draw (by kernel_rfl) ?_; conv => whnf) | (refine condK_of rfl ?_; conv => whnf) | (refine condK_of (by decide) ?_; conv => whnf) | (refine condK_of (by omega) ?_; conv => whnf) | (refine wrapK_in (w64 (by omega) (by omega)) ?_; conv => whnf))
          exact hret_of rfl rfl rfl ⟨rfl, trivial⟩
    repeat (first | (refine bcase_f rfl ?_; conv => whnf) | (refine bcase_t rfl ?_; conv => whnf) | (refine condK_draw (by kernel_rfl) ?_; conv => whnf) | (refine condK_of rfl ?_; conv => whnf) | (refine condK_of (by decide) ?_; conv => whnf) | (refine condK_of (by omega) ?_; conv => whnf) | (refine wrapK_in (w64 (by omega) (by omega)) ?_; conv => whnf))
    rw [e2]
    refine bcase_p (fun hr1 => ?_) (fun hr1 => ?_) <;> conv => whnf
    · obtain ⟨x, rfl⟩ : ∃ x, R = [x] := by
        match R, hr1 with
        | [x], _ => exact ⟨x, rfl⟩
        | _ :: _ :: _, h => simp at h; omega
      clear e1 e2 r0 hR sR hr1 hl1
      repeat (first | (refine bcase_f rfl ?_; conv => whnf) | (refine bcase_t rfl ?_; conv => whnf) | (refine condK_draw (by kernel_rfl) ?_; conv => whnf) | (refine condK_of rfl ?_; conv => whnf) | (refine condK_of (by decide) ?_; conv => whnf) | (refine condK_of (by omega) ?_; conv => whnf) | (refine wrapK_in (w64 (by omega) (by omega)) ?_; conv => whnf))
      have ga : (A ++ (L ++ ([x] ++ C)))[A.length + L.length]? = some x := by rw [← List.append_assoc]; exact get_mid (by simp)
      have hml : ((A ++ (L ++ ([x] ++ C))).map encE).length = A.length + L.length + 1 + C.length := by simp; omega
      have gr (r : Nat) (hr : r < L.length) : (A ++ (L ++ ([x] ++ C)))[A.length + r]? = some L[r] := by
        rw [List.getElem?_append_right (by omega), Nat.add_sub_cancel_left, List.getElem?_append_left hr, List.getElem?_eq_getElem hr]
      refine aloop (ι := Nat × Nat) (fun s => [(0, .own 1000000), (2, .d (.int .i64 ((A.length + L.length : Nat) : Int))), (4, .d (.fn cf [])), (14, .d (.int .i64 ((A.length + s.1 : Nat) : Int))), (15, .d (.int .i64 ((A.length + s.2 : Nat) : Int)))]) (fun s => [(1000000, .row ((A ++ (L ++ ([x] ++ C))).map encE) 11 false)])
        (fun s => s.1 ≤ s.2 ∧ s.2 ≤ L.length ∧ (∀ i, i < s.1 → ∀ h : i < L.length, le L[i] x = true) ∧ (∀ i, s.2 ≤ i → ∀ h : i < L.length, le L[i] x = false)) (fun s => s.2 - s.1) (0, L.length) ⟨Nat.zero_le _, Nat.le_refl _, fun i h => absurd h (Nat.not_lt_zero _), fun i h h2 => by omega⟩ (le0 (le_of_cov ⟨rfl, rfl, rfl, rfl, rfl, trivial⟩ ⟨rfl, trivial⟩ ⟨rfl, rfl, rfl, rfl⟩)) ?_
      rintro ⟨p, q⟩ ⟨hpq, hqL, hP, hQ⟩
      simp only at hpq hqL hP hQ ⊢
      conv => whnf
      refine bcase_p (fun hlt => ?_) (fun hlt => ?_) <;> conv => whnf
      · have es : ((A.length + p : Nat) : Int) + ((A.length + q : Nat) : Int) = (((A.length + p) + (A.length + q) : Nat) : Int) := by omega
        have eh : ((A.length + p) + (A.length + q)) / 2 = A.length + (p + q) / 2 := by omega
        have hr : (p + q) / 2 < L.length := by omega
        have hb1 : p ≤ (p + q) / 2 := by omega
        have hb2 : (p + q) / 2 < q := by omega
        repeat (first | (refine bcase_f rfl ?_; conv => whnf) | (refine bcase_t rfl ?_; conv => whnf) | (refine condK_draw (by kernel_rfl) ?_; conv => whnf) | (refine condK_of rfl ?_; conv => whnf) | (refine condK_of (by decide) ?_; conv => whnf) | (refine condK_of (by omega) ?_; conv => whnf) | (refine wrapK_in (w64 (by omega) (by omega)) ?_; conv => whnf))
        rw [es]
        refine wrapK_in (wu64 (by omega) (by omega)) ?_
        conv => whnf
        repeat (first | (refine bcase_f rfl ?_; conv => whnf) | (refine bcase_t rfl ?_; conv => whnf) | (refine condK_draw (by kernel_rfl) ?_; conv => whnf) | (refine condK_of rfl ?_; conv => whnf) | (refine condK_of (by decide) ?_; conv => whnf) | (refine condK_of (by omega) ?_; conv => whnf) | (refine wrapK_in (w64 (by omega) (by omega)) ?_; conv => whnf))
        rw [half, eh]
        generalize hrr : (p + q) / 2 = r at hr hb1 hb2 ⊢
        repeat (first | (refine bcase_f rfl ?_; conv => whnf) | (refine bcase_t rfl ?_; conv => whnf) | (refine condK_draw (by kernel_rfl) ?_; conv => whnf) | (refine condK_of rfl ?_; conv => whnf) | (refine condK_of (by decide) ?_; conv => whnf) | (refine condK_of (by omega) ?_; conv => whnf) | (refine wrapK_in (w64 (by omega) (by omega)) ?_; conv => whnf))
        refine idxK_nat (by omega) ?_
        conv => whnf
        refine getRow_of (getE_enc ga) ?_
        conv => whnf
        repeat (first | (refine bcase_f rfl ?_; conv => whnf) | (refine bcase_t rfl ?_; conv => whnf) | (refine condK_draw (by kernel_rfl) ?_; conv => whnf) | (refine condK_of rfl ?_; conv => whnf) | (refine condK_of (by decide) ?_; conv => whnf) | (refine condK_of (by omega) ?_; conv => whnf) | (refine wrapK_in (w64 (by omega) (by omega)) ?_; conv => whnf))
        refine idxK_nat (by omega) ?_
        conv => whnf
        refine getRow_of (getE_enc (gr r hr)) ?_
        conv => whnf
        repeat (first | (refine bcase_f rfl ?_; conv => whnf) | (refine bcase_t rfl ?_; conv => whnf) | (refine condK_draw (by kernel_rfl) ?_; conv => whnf) | (refine condK_of rfl ?_; conv => whnf) | (refine condK_of (by decide) ?_; conv => whnf) | (refine condK_of (by omega) ?_; conv => whnf) | (refine wrapK_in (w64 (by omega) (by omega)) ?_; conv => whnf))
        obtain ⟨c, hcall, hlt2⟩ := hc.call x L[r]
        refine callX_pure hcall ?_
        conv => whnf
        repeat (first | (refine bcase_f rfl ?_; conv => whnf) | (refine bcase_t rfl ?_; conv => whnf) | (refine condK_draw (by kernel_rfl) ?_; conv => whnf) | (refine condK_of rfl ?_; conv => whnf) | (refine condK_of (by decide) ?_; conv => whnf) | (refine condK_of (by omega) ?_; conv => whnf) | (refine wrapK_in (w64 (by omega) (by omega)) ?_; conv => whnf))
        refine bcase_n (fun h2 => ?_) (fun h2 => ?_) <;> conv => whnf
        · have h3 : le L[r] x = true := by
            cases e : le L[r] x with
            | true => rfl
            | false => exact absurd (hlt2.2 e) h2
          repeat (first | (refine bcase_f rfl ?_; conv => whnf) | (refine bcase_t rfl ?_; conv => whnf) | (refine condK_draw (by kernel_rfl) ?_; conv => whnf) | (refine condK_of rfl ?_; conv => whnf) | (refine condK_of (by decide) ?_; conv => whnf) | (refine condK_of (by omega) ?_; conv => whnf) | (refine wrapK_in (w64 (by omega) (by omega)) ?_; conv => whnf))
          have e1 : ((A.length + r : Nat) : Int) + 1 = ((A.length + (r + 1) : Nat) : Int) := by omega
          rw [e1]
          exact ⟨(r + 1, q), ⟨by simp only []; omega, hqL, fun i hi hiR => hc.tp.trans _ _ _ (sorted_le hc.tp sL hiR hr (by simp only [] at hi; omega)) h3, hQ⟩, by simp only []; omega, (le0 (le_of_cov ⟨rfl, rfl, rfl, rfl, rfl, trivial⟩ ⟨rfl, trivial⟩ ⟨rfl, rfl, rfl, rfl⟩))⟩
        · have h3 := hlt2.1 h2
          repeat (first | (refine bcase_f rfl ?_; conv => whnf) | (refine bcase_t rfl ?_; conv => whnf) | (refine condK_draw (by kernel_rfl) ?_; conv => whnf) | (refine condK_of rfl ?_; conv => whnf) | (refine condK_of (by decide) ?_; conv => whnf) | (refine condK_of (by omega) ?_; conv => whnf) | (refine wrapK_in (w64 (by omega) (by omega)) ?_; conv => whnf))
          exact ⟨(p, r), ⟨hb1, by simp only []; omega, hP, fun i hi hiR => by
            cases e : le L[i] x with
            | false => rfl
            | true => (rw [hc.tp.trans _ _ _ (sorted_le hc.tp sL hr hiR hi) e] at h3; cases h3)⟩, by simp only []; omega, (le0 (le_of_cov ⟨rfl, rfl, rfl, rfl, rfl, trivial⟩ ⟨rfl, trivial⟩ ⟨rfl, rfl, rfl, rfl⟩))⟩
      · have hpq2 : p = q := by omega
        subst hpq2
        obtain ⟨L1, L2, rfl, hL1⟩ := split_at (X := L) (n := p) hqL
        have f1 : ∀ y ∈ L1, le y x = true := fun y hy => by
          obtain ⟨i, hi, rfl⟩ := List.mem_iff_getElem.1 hy
          have := hP i (by omega) (by simp; omega)
          rwa [List.getElem_append_left hi] at this
        have f2 : ∀ y ∈ L2, le y x = false := fun y hy => by
          obtain ⟨i, hi, rfl⟩ := List.mem_iff_getElem.1 hy
          have := hQ (L1.length + i) (by omega) (by simp; omega)
          rw [List.getElem_append_right (by omega)] at this
          simpa [Nat.add_sub_cancel_left] using this
        subst hL1
        have hfin : A ++ (srt le ((L1 ++ L2) ++ [x]) ++ C) = A ++ (L1 ++ (x :: (L2 ++ C))) := by
          rw [← ins_at hc.tp sL f1 f2]; simp
        rw [hfin]
        clear hfin gr hP hQ ga hml
        rw [List.length_append] at hm hqL ⊢
        repeat (first | (refine bcase_f rfl ?_; conv => whnf) | (refine bcase_t rfl ?_; conv => whnf) | (refine condK_draw (by kernel_rfl) ?_; conv => whnf) | (refine condK_of rfl ?_; conv => whnf) | (refine condK_of (by decide) ?_; conv => whnf) | (refine condK_of (by omega) ?_; conv => whnf) | (refine wrapK_in (w64 (by omega) (by omega)) ?_; conv => whnf))
        refine aloop (ι := Nat) (fun u => [(0, .own 1000000), (14, .d (.int .i64 ((A.length + L1.length : Nat) : Int))), (17, .d (.int .i64 ((A.length + (L1.length + u) : Nat) : Int)))]) (fun u => [(1000000, .row ((A ++ (L1 ++ (L2.take u ++ (x :: (L2.drop u ++ C))))).map encE) 11 false)])
          (fun u => u ≤ L2.length) (fun u => u) L2.length (Nat.le_refl _) (le0 (le_of_cov ⟨rfl, rfl, rfl, trivial⟩ ⟨by show some (Blk.row ((A ++ ((L1 ++ L2) ++ ([x] ++ C))).map encE) 11 false) = _; simp, trivial⟩ ⟨by show some _ = some (Blk.row ((A ++ ((L1 ++ L2) ++ ([x] ++ C))).map encE) 11 false); simp, rfl, rfl, rfl⟩)) ?_
        intro u hu
        conv => whnf
        refine bcase_p (fun h4 => ?_) (fun h4 => ?_) <;> conv => whnf
        · obtain ⟨v, rfl⟩ : ∃ v, u = v + 1 := ⟨u - 1, by omega⟩
          have hu2 : v < L2.length := by omega
          have hd : L2.drop v = L2[v] :: L2.drop (v + 1) := drop_cons hu2
          have ht : L2.take (v + 1) = L2.take v ++ [L2[v]] := take_snoc hu2
          have hl : (L2.take v).length = v := by simp; omega
          have hl2 : (L2.drop (v + 1)).length + (v + 1) = L2.length := by simp; omega
          generalize L2[v] = y at hd ht
          have ez : A ++ (L1 ++ (L2.take (v + 1) ++ (x :: (L2.drop (v + 1) ++ C)))) = (A ++ (L1 ++ L2.take v)) ++ y :: (x :: (L2.drop (v + 1) ++ C)) := by rw [ht]; simp only [List.append_assoc, List.cons_append, List.nil_append]
          have ez2 : (A ++ (L1 ++ L2.take v)) ++ y :: (x :: (L2.drop (v + 1) ++ C)) = ((A ++ (L1 ++ L2.take v)) ++ [y]) ++ x :: (L2.drop (v + 1) ++ C) := by simp only [List.append_assoc, List.cons_append, List.nil_append]
          have ez3 : (A ++ (L1 ++ L2.take v)) ++ y :: (y :: (L2.drop (v + 1) ++ C)) = ((A ++ (L1 ++ L2.take v)) ++ [y]) ++ y :: (L2.drop (v + 1) ++ C) := by simp only [List.append_assoc, List.cons_append, List.nil_append]
          rw [ez]
          have hml : (((A ++ (L1 ++ L2.take v)) ++ y :: (x :: (L2.drop (v + 1) ++ C))).map encE).length = A.length + L1.length + L2.length + 1 + C.length := by simp only [List.length_map, List.length_append, List.length_cons, hl]; omega
          have g2 : ((A ++ (L1 ++ L2.take v)) ++ y :: (x :: (L2.drop (v + 1) ++ C)))[A.length + (L1.length + v)]? = some y := get_mid (by simp [hl])
          have g1 : ((A ++ (L1 ++ L2.take v)) ++ y :: (x :: (L2.drop (v + 1) ++ C)))[A.length + (L1.length + (v + 1))]? = some x := by rw [ez2]; exact get_mid (by simp [hl] <;> omega)
          have eu : ((A.length + (L1.length + (v + 1)) : Nat) : Int) - 1 = ((A.length + (L1.length + v) : Nat) : Int) := by omega
          have hs1 : ((A ++ (L1 ++ L2.take v)) ++ y :: (x :: (L2.drop (v + 1) ++ C))).set (A.length + (L1.length + (v + 1))) y = (A ++ (L1 ++ L2.take v)) ++ y :: (y :: (L2.drop (v + 1) ++ C)) := by rw [ez2, set_mid (by simp [hl] <;> omega), ez3]
          have hs2 : ((A ++ (L1 ++ L2.take v)) ++ y :: (y :: (L2.drop (v + 1) ++ C))).set (A.length + (L1.length + v)) x = A ++ (L1 ++ (L2.take v ++ (x :: (L2.drop v ++ C)))) := by
            rw [set_mid (by simp [hl]), hd]
            simp only [List.append_assoc, List.cons_append, List.nil_append]
          have g3 : ((A ++ (L1 ++ L2.take v)) ++ y :: (y :: (L2.drop (v + 1) ++ C)))[A.length + (L1.length + v)]? = some y := get_mid (by simp [hl])
          generalize (A ++ (L1 ++ L2.take v)) ++ y :: (x :: (L2.drop (v + 1) ++ C)) = Z0 at *
          generalize (A ++ (L1 ++ L2.take v)) ++ y :: (y :: (L2.drop (v + 1) ++ C)) = Z1 at *
          repeat (first | (refine bcase_f rfl ?_; conv => whnf) | (refine bcase_t rfl ?_; conv => whnf) | (refine condK_draw (by kernel_rfl) ?_; conv => whnf) | (refine condK_of rfl ?_; conv => whnf) | (refine condK_of (by decide) ?_; conv => whnf) | (refine condK_of (by omega) ?_; conv => whnf) | (refine wrapK_in (w64 (by omega) (by omega)) ?_; conv => whnf))
          rw [eu]
          refine idxK_nat (by omega) ?_
          conv => whnf
          refine getRow_of (getE_enc g2) ?_
          conv => whnf
          repeat (first | (refine bcase_f rfl ?_; conv => whnf) | (refine bcase_t rfl ?_; conv => whnf) | (refine condK_draw (by kernel_rfl) ?_; conv => whnf) | (refine condK_of rfl ?_; conv => whnf) | (refine condK_of (by decide) ?_; conv => whnf) | (refine condK_of (by omega) ?_; conv => whnf) | (refine wrapK_in (w64 (by omega) (by omega)) ?_; conv => whnf))
          refine idxK_nat (by omega) ?_
          conv => whnf
          refine getRow_of (getE_enc g1) ?_
          conv => whnf
          repeat (first | (refine bcase_f rfl ?_; conv => whnf) | (refine bcase_t rfl ?_; conv => whnf) | (refine condK_draw (by kernel_rfl) ?_; conv => whnf) | (refine condK_of rfl ?_; conv => whnf) | (refine condK_of (by decide) ?_; conv => whnf) | (refine condK_of (by omega) ?_; conv => whnf) | (refine wrapK_in (w64 (by omega) (by omega)) ?_; conv => whnf))
          refine idxK_nat (by omega) ?_
          conv => whnf
          refine getRow_of (getE_enc g1) ?_
          conv => whnf
          have s1 : (Z0.map encE).set (A.length + (L1.length + (v + 1))) (splice (encE x) 0 (encE y)) = Z1.map encE := by rw [← hs1]; exact setE_enc _ _ _
          repeat (first | (refine bcase_f rfl ?_; conv => whnf) | (refine bcase_t rfl ?_; conv => whnf) | (refine condK_draw (by kernel_rfl) ?_; conv => whnf) | (refine condK_of rfl ?_; conv => whnf) | (refine condK_of (by decide) ?_; conv => whnf) | (refine condK_of (by omega) ?_; conv => whnf) | (refine wrapK_in (w64 (by omega) (by omega)) ?_; conv => whnf))
          refine idxK_nat (by show _ < (List.set _ _ _).length; rw [List.length_set]; omega) ?_
          conv => whnf
          refine getRow_of (x := encE y) (by show (List.set _ _ (splice (encE x) 0 (encE y)))[_]? = _; rw [s1]; exact getE_enc g3) ?_
          conv => whnf
          repeat (first | (refine bcase_f rfl ?_; conv => whnf) | (refine bcase_t rfl ?_; conv => whnf) | (refine condK_draw (by kernel_rfl) ?_; conv => whnf) | (refine condK_of rfl ?_; conv => whnf) | (refine condK_of (by decide) ?_; conv => whnf) | (refine condK_of (by omega) ?_; conv => whnf) | (refine wrapK_in (w64 (by omega) (by omega)) ?_; conv => whnf))
          rw [eu]
          exact ⟨v, by omega, by omega, le0 (le_of_cov ⟨rfl, rfl, rfl, trivial⟩ ⟨by rw [← hs2, ← setE_enc, ← s1]; rfl, trivial⟩ ⟨by rw [show stL.hpL [(1000000, Blk.row ((A ++ (L1 ++ (L2.take v ++ (x :: (L2.drop v ++ C))))).map encE) 11 false)] 1000000 = some (Blk.row ((A ++ (L1 ++ (L2.take v ++ (x :: (L2.drop v ++ C))))).map encE) 11 false) from rfl, ← hs2, ← setE_enc, ← s1]; rfl, rfl, rfl, rfl⟩)⟩
        · have hu2 : u = 0 := by omega
          subst hu2
          rw [List.take_zero, List.drop_zero, List.nil_append]
          repeat (first | (refine bcase_f rfl ?_; conv => whnf) | (refine bcase_t rfl ?_; conv => whnf) | (refine condK_draw (by kernel_rfl) ?_; conv => whnf) | (refine condK_of rfl ?_; conv => whnf) | (refine condK_of (by decide) ?_; conv => whnf) | (refine condK_of (by omega) ?_; conv => whnf) | (refine wrapK_in (w64 (by omega) (by omega)) ?_; conv => whnf))
          exact hret_of rfl rfl rfl ⟨rfl, trivial⟩
    · clear e1 e2
      have hl2 : 2 ≤ L.length := by omega
      have hr2 : 2 ≤ R.length := by omega
      have IH : ∀ (A L R C X : List Ev) (a m b : Nat), a = A.length → m = A.length + L.length → b = A.length + L.length + R.length → X = A ++ (L ++ (R ++ C)) → L.length + R.length ≤ n → L ≠ [] → R ≠ [] → Sorted le L → Sorted le R → A.length + L.length + R.length + C.length ≤ 1000000 →
          HCall Try.prog 42 [.own 1000000, .d (.int .i64 (a : Int)), .d (.int .i64 (m : Int)), .d (.int .i64 (b : Int)), .d (.fn cf [])] [(1000000, .row (X.map encE) 11 false)] [(1000000, .row ((A ++ (srt le (L ++ R) ++ C)).map encE) 11 false)] (.tup []) := by
        intro A L R C X a m b h1 h2 h3 h4 h5 h6 h7 h8 h9 h10
        subst h1 h2 h3 h4
        exact symMerge_ok cf le hc n A L R C h5 h6 h7 h8 h9 h10
      obtain ⟨h, hh⟩ : ∃ h, h = (L.length + R.length) / 2 := ⟨_, rfl⟩
      have es : (A.length : Int) + ((A.length + L.length + R.length : Nat) : Int) = ((A.length + (A.length + L.length + R.length) : Nat) : Int) := by omega
      have eh : (A.length + (A.length + L.length + R.length)) / 2 = A.length + h := by omega
      have en : ((A.length + h : Nat) : Int) + ((A.length + L.length : Nat) : Int) = ((A.length + h + (A.length + L.length) : Nat) : Int) := by omega
      have ep : ((A.length + h + (A.length + L.length) : Nat) : Int) - 1 = ((A.length + h + (A.length + L.length) - 1 : Nat) : Int) := by omega
      repeat (first | (refine bcase_f rfl ?_; conv => whnf) | (refine bcase_t rfl ?_; conv => whnf) | (refine condK_draw (by kernel_rfl) ?_; conv => whnf) | (refine condK_of rfl ?_; conv => whnf) | (refine condK_of (by decide) ?_; conv => whnf) | (refine condK_of (by omega) ?_; conv => whnf) | (refine wrapK_in (w64 (by omega) (by omega)) ?_; conv => whnf))
      rw [es]
      refine wrapK_in (wu64 (by omega) (by omega)) ?_
      conv => whnf
      repeat (first | (refine bcase_f rfl ?_; conv => whnf) | (refine bcase_t rfl ?_; conv => whnf) | (refine condK_draw (by kernel_rfl) ?_; conv => whnf) | (refine condK_of rfl ?_; conv => whnf) | (refine condK_of (by decide) ?_; conv => whnf) | (refine condK_of (by omega) ?_; conv => whnf) | (refine wrapK_in (w64 (by omega) (by omega)) ?_; conv => whnf))
      rw [half, eh]
      repeat (first | (refine bcase_f rfl ?_; conv => whnf) | (refine bcase_t rfl ?_; conv => whnf) | (refine condK_draw (by kernel_rfl) ?_; conv => whnf) | (refine condK_of rfl ?_; conv => whnf) | (refine condK_of (by decide) ?_; conv => whnf) | (refine condK_of (by omega) ?_; conv => whnf) | (refine wrapK_in (w64 (by omega) (by omega)) ?_; conv => whnf))
      rw [en]
      refine bcase_p (fun hb => ?_) (fun hb => ?_) <;> conv => whnf
      · have hlo : symLo L.length R.length h = h - R.length := if_pos (by omega)
        have hhi : symHi L.length h = h := if_pos (by omega)
        have e20 : ((A.length + h + (A.length + L.length) : Nat) : Int) - ((A.length + L.length + R.length : Nat) : Int) = ((A.length + symLo L.length R.length h : Nat) : Int) := by rw [hlo]; omega
        have e21 : A.length + h = A.length + symHi L.length h := by rw [hhi]
        have hcs : L.length > h ∧ symLo L.length R.length h = h - R.length ∧ symHi L.length h = h ∨ L.length ≤ h ∧ symLo L.length R.length h = 0 ∧ symHi L.length h = L.length := .inl ⟨by omega, hlo, hhi⟩
        repeat (first | (refine bcase_f rfl ?_; conv => whnf) | (refine bcase_t rfl ?_; conv => whnf) | (refine condK_draw (by kernel_rfl) ?_; conv => whnf) | (refine condK_of rfl ?_; conv => whnf) | (refine condK_of (by decide) ?_; conv => whnf) | (refine condK_of (by omega) ?_; conv => whnf) | (refine wrapK_in (w64 (by omega) (by omega)) ?_; conv => whnf))
        rw [e20, ep]
        have gl (u : Nat) (hu : u < L.length) : (A ++ (L ++ (R ++ C)))[A.length + u]? = some L[u] := by
          rw [List.getElem?_append_right (by omega), Nat.add_sub_cancel_left, List.getElem?_append_left hu, List.getElem?_eq_getElem hu]
        have gr (v : Nat) (hv : v < R.length) : (A ++ (L ++ (R ++ C)))[A.length + L.length + v]? = some R[v] := by
          rw [List.getElem?_append_right (by omega), List.getElem?_append_right (by omega), show A.length + L.length + v - A.length - L.length = v by omega, List.getElem?_append_left hv, List.getElem?_eq_getElem hv]
        have hml : ((A ++ (L ++ (R ++ C))).map encE).length = A.length + L.length + R.length + C.length := by simp only [List.length_map, List.length_append]; omega
        generalize hlo' : symLo L.length R.length h = lo at hcs ⊢
        generalize hhi' : symHi L.length h = hi at hcs ⊢
        refine aloop (ι := Nat × Nat) (fun s => [(0, .own 1000000), (1, .d (.int .i64 A.length)), (2, .d (.int .i64 ((A.length + L.length : Nat) : Int))), (3, .d (.int .i64 ((A.length + L.length + R.length : Nat) : Int))), (4, .d (.fn cf [])), (18, .d (.int .i64 ((A.length + h : Nat) : Int))), (19, .d (.int .i64 ((A.length + h + (A.length + L.length) : Nat) : Int))), (20, .d (.int .i64 ((A.length + s.1 : Nat) : Int))), (21, .d (.int .i64 ((A.length + s.2 : Nat) : Int))), (22, .d (.int .i64 ((A.length + h + (A.length + L.length) - 1 : Nat) : Int)))]) (fun s => [(1000000, .row ((A ++ (L ++ (R ++ C))).map encE) 11 false)])
          (fun s => lo ≤ s.1 ∧ s.1 ≤ s.2 ∧ s.2 ≤ hi ∧ (∀ u, lo ≤ u → u < s.1 → ∀ (hu : u < L.length) (hv : h - 1 - u < R.length), le L[u] R[h - 1 - u] = true) ∧ (∀ u, s.2 ≤ u → u < hi → ∀ (hu : u < L.length) (hv : h - 1 - u < R.length), le L[u] R[h - 1 - u] = false)) (fun s => s.2 - s.1) (lo, hi) ⟨Nat.le_refl _, by simp only []; omega, Nat.le_refl _, fun u h1 h2 => by simp only [] at h2; omega, fun u h1 h2 => by simp only [] at h1; omega⟩
          (le0 (le_of_cov ⟨rfl, rfl, rfl, rfl, rfl, rfl, rfl, rfl, (by rw [← hhi', hhi]; rfl), rfl, trivial⟩ ⟨rfl, trivial⟩ ⟨rfl, rfl, rfl, rfl⟩)) ?_
        rintro ⟨s, r⟩ ⟨q1, q2, q3, hP, hQ⟩
        simp only at q1 q2 q3 hP hQ ⊢
        conv => whnf
        refine bcase_p (fun hlt => ?_) (fun hlt => ?_) <;> conv => whnf
        · have es2 : ((A.length + s : Nat) : Int) + ((A.length + r : Nat) : Int) = (((A.length + s) + (A.length + r) : Nat) : Int) := by omega
          have eh2 : ((A.length + s) + (A.length + r)) / 2 = A.length + (s + r) / 2 := by omega
          have hb1 : s ≤ (s + r) / 2 := by omega
          have hb2 : (s + r) / 2 < r := by omega
          repeat (first | (refine bcase_f rfl ?_; conv => whnf) | (refine bcase_t rfl ?_; conv => whnf) | (refine condK_draw (by kernel_rfl) ?_; conv => whnf) | (refine condK_of rfl ?_; conv => whnf) | (refine condK_of (by decide) ?_; conv => whnf) | (refine condK_of (by omega) ?_; conv => whnf) | (refine wrapK_in (w64 (by omega) (by omega)) ?_; conv => whnf))
          rw [es2]
          refine wrapK_in (wu64 (by omega) (by omega)) ?_
          conv => whnf
          repeat (first | (refine bcase_f rfl ?_; conv => whnf) | (refine bcase_t rfl ?_; conv => whnf) | (refine condK_draw (by kernel_rfl) ?_; conv => whnf) | (refine condK_of rfl ?_; conv => whnf) | (refine condK_of (by decide) ?_; conv => whnf) | (refine condK_of (by omega) ?_; conv => whnf) | (refine wrapK_in (w64 (by omega) (by omega)) ?_; conv => whnf))
          rw [half, eh2]
          generalize hrr : (s + r) / 2 = u at hb1 hb2 ⊢
          have hu : u < L.length := by omega
          have hv : h - 1 - u < R.length := by omega
          have ei : ((A.length + h + (A.length + L.length) - 1 : Nat) : Int) - ((A.length + u : Nat) : Int) = ((A.length + L.length + (h - 1 - u) : Nat) : Int) := by omega
          repeat (first | (refine bcase_f rfl ?_; conv => whnf) | (refine bcase_t rfl ?_; conv => whnf) | (refine condK_draw (by kernel_rfl) ?_; conv => whnf) | (refine condK_of rfl ?_; conv => whnf) | (refine condK_of (by decide) ?_; conv => whnf) | (refine condK_of (by omega) ?_; conv => whnf) | (refine wrapK_in (w64 (by omega) (by omega)) ?_; conv => whnf))
          rw [ei]
          refine idxK_nat (by omega) ?_
          conv => whnf
          refine getRow_of (getE_enc (gr _ hv)) ?_
          conv => whnf
          repeat (first | (refine bcase_f rfl ?_; conv => whnf) | (refine bcase_t rfl ?_; conv => whnf) | (refine condK_draw (by kernel_rfl) ?_; conv => whnf) | (refine condK_of rfl ?_; conv => whnf) | (refine condK_of (by decide) ?_; conv => whnf) | (refine condK_of (by omega) ?_; conv => whnf) | (refine wrapK_in (w64 (by omega) (by omega)) ?_; conv => whnf))
          refine idxK_nat (by omega) ?_
          conv => whnf
          refine getRow_of (getE_enc (gl u hu)) ?_
          conv => whnf
          repeat (first | (refine bcase_f rfl ?_; conv => whnf) | (refine bcase_t rfl ?_; conv => whnf) | (refine condK_draw (by kernel_rfl) ?_; conv => whnf) | (refine condK_of rfl ?_; conv => whnf) | (refine condK_of (by decide) ?_; conv => whnf) | (refine condK_of (by omega) ?_; conv => whnf) | (refine wrapK_in (w64 (by omega) (by omega)) ?_; conv => whnf))
          obtain ⟨c, hcall, hlt2⟩ := hc.call R[h - 1 - u] L[u]
          refine callX_pure hcall ?_
          conv => whnf
          repeat (first | (refine bcase_f rfl ?_; conv => whnf) | (refine bcase_t rfl ?_; conv => whnf) | (refine condK_draw (by kernel_rfl) ?_; conv => whnf) | (refine condK_of rfl ?_; conv => whnf) | (refine condK_of (by decide) ?_; conv => whnf) | (refine condK_of (by omega) ?_; conv => whnf) | (refine wrapK_in (w64 (by omega) (by omega)) ?_; conv => whnf))
          refine bcase_n (fun h2 => ?_) (fun h2 => ?_) <;> conv => whnf
          · have h3 : le L[u] R[h - 1 - u] = true := by
              cases e : le L[u] R[h - 1 - u] with
              | true => rfl
              | false => exact absurd (hlt2.2 e) h2
            repeat (first | (refine bcase_f rfl ?_; conv => whnf) | (refine bcase_t rfl ?_; conv => whnf) | (refine condK_draw (by kernel_rfl) ?_; conv => whnf) | (refine condK_of rfl ?_; conv => whnf) | (refine condK_of (by decide) ?_; conv => whnf) | (refine condK_of (by omega) ?_; conv => whnf) | (refine wrapK_in (w64 (by omega) (by omega)) ?_; conv => whnf))
            have e1 : ((A.length + u : Nat) : Int) + 1 = ((A.length + (u + 1) : Nat) : Int) := by omega
            rw [e1]
            exact ⟨(u + 1, r), ⟨by simp only []; omega, by simp only []; omega, q3, fun w k1 k2 hw hv2 => hc.tp.trans _ _ _ (sorted_le hc.tp sL hw hu (by simp only [] at k2; omega)) (hc.tp.trans _ _ _ h3 (sorted_le hc.tp sR hv hv2 (by simp only [] at k2; omega))), hQ⟩, by simp only []; omega, (le0 (le_of_cov ⟨rfl, rfl, rfl, rfl, rfl, rfl, rfl, rfl, rfl, rfl, trivial⟩ ⟨rfl, trivial⟩ ⟨rfl, rfl, rfl, rfl⟩))⟩
          · have h3 := hlt2.1 h2
            repeat (first | (refine bcase_f rfl ?_; conv => whnf) | (refine bcase_t rfl ?_; conv => whnf) | (refine condK_draw (by kernel_rfl) ?_; conv => whnf) | (refine condK_of rfl ?_; conv => whnf) | (refine condK_of (by decide) ?_; conv => whnf) | (refine condK_of (by omega) ?_; conv => whnf) | (refine wrapK_in (w64 (by omega) (by omega)) ?_; conv => whnf))
            exact ⟨(s, u), ⟨q1, by simp only []; omega, by simp only []; omega, hP, fun w k1 k2 hw hv2 => by
              cases e : le L[w] R[h - 1 - w] with
              | false => rfl
              | true => (rw [hc.tp.trans _ _ _ (sorted_le hc.tp sL hu hw (by simp only [] at k1; omega)) (hc.tp.trans _ _ _ e (sorted_le hc.tp sR hv2 hv (by simp only [] at k1; omega)))] at h3; cases h3)⟩, by simp only []; omega, (le0 (le_of_cov ⟨rfl, rfl, rfl, rfl, rfl, rfl, rfl, rfl, rfl, rfl, trivial⟩ ⟨rfl, trivial⟩ ⟨rfl, rfl, rfl, rfl⟩))⟩
        · have hsr : s = r := by omega
          subst hsr
          have hsp := sym_split hc.tp sL sR (h := h) (s := s) hh (by omega) (by omega) (by rw [hlo']; exact hP) (by rw [hhi']; exact hQ)
          clear hP hQ gl gr hml
          have hsh : s ≤ h := by omega
          obtain ⟨L1, L2, rfl, hL1⟩ := split_at (X := L) (n := s) (by omega)
          obtain ⟨R1, R2, rfl, hR1⟩ := split_at (X := R) (n := h - s) (by omega)
          rw [← hR1, ← hL1, List.take_left, List.drop_left, List.take_left, List.drop_left] at hsp
          obtain ⟨sp1, sp2⟩ := hsp
          obtain ⟨sl1, sl2, _⟩ := sorted_app.1 sL
          obtain ⟨sr1, sr2, _⟩ := sorted_app.1 sR
          have hfin : A ++ (srt le ((L1 ++ L2) ++ (R1 ++ R2)) ++ C) = A ++ (srt le (L1 ++ R1) ++ (srt le (L2 ++ R2) ++ C)) := by rw [← merge_halves hc.tp sL sR sp1 sp2]; simp only [List.append_assoc]
          have hone : ∀ {a b : List Ev}, Sorted le a → Sorted le b → (a = [] ∨ b = []) → srt le (a ++ b) = a ++ b := fun {a b} ha hb hab => by
            rcases hab with e | e
            · subst e; exact srt_id hc.tp hb
            · subst e; rw [List.append_nil]; exact srt_id hc.tp ha
          rw [hfin]
          clear hfin sp1 sp2 hcs
          simp only [List.length_append] at hm hn hl2 hr2 hh q1 q3 ⊢
          have e24 : ((A.length + h + (A.length + (L1.length + L2.length)) : Nat) : Int) - ((A.length + s : Nat) : Int) = ((A.length + (L1.length + L2.length) + (h - s) : Nat) : Int) := by omega
          have er0 : A ++ ((L1 ++ L2) ++ ((R1 ++ R2) ++ C)) = A ++ (L1 ++ (L2 ++ (R1 ++ (R2 ++ C)))) := by simp only [List.append_assoc]
          rw [er0]
          repeat (first | (refine bcase_f rfl ?_; conv => whnf) | (refine bcase_t rfl ?_; conv => whnf) | (refine condK_draw (by kernel_rfl) ?_; conv => whnf) | (refine condK_of rfl ?_; conv => whnf) | (refine condK_of (by decide) ?_; conv => whnf) | (refine condK_of (by omega) ?_; conv => whnf) | (refine wrapK_in (w64 (by omega) (by omega)) ?_; conv => whnf))
          rw [e24]
          refine bcase_p (fun c1 => ?_) (fun c1 => ?_) <;> conv => whnf
          · repeat (first | (refine bcase_f rfl ?_; conv => whnf) | (refine bcase_t rfl ?_; conv => whnf) | (refine condK_draw (by kernel_rfl) ?_; conv => whnf) | (refine condK_of rfl ?_; conv => whnf) | (refine condK_of (by decide) ?_; conv => whnf) | (refine condK_of (by omega) ?_; conv => whnf) | (refine wrapK_in (w64 (by omega) (by omega)) ?_; conv => whnf))
            refine bcase_p (fun c2 => ?_) (fun c2 => ?_) <;> conv => whnf
            · repeat (first | (refine bcase_f rfl ?_; conv => whnf) | (refine bcase_t rfl ?_; conv => whnf) | (refine condK_draw (by kernel_rfl) ?_; conv => whnf) | (refine condK_of rfl ?_; conv => whnf) | (refine condK_of (by decide) ?_; conv => whnf) | (refine condK_of (by omega) ?_; conv => whnf) | (refine wrapK_in (w64 (by omega) (by omega)) ?_; conv => whnf))
              refine callX_blk (rotate2 cf (A ++ L1) L2 R1 (R2 ++ C) _ (A.length + s) (A.length + (L1.length + L2.length)) (A.length + (L1.length + L2.length) + (h - s)) (by rw [List.length_append]; omega) (by rw [List.length_append]; omega) (by rw [List.length_append]; omega) (show A ++ (L1 ++ (L2 ++ (R1 ++ (R2 ++ C)))) = _ by simp only [List.append_assoc]) (by intro e; subst e; simp only [List.length_nil] at c1; omega) (by intro e; subst e; simp only [List.length_nil] at hR1; omega) (by simp only [List.length_append]; omega)) [(1000000, 1000000)] rfl ⟨rfl, trivial⟩ rfl ?_
              conv => whnf
              have er1 : (A ++ L1) ++ (R1 ++ (L2 ++ (R2 ++ C))) = A ++ (L1 ++ (R1 ++ (L2 ++ (R2 ++ C)))) := by simp only [List.append_assoc]
              rw [er1]
              repeat (first | (refine bcase_f rfl ?_; conv => whnf) | (refine bcase_t rfl ?_; conv => whnf) | (refine condK_draw (by kernel_rfl) ?_; conv => whnf) | (refine condK_of rfl ?_; conv => whnf) | (refine condK_of (by decide) ?_; conv => whnf) | (refine condK_of (by omega) ?_; conv => whnf) | (refine wrapK_in (w64 (by omega) (by omega)) ?_; conv => whnf))
              refine bcase_p (fun c3 => ?_) (fun c3 => ?_) <;> conv => whnf
              · repeat (first | (refine bcase_f rfl ?_; conv => whnf) | (refine bcase_t rfl ?_; conv => whnf) | (refine condK_draw (by kernel_rfl) ?_; conv => whnf) | (refine condK_of rfl ?_; conv => whnf) | (refine condK_of (by decide) ?_; conv => whnf) | (refine condK_of (by omega) ?_; conv => whnf) | (refine wrapK_in (w64 (by omega) (by omega)) ?_; conv => whnf))
                refine bcase_p (fun c4 => ?_) (fun c4 => ?_) <;> conv => whnf
                · repeat (first | (refine bcase_f rfl ?_; conv => whnf) | (refine bcase_t rfl ?_; conv => whnf) | (refine condK_draw (by kernel_rfl) ?_; conv => whnf) | (refine condK_of rfl ?_; conv => whnf) | (refine condK_of (by decide) ?_; conv => whnf) | (refine condK_of (by omega) ?_; conv => whnf) | (refine wrapK_in (w64 (by omega) (by omega)) ?_; conv => whnf))
                  refine callX_blk (IH A L1 R1 (L2 ++ (R2 ++ C)) (A ++ (L1 ++ (R1 ++ (L2 ++ (R2 ++ C))))) A.length (A.length + s) (A.length + h) rfl (by omega) (by omega) rfl (by omega) (by intro e; subst e; simp only [List.length_nil] at hL1; omega) (by intro e; subst e; simp only [List.length_nil] at hR1; omega) sl1 sr1 (by simp only [List.length_append]; omega)) [(1000000, 1000000)] rfl ⟨rfl, trivial⟩ rfl ?_
                  conv => whnf
                  repeat (first | (refine bcase_f rfl ?_; conv => whnf) | (refine bcase_t rfl ?_; conv => whnf) | (refine condK_draw (by kernel_rfl) ?_; conv => whnf) | (refine condK_of rfl ?_; conv => whnf) | (refine condK_of (by decide) ?_; conv => whnf) | (refine condK_of (by omega) ?_; conv => whnf) | (refine wrapK_in (w64 (by omega) (by omega)) ?_; conv => whnf))
                  refine bcase_p (fun c5 => ?_) (fun c5 => ?_) <;> conv => whnf
                  · repeat (first | (refine bcase_f rfl ?_; conv => whnf) | (refine bcase_t rfl ?_; conv => whnf) | (refine condK_draw (by kernel_rfl) ?_; conv => whnf) | (refine condK_of rfl ?_; conv => whnf) | (refine condK_of (by decide) ?_; conv => whnf) | (refine condK_of (by omega) ?_; conv => whnf) | (refine wrapK_in (w64 (by omega) (by omega)) ?_; conv => whnf))
                    refine bcase_p (fun c6 => ?_) (fun c6 => ?_) <;> conv => whnf
                    · repeat (first | (refine bcase_f rfl ?_; conv => whnf) | (refine bcase_t rfl ?_; conv => whnf) | (refine condK_draw (by kernel_rfl) ?_; conv => whnf) | (refine condK_of rfl ?_; conv => whnf) | (refine condK_of (by decide) ?_; conv => whnf) | (refine condK_of (by omega) ?_; conv => whnf) | (refine wrapK_in (w64 (by omega) (by omega)) ?_; conv => whnf))
                      refine callX_blk (IH (A ++ srt le (L1 ++ R1)) L2 R2 C (A ++ (srt le (L1 ++ R1) ++ (L2 ++ (R2 ++ C)))) (A.length + h) (A.length + (L1.length + L2.length) + (h - s)) (A.length + (L1.length + L2.length) + (R1.length + R2.length)) (by rw [List.length_append, srt_len, List.length_append]; omega) (by rw [List.length_append, srt_len, List.length_append]; omega) (by rw [List.length_append, srt_len, List.length_append]; omega) (by simp only [List.append_assoc]) (by omega) (by intro e; subst e; simp only [List.length_nil] at c5; omega) (by intro e; subst e; simp only [List.length_nil] at c6; omega) sl2 sr2 (by simp only [List.length_append, srt_len]; omega)) [(1000000, 1000000)] rfl ⟨rfl, trivial⟩ rfl ?_
                      conv => whnf
                      repeat (first | (refine bcase_f rfl ?_; conv => whnf) | (refine bcase_t rfl ?_; conv => whnf) | (refine condK_draw (by kernel_rfl) ?_; conv => whnf) | (refine condK_of rfl ?_; conv => whnf) | (refine condK_of (by decide) ?_; conv => whnf) | (refine condK_of (by omega) ?_; conv => whnf) | (refine wrapK_in (w64 (by omega) (by omega)) ?_; conv => whnf))
                      refine hret_of rfl rfl rfl ⟨?_, trivial⟩
                      rw [show A ++ (srt le (L1 ++ R1) ++ (srt le (L2 ++ R2) ++ C)) = (A ++ srt le (L1 ++ R1)) ++ (srt le (L2 ++ R2) ++ C) by simp only [List.append_assoc]]
                      rfl
                    · have hR0 : R2 = [] := List.length_eq_zero_iff.1 (by omega)
                      repeat (first | (refine bcase_f rfl ?_; conv => whnf) | (refine bcase_t rfl ?_; conv => whnf) | (refine condK_draw (by kernel_rfl) ?_; conv => whnf) | (refine condK_of rfl ?_; conv => whnf) | (refine condK_of (by decide) ?_; conv => whnf) | (refine condK_of (by omega) ?_; conv => whnf) | (refine wrapK_in (w64 (by omega) (by omega)) ?_; conv => whnf))
                      refine hret_of rfl rfl rfl ⟨?_, trivial⟩
                      rw [show A ++ (srt le (L1 ++ R1) ++ (srt le (L2 ++ R2) ++ C)) = A ++ (srt le (L1 ++ R1) ++ (L2 ++ (R2 ++ C))) by rw [hone sl2 sr2 (.inr hR0)]; simp only [List.append_assoc]]
                      rfl
                  · have hL0 : L2 = [] := List.length_eq_zero_iff.1 (by omega)
                    repeat (first | (refine bcase_f rfl ?_; conv => whnf) | (refine bcase_t rfl ?_; conv => whnf) | (refine condK_draw (by kernel_rfl) ?_; conv => whnf) | (refine condK_of rfl ?_; conv => whnf) | (refine condK_of (by decide) ?_; conv => whnf) | (refine condK_of (by omega) ?_; conv => whnf) | (refine wrapK_in (w64 (by omega) (by omega)) ?_; conv => whnf))
                    refine hret_of rfl rfl rfl ⟨?_, trivial⟩
                    rw [show A ++ (srt le (L1 ++ R1) ++ (srt le (L2 ++ R2) ++ C)) = A ++ (srt le (L1 ++ R1) ++ (L2 ++ (R2 ++ C))) by rw [hone sl2 sr2 (.inl hL0)]; simp only [List.append_assoc]]
                    rfl
                · have hR0 : R1 = [] := List.length_eq_zero_iff.1 (by omega)
                  have er2 : A ++ (L1 ++ (R1 ++ (L2 ++ (R2 ++ C)))) = A ++ (srt le (L1 ++ R1) ++ (L2 ++ (R2 ++ C))) := by rw [hone sl1 sr1 (.inr hR0)]; simp only [List.append_assoc]
                  rw [er2]
                  repeat (first | (refine bcase_f rfl ?_; conv => whnf) | (refine bcase_t rfl ?_; conv => whnf) | (refine condK_draw (by kernel_rfl) ?_; conv => whnf) | (refine condK_of rfl ?_; conv => whnf) | (refine condK_of (by decide) ?_; conv => whnf) | (refine condK_of (by omega) ?_; conv => whnf) | (refine wrapK_in (w64 (by omega) (by omega)) ?_; conv => whnf))
                  refine bcase_p (fun c5 => ?_) (fun c5 => ?_) <;> conv => whnf
                  · repeat (first | (refine bcase_f rfl ?_; conv => whnf) | (refine bcase_t rfl ?_; conv => whnf) | (refine condK_draw (by kernel_rfl) ?_; conv => whnf) | (refine condK_of rfl ?_; conv => whnf) | (refine condK_of (by decide) ?_; conv => whnf) | (refine condK_of (by omega) ?_; conv => whnf) | (refine wrapK_in (w64 (by omega) (by omega)) ?_; conv => whnf))
                    refine bcase_p (fun c6 => ?_) (fun c6 => ?_) <;> conv => whnf
                    · repeat (first | (refine bcase_f rfl ?_; conv => whnf) | (refine bcase_t rfl ?_; conv => whnf) | (refine condK_draw (by kernel_rfl) ?_; conv => whnf) | (refine condK_of rfl ?_; conv => whnf) | (refine condK_of (by decide) ?_; conv => whnf) | (refine condK_of (by omega) ?_; conv => whnf) | (refine wrapK_in (w64 (by omega) (by omega)) ?_; conv => whnf))
                      refine callX_blk (IH (A ++ srt le (L1 ++ R1)) L2 R2 C (A ++ (srt le (L1 ++ R1) ++ (L2 ++ (R2 ++ C)))) (A.length + h) (A.length + (L1.length + L2.length) + (h - s)) (A.length + (L1.length + L2.length) + (R1.length + R2.length)) (by rw [List.length_append, srt_len, List.length_append]; omega) (by rw [List.length_append, srt_len, List.length_append]; omega) (by rw [List.length_append, srt_len, List.length_append]; omega) (by simp only [List.append_assoc]) (by omega) (by intro e; subst e; simp only [List.length_nil] at c5; omega) (by intro e; subst e; simp only [List.length_nil] at c6; omega) sl2 sr2 (by simp only [List.length_append, srt_len]; omega)) [(1000000, 1000000)] rfl ⟨rfl, trivial⟩ rfl ?_
                      conv => whnf
                      repeat (first | (refine bcase_f rfl ?_; conv => whnf) | (refine bcase_t rfl ?_; conv => whnf) | (refine condK_draw (by kernel_rfl) ?_; conv => whnf) | (refine condK_of rfl ?_; conv => whnf) | (refine condK_of (by decide) ?_; conv => whnf) | (refine condK_of (by omega) ?_; conv => whnf) | (refine wrapK_in (w64 (by omega) (by omega)) ?_; conv => whnf))
                      refine hret_of rfl rfl rfl ⟨?_, trivial⟩
                      rw [show A ++ (srt le (L1 ++ R1) ++ (srt le (L2 ++ R2) ++ C)) = (A ++ srt le (L1 ++ R1)) ++ (srt le (L2 ++ R2) ++ C) by simp only [List.append_assoc]]
                      rfl
                    · have hR0 : R2 = [] := List.length_eq_zero_iff.1 (by omega)
                      repeat (first | (refine bcase_f rfl ?_; conv => whnf) | (refine bcase_t rfl ?_; conv => whnf) | (refine condK_draw (by kernel_rfl) ?_; conv => whnf) | (refine condK_of rfl ?_; conv => whnf) | (refine condK_of (by decide) ?_; conv => whnf) | (refine condK_of (by omega) ?_; conv => whnf) | (refine wrapK_in (w64 (by omega) (by omega)) ?_; conv => whnf))
                      refine hret_of rfl rfl rfl ⟨?_, trivial⟩
                      rw [show A ++ (srt le (L1 ++ R1) ++ (srt le (L2 ++ R2) ++ C)) = A ++ (srt le (L1 ++ R1) ++ (L2 ++ (R2 ++ C))) by rw [hone sl2 sr2 (.inr hR0)]; simp only [List.append_assoc]]
                      rfl
                  · have hL0 : L2 = [] := List.length_eq_zero_iff.1 (by omega)
                    repeat (first | (refine bcase_f rfl ?_; conv => whnf) | (refine bcase_t rfl ?_; conv => whnf) | (refine condK_draw (by kernel_rfl) ?_; conv => whnf) | (refine condK_of rfl ?_; conv => whnf) | (refine condK_of (by decide) ?_; conv => whnf) | (refine condK_of (by omega) ?_; conv => whnf) | (refine wrapK_in (w64 (by omega) (by omega)) ?_; conv => whnf))
                    refine hret_of rfl rfl rfl ⟨?_, trivial⟩
                    rw [show A ++ (srt le (L1 ++ R1) ++ (srt le (L2 ++ R2) ++ C)) = A ++ (srt le (L1 ++ R1) ++ (L2 ++ (R2 ++ C))) by rw [hone sl2 sr2 (.inl hL0)]; simp only [List.append_assoc]]
                    rfl
              · have hL0 : L1 = [] := List.length_eq_zero_iff.1 (by omega)
                have er2 : A ++ (L1 ++ (R1 ++ (L2 ++ (R2 ++ C)))) = A ++ (srt le (L1 ++ R1) ++ (L2 ++ (R2 ++ C))) := by rw [hone sl1 sr1 (.inl hL0)]; simp only [List.append_assoc]
                rw [er2]
                repeat (first | (refine bcase_f rfl ?_; conv => whnf) | (refine bcase_t rfl ?_; conv => whnf) | (refine condK_draw (by kernel_rfl) ?_; conv => whnf) | (refine condK_of rfl ?_; conv => whnf) | (refine condK_of (by decide) ?_; conv => whnf) | (refine condK_of (by omega) ?_; conv => whnf) | (refine wrapK_in (w64 (by omega) (by omega)) ?_; conv => whnf))
                refine bcase_p (fun c5 => ?_) (fun c5 => ?_) <;> conv => whnf
                · repeat (first | (refine bcase_f rfl ?_; conv => whnf) | (refine bcase_t rfl ?_; conv => whnf) | (refine condK_draw (by kernel_rfl) ?_; conv => whnf) | (refine condK_of rfl ?_; conv => whnf) | (refine condK_of (by decide) ?_; conv => whnf) | (refine condK_of (by omega) ?_; conv => whnf) | (refine wrapK_in (w64 (by omega) (by omega)) ?_; conv => whnf))
                  refine bcase_p (fun c6 => ?_) (fun c6 => ?_) <;> conv => whnf
                  · repeat (first | (refine bcase_f rfl ?_; conv => whnf) | (refine bcase_t rfl ?_; conv => whnf) | (refine condK_draw (by kernel_rfl) ?_; conv => whnf) | (refine condK_of rfl ?_; conv => whnf) | (refine condK_of (by decide) ?_; conv => whnf) | (refine condK_of (by omega) ?_; conv => whnf) | (refine wrapK_in (w64 (by omega) (by omega)) ?_; conv => whnf))
                    refine callX_blk (IH (A ++ srt le (L1 ++ R1)) L2 R2 C (A ++ (srt le (L1 ++ R1) ++ (L2 ++ (R2 ++ C)))) (A.length + h) (A.length + (L1.length + L2.length) + (h - s)) (A.length + (L1.length + L2.length) + (R1.length + R2.length)) (by rw [List.length_append, srt_len, List.length_append]; omega) (by rw [List.length_append, srt_len, List.length_append]; omega) (by rw [List.length_append, srt_len, List.length_append]; omega) (by simp only [List.append_assoc]) (by omega) (by intro e; subst e; simp only [List.length_nil] at c5; omega) (by intro e; subst e; simp only [List.length_nil] at c6; omega) sl2 sr2 (by simp only [List.length_append, srt_len]; omega)) [(1000000, 1000000)] rfl ⟨rfl, trivial⟩ rfl ?_
                    conv => whnf
                    repeat (first | (refine bcase_f rfl ?_; conv => whnf) | (refine bcase_t rfl ?_; conv => whnf) | (refine condK_draw (by kernel_rfl) ?_; conv => whnf) | (refine condK_of rfl ?_; conv => whnf) | (refine condK_of (by decide) ?_; conv => whnf) | (refine condK_of (by omega) ?_; conv => whnf) | (refine wrapK_in (w64 (by omega) (by omega)) ?_; conv => whnf))
                    refine hret_of rfl rfl rfl ⟨?_, trivial⟩
                    rw [show A ++ (srt le (L1 ++ R1) ++ (srt le (L2 ++ R2) ++ C)) = (A ++ srt le (L1 ++ R1)) ++ (srt le (L2 ++ R2) ++ C) by simp only [List.append_assoc]]
                    rfl
                  · have hR0 : R2 = [] := List.length_eq_zero_iff.1 (by omega)
                    repeat (first | (refine bcase_f rfl ?_; conv => whnf) | (refine bcase_t rfl ?_; conv => whnf) | (refine condK_draw (by kernel_rfl) ?_; conv => whnf) | (refine condK_of rfl ?_; conv => whnf) | (refine condK_of (by decide) ?_; conv => whnf) | (refine condK_of (by omega) ?_; conv => whnf) | (refine wrapK_in (w64 (by omega) (by omega)) ?_; conv => whnf))
                    refine hret_of rfl rfl rfl ⟨?_, trivial⟩
                    rw [show A ++ (srt le (L1 ++ R1) ++ (srt le (L2 ++ R2) ++ C)) = A ++ (srt le (L1 ++ R1) ++ (L2 ++ (R2 ++ C))) by rw [hone sl2 sr2 (.inr hR0)]; simp only [List.append_assoc]]
                    rfl
                · have hL0 : L2 = [] := List.length_eq_zero_iff.1 (by omega)
                  repeat (first | (refine bcase_f rfl ?_; conv => whnf) | (refine bcase_t rfl ?_; conv => whnf) | (refine condK_draw (by kernel_rfl) ?_; conv => whnf) | (refine condK_of rfl ?_; conv => whnf) | (refine condK_of (by decide) ?_; conv => whnf) | (refine condK_of (by omega) ?_; conv => whnf) | (refine wrapK_in (w64 (by omega) (by omega)) ?_; conv => whnf))
                  refine hret_of rfl rfl rfl ⟨?_, trivial⟩
                  rw [show A ++ (srt le (L1 ++ R1) ++ (srt le (L2 ++ R2) ++ C)) = A ++ (srt le (L1 ++ R1) ++ (L2 ++ (R2 ++ C))) by rw [hone sl2 sr2 (.inl hL0)]; simp only [List.append_assoc]]
                  rfl
            · have hR0 : R1 = [] := List.length_eq_zero_iff.1 (by omega)
              have er1 : A ++ (L1 ++ (L2 ++ (R1 ++ (R2 ++ C)))) = A ++ (L1 ++ (R1 ++ (L2 ++ (R2 ++ C)))) := by rw [hR0]; rfl
              rw [er1]
              repeat (first | (refine bcase_f rfl ?_; conv => whnf) | (refine bcase_t rfl ?_; conv => whnf) | (refine condK_draw (by kernel_rfl) ?_; conv => whnf) | (refine condK_of rfl ?_; conv => whnf) | (refine condK_of (by decide) ?_; conv => whnf) | (refine condK_of (by omega) ?_; conv => whnf) | (refine wrapK_in (w64 (by omega) (by omega)) ?_; conv => whnf))
              refine bcase_p (fun c3 => ?_) (fun c3 => ?_) <;> conv => whnf
              · repeat (first | (refine bcase_f rfl ?_; conv => whnf) | (refine bcase_t rfl ?_; conv => whnf) | (refine condK_draw (by kernel_rfl) ?_; conv => whnf) | (refine condK_of rfl ?_; conv => whnf) | (refine condK_of (by decide) ?_; conv => whnf) | (refine condK_of (by omega) ?_; conv => whnf) | (refine wrapK_in (w64 (by omega) (by omega)) ?_; conv => whnf))
                refine bcase_p (fun c4 => ?_) (fun c4 => ?_) <;> conv => whnf
                · repeat (first | (refine bcase_f rfl ?_; conv => whnf) | (refine bcase_t rfl ?_; conv => whnf) | (refine condK_draw (by kernel_rfl) ?_; conv => whnf) | (refine condK_of rfl ?_; conv => whnf) | (refine condK_of (by decide) ?_; conv => whnf) | (refine condK_of (by omega) ?_; conv => whnf) | (refine wrapK_in (w64 (by omega) (by omega)) ?_; conv => whnf))
                  refine callX_blk (IH A L1 R1 (L2 ++ (R2 ++ C)) (A ++ (L1 ++ (R1 ++ (L2 ++ (R2 ++ C))))) A.length (A.length + s) (A.length + h) rfl (by omega) (by omega) rfl (by omega) (by intro e; subst e; simp only [List.length_nil] at hL1; omega) (by intro e; subst e; simp only [List.length_nil] at hR1; omega) sl1 sr1 (by simp only [List.length_append]; omega)) [(1000000, 1000000)] rfl ⟨rfl, trivial⟩ rfl ?_
                  conv => whnf
                  repeat (first | (refine bcase_f rfl ?_; conv => whnf) | (refine bcase_t rfl ?_; conv => whnf) | (refine condK_draw (by kernel_rfl) ?_; conv => whnf) | (refine condK_of rfl ?_; conv => whnf) | (refine condK_of (by decide) ?_; conv => whnf) | (refine condK_of (by omega) ?_; conv => whnf) | (refine wrapK_in (w64 (by omega) (by omega)) ?_; conv => whnf))
                  refine bcase_p (fun c5 => ?_) (fun c5 => ?_) <;> conv => whnf
                  · repeat (first | (refine bcase_f rfl ?_; conv => whnf) | (refine bcase_t rfl ?_; conv => whnf) | (refine condK_draw (by kernel_rfl) ?_; conv => whnf) | (refine condK_of rfl ?_; conv => whnf) | (refine condK_of (by decide) ?_; conv => whnf) | (refine condK_of (by omega) ?_; conv => whnf) | (refine wrapK_in (w64 (by omega) (by omega)) ?_; conv => whnf))
                    refine bcase_p (fun c6 => ?_) (fun c6 => ?_) <;> conv => whnf
                    · repeat (first | (refine bcase_f rfl ?_; conv => whnf) | (refine bcase_t rfl ?_; conv => whnf) | (refine condK_draw (by kernel_rfl) ?_; conv => whnf) | (refine condK_of rfl ?_; conv => whnf) | (refine condK_of (by decide) ?_; conv => whnf) | (refine condK_of (by omega) ?_; conv => whnf) | (refine wrapK_in (w64 (by omega) (by omega)) ?_; conv => whnf))
                      refine callX_blk (IH (A ++ srt le (L1 ++ R1)) L2 R2 C (A ++ (srt le (L1 ++ R1) ++ (L2 ++ (R2 ++ C)))) (A.length + h) (A.length + (L1.length + L2.length) + (h - s)) (A.length + (L1.length + L2.length) + (R1.length + R2.length)) (by rw [List.length_append, srt_len, List.length_append]; omega) (by rw [List.length_append, srt_len, List.length_append]; omega) (by rw [List.length_append, srt_len, List.length_append]; omega) (by simp only [List.append_assoc]) (by omega) (by intro e; subst e; simp only [List.length_nil] at c5; omega) (by intro e; subst e; simp only [List.length_nil] at c6; omega) sl2 sr2 (by simp only [List.length_append, srt_len]; omega)) [(1000000, 1000000)] rfl ⟨rfl, trivial⟩ rfl ?_
                      conv => whnf
                      repeat (first | (refine bcase_f rfl ?_; conv => whnf) | (refine bcase_t rfl ?_; conv => whnf) | (refine condK_draw (by kernel_rfl) ?_; conv => whnf) | (refine condK_of rfl ?_; conv => whnf) | (refine condK_of (by decide) ?_; conv => whnf) | (refine condK_of (by omega) ?_; conv => whnf) | (refine wrapK_in (w64 (by omega) (by omega)) ?_; conv => whnf))
                      refine hret_of rfl rfl rfl ⟨?_, trivial⟩
                      rw [show A ++ (srt le (L1 ++ R1) ++ (srt le (L2 ++ R2) ++ C)) = (A ++ srt le (L1 ++ R1)) ++ (srt le (L2 ++ R2) ++ C) by simp only [List.append_assoc]]
                      rfl
                    · have hR0 : R2 = [] := List.length_eq_zero_iff.1 (by omega)
                      repeat (first | (refine bcase_f rfl ?_; conv => whnf) | (refine bcase_t rfl ?_; conv => whnf) | (refine condK_draw (by kernel_rfl) ?_; conv => whnf) | (refine condK_of rfl ?_; conv => whnf) | (refine condK_of (by decide) ?_; conv => whnf) | (refine condK_of (by omega) ?_; conv => whnf) | (refine wrapK_in (w64 (by omega) (by omega)) ?_; conv => whnf))
                      refine hret_of rfl rfl rfl ⟨?_, trivial⟩
                      rw [show A ++ (srt le (L1 ++ R1) ++ (srt le (L2 ++ R2) ++ C)) = A ++ (srt le (L1 ++ R1) ++ (L2 ++ (R2 ++ C))) by rw [hone sl2 sr2 (.inr hR0)]; simp only [List.append_assoc]]
                      rfl
                  · have hL0 : L2 = [] := List.length_eq_zero_iff.1 (by omega)
                    repeat (first | (refine bcase_f rfl ?_; conv => whnf) | (refine bcase_t rfl ?_; conv => whnf) | (refine condK_draw (by kernel_rfl) ?_; conv => whnf) | (refine condK_of rfl ?_; conv => whnf) | (refine condK_of (by decide) ?_; conv => whnf) | (refine condK_of (by omega) ?_; conv => whnf) | (refine wrapK_in (w64 (by omega) (by omega)) ?_; conv => whnf))
                    refine hret_of rfl rfl rfl ⟨?_, trivial⟩
                    rw [show A ++ (srt le (L1 ++ R1) ++ (srt le (L2 ++ R2) ++ C)) = A ++ (srt le (L1 ++ R1) ++ (L2 ++ (R2 ++ C))) by rw [hone sl2 sr2 (.inl hL0)]; simp only [List.append_assoc]]
                    rfl
                · have hR0 : R1 = [] := List.length_eq_zero_iff.1 (by omega)
                  have er2 : A ++ (L1 ++ (R1 ++ (L2 ++ (R2 ++ C)))) = A ++ (srt le (L1 ++ R1) ++ (L2 ++ (R2 ++ C))) := by rw [hone sl1 sr1 (.inr hR0)]; simp only [List.append_assoc]
                  rw [er2]
                  repeat (first | (refine bcase_f rfl ?_; conv => whnf) | (refine bcase_t rfl ?_; conv => whnf) | (refine condK_draw (by kernel_rfl) ?_; conv => whnf) | (refine condK_of rfl ?_; conv => whnf) | (refine condK_of (by decide) ?_; conv => whnf) | (refine condK_of (by omega) ?_; conv => whnf) | (refine wrapK_in (w64 (by omega) (by omega)) ?_; conv => whnf))
                  refine bcase_p (fun c5 => ?_) (fun c5 => ?_) <;> conv => whnf
                  · repeat (first | (refine bcase_f rfl ?_; conv => whnf) | (refine bcase_t rfl ?_; conv => whnf) | (refine condK_draw (by kernel_rfl) ?_; conv => whnf) | (refine condK_of rfl ?_; conv => whnf) | (refine condK_of (by decide) ?_; conv => whnf) | (refine condK_of (by omega) ?_; conv => whnf) | (refine wrapK_in (w64 (by omega) (by omega)) ?_; conv => whnf))
                    refine bcase_p (fun c6 => ?_) (fun c6 => ?_) <;> conv => whnf
                    · repeat (first | (refine bcase_f rfl ?_; conv => whnf) | (refine bcase_t rfl ?_; conv => whnf) | (refine condK_draw (by kernel_rfl) ?_; conv => whnf) | (refine condK_of rfl ?_; conv => whnf) | (refine condK_of (by decide) ?_; conv => whnf) | (refine condK_of (by omega) ?_; conv => whnf) | (refine wrapK_in (w64 (by omega) (by omega)) ?_; conv => whnf))
                      refine callX_blk (IH (A ++ srt le (L1 ++ R1)) L2 R2 C (A ++ (srt le (L1 ++ R1) ++ (L2 ++ (R2 ++ C)))) (A.length + h) (A.length + (L1.length + L2.length) + (h - s)) (A.length + (L1.length + L2.length) + (R1.length + R2.length)) (by rw [List.length_append, srt_len, List.length_append]; omega) (by rw [List.length_append, srt_len, List.length_append]; omega) (by rw [List.length_append, srt_len, List.length_append]; omega) (by simp only [List.append_assoc]) (by omega) (by intro e; subst e; simp only [List.length_nil] at c5; omega) (by intro e; subst e; simp only [List.length_nil] at c6; omega) sl2 sr2 (by simp only [List.length_append, srt_len]; omega)) [(1000000, 1000000)] rfl ⟨rfl, trivial⟩ rfl ?_
                      conv => whnf
                      repeat (first | (refine bcase_f rfl ?_; conv => whnf) | (refine bcase_t rfl ?_; conv => whnf) | (refine condK_draw (by kernel_rfl) ?_; conv => whnf) | (refine condK_of rfl ?_; conv => whnf) | (refine condK_of (by decide) ?_; conv => whnf) | (refine condK_of (by omega) ?_; conv => whnf) | (refine wrapK_in (w64 (by omega) (by omega)) ?_; conv => whnf))
                      refine hret_of rfl rfl rfl ⟨?_, trivial⟩
                      rw [show A ++ (srt le (L1 ++ R1) ++ (srt le (L2 ++ R2) ++ C)) = (A ++ srt le (L1 ++ R1)) ++ (srt le (L2 ++ R2) ++ C) by simp only [List.append_assoc]]
                      rfl
                    · have hR0 : R2 = [] := List.length_eq_zero_iff.1 (by omega)
                      repeat (first | (refine bcase_f rfl ?_; conv => whnf) | (refine bcase_t rfl ?_; conv => whnf) | (refine condK_draw (by kernel_rfl) ?_; conv => whnf) | (refine condK_of rfl ?_; conv => whnf) | (refine condK_of (by decide) ?_; conv => whnf) | (refine condK_of (by omega) ?_; conv => whnf) | (refine wrapK_in (w64 (by omega) (by omega)) ?_; conv => whnf))
                      refine hret_of rfl rfl rfl ⟨?_, trivial⟩
                      rw [show A ++ (srt le (L1 ++ R1) ++ (srt le (L2 ++ R2) ++ C)) = A ++ (srt le (L1 ++ R1) ++ (L2 ++ (R2 ++ C))) by rw [hone sl2 sr2 (.inr hR0)]; simp only [List.append_assoc]]
                      rfl
                  · have hL0 : L2 = [] := List.length_eq_zero_iff.1 (by omega)
                    repeat (first | (refine bcase_f rfl ?_; conv => whnf) | (refine bcase_t rfl ?_; conv => whnf) | (refine condK_draw (by kernel_rfl) ?_; conv => whnf) | (refine condK_of rfl ?_; conv => whnf) | (refine condK_of (by decide) ?_; conv => whnf) | (refine condK_of (by omega) ?_; conv => whnf) | (refine wrapK_in (w64 (by omega) (by omega)) ?_; conv => whnf))
                    refine hret_of rfl rfl rfl ⟨?_, trivial⟩
                    rw [show A ++ (srt le (L1 ++ R1) ++ (srt le (L2 ++ R2) ++ C)) = A ++ (srt le (L1 ++ R1) ++ (L2 ++ (R2 ++ C))) by rw [hone sl2 sr2 (.inl hL0)]; simp only [List.append_assoc]]
                    rfl
              · have hL0 : L1 = [] := List.length_eq_zero_iff.1 (by omega)
                have er2 : A ++ (L1 ++ (R1 ++ (L2 ++ (R2 ++ C)))) = A ++ (srt le (L1 ++ R1) ++ (L2 ++ (R2 ++ C))) := by rw [hone sl1 sr1 (.inl hL0)]; simp only [List.append_assoc]
                rw [er2]
                repeat (first | (refine bcase_f rfl ?_; conv => whnf) | (refine bcase_t rfl ?_; conv => whnf) | (refine condK_draw (by kernel_rfl) ?_; conv => whnf) | (refine condK_of rfl ?_; conv => whnf) | (refine condK_of (by decide) ?_; conv => whnf) | (refine condK_of (by omega) ?_; conv => whnf) | (refine wrapK_in (w64 (by omega) (by omega)) ?_; conv => whnf))
                refine bcase_p (fun c5 => ?_) (fun c5 => ?_) <;> conv => whnf
                · repeat (first | (refine bcase_f rfl ?_; conv => whnf) | (refine bcase_t rfl ?_; conv => whnf) | (refine condK_draw (by kernel_rfl) ?_; conv => whnf) | (refine condK_of rfl ?_; conv => whnf) | (refine condK_of (by decide) ?_; conv => whnf) | (refine condK_of (by omega) ?_; conv => whnf) | (refine wrapK_in (w64 (by omega) (by omega)) ?_; conv => whnf))
                  refine bcase_p (fun c6 => ?_) (fun c6 => ?_) <;> conv => whnf
                  · repeat (first | (refine bcase_f rfl ?_; conv => whnf) | (refine bcase_t rfl ?_; conv => whnf) | (refine condK_draw (by kernel_rfl) ?_; conv => whnf) | (refine condK_of rfl ?_; conv => whnf) | (refine condK_of (by decide) ?_; conv => whnf) | (refine condK_of (by omega) ?_; conv => whnf) | (refine wrapK_in (w64 (by omega) (by omega)) ?_; conv => whnf))
                    refine callX_blk (IH (A ++ srt le (L1 ++ R1)) L2 R2 C (A ++ (srt le (L1 ++ R1) ++ (L2 ++ (R2 ++ C)))) (A.length + h) (A.length + (L1.length + L2.length) + (h - s)) (A.length + (L1.length + L2.length) + (R1.length + R2.length)) (by rw [List.length_append, srt_len, List.length_append]; omega) (by rw [List.length_append, srt_len, List.length_append]; omega) (by rw [List.length_append, srt_len, List.length_append]; omega) (by simp only [List.append_assoc]) (by omega) (by intro e; subst e; simp only [List.length_nil] at c5; omega) (by intro e; subst e; simp only [List.length_nil] at c6; omega) sl2 sr2 (by simp only [List.length_append, srt_len]; omega)) [(1000000, 1000000)] rfl ⟨rfl, trivial⟩ rfl ?_
                    conv => whnf
                    repeat (first | (refine bcase_f rfl ?_; conv => whnf) | (refine bcase_t rfl ?_; conv => whnf) | (refine condK_draw (by kernel_rfl) ?_; conv => whnf) | (refine condK_of rfl ?_; conv => whnf) | (refine condK_of (by decide) ?_; conv => whnf) | (refine condK_of (by omega) ?_; conv => whnf) | (refine wrapK_in (w64 (by omega) (by omega)) ?_; conv => whnf))
                    refine hret_of rfl rfl rfl ⟨?_, trivial⟩
                    rw [show A ++ (srt le (L1 ++ R1) ++ (srt le (L2 ++ R2) ++ C)) = (A ++ srt le (L1 ++ R1)) ++ (srt le (L2 ++ R2) ++ C) by simp only [List.append_assoc]]
                    rfl
                  · have hR0 : R2 = [] := List.length_eq_zero_iff.1 (by omega)
                    repeat (first | (refine bcase_f rfl ?_; conv => whnf) | (refine bcase_t rfl ?_; conv => whnf) | (refine condK_draw (by kernel_rfl) ?_; conv => whnf) | (refine condK_of rfl ?_; conv => whnf) | (refine condK_of (by decide) ?_; conv => whnf) | (refine condK_of (by omega) ?_; conv => whnf) | (refine wrapK_in (w64 (by omega) (by omega)) ?_; conv => whnf))
                    refine hret_of rfl rfl rfl ⟨?_, trivial⟩
                    rw [show A ++ (srt le (L1 ++ R1) ++ (srt le (L2 ++ R2) ++ C)) = A ++ (srt le (L1 ++ R1) ++ (L2 ++ (R2 ++ C))) by rw [hone sl2 sr2 (.inr hR0)]; simp only [List.append_assoc]]
                    rfl
                · have hL0 : L2 = [] := List.length_eq_zero_iff.1 (by omega)
                  repeat (first | (refine bcase_f rfl ?_; conv => whnf) | (refine bcase_t rfl ?_; conv => whnf) | (refine condK_draw (by kernel_rfl) ?_; conv => whnf) | (refine condK_of rfl ?_; conv => whnf) | (refine condK_of (by decide) ?_; conv => whnf) | (refine condK_of (by omega) ?_; conv => whnf) | (refine wrapK_in (w64 (by omega) (by omega)) ?_; conv => whnf))
                  refine hret_of rfl rfl rfl ⟨?_, trivial⟩
                  rw [show A ++ (srt le (L1 ++ R1) ++ (srt le (L2 ++ R2) ++ C)) = A ++ (srt le (L1 ++ R1) ++ (L2 ++ (R2 ++ C))) by rw [hone sl2 sr2 (.inl hL0)]; simp only [List.append_assoc]]
                  rfl
          · have hL0 : L2 = [] := List.length_eq_zero_iff.1 (by omega)
            have er1 : A ++ (L1 ++ (L2 ++ (R1 ++ (R2 ++ C)))) = A ++ (L1 ++ (R1 ++ (L2 ++ (R2 ++ C)))) := by rw [hL0]; rfl
            rw [er1]
            repeat (first | (refine bcase_f rfl ?_; conv => whnf) | (refine bcase_t rfl ?_; conv => whnf) | (refine condK_draw (by kernel_rfl) ?_; conv => whnf) | (refine condK_of rfl ?_; conv => whnf) | (refine condK_of (by decide) ?_; conv => whnf) | (refine condK_of (by omega) ?_; conv => whnf) | (refine wrapK_in (w64 (by omega) (by omega)) ?_; conv => whnf))
            refine bcase_p (fun c3 => ?_) (fun c3 => ?_) <;> conv => whnf
            · repeat (first | (refine bcase_f rfl ?_; conv => whnf) | (refine bcase_t rfl ?_; conv => whnf) | (refine condK_draw (by kernel_rfl) ?_; conv => whnf) | (refine condK_of rfl ?_; conv => whnf) | (refine condK_of (by decide) ?_; conv => whnf) | (refine condK_of (by omega) ?_; conv => whnf) | (refine wrapK_in (w64 (by omega) (by omega)) ?_; conv => whnf))
              refine bcase_p (fun c4 => ?_) (fun c4 => ?_) <;> conv => whnf
              · repeat (first | (refine bcase_f rfl ?_; conv => whnf) | (refine bcase_t rfl ?_; conv => whnf) | (refine condK_draw (by kernel_rfl) ?_; conv => whnf) | (refine condK_of rfl ?_; conv => whnf) | (refine condK_of (by decide) ?_; conv => whnf) | (refine condK_of (by omega) ?_; conv => whnf) | (refine wrapK_in (w64 (by omega) (by omega)) ?_; conv => whnf))
                refine callX_blk (IH A L1 R1 (L2 ++ (R2 ++ C)) (A ++ (L1 ++ (R1 ++ (L2 ++ (R2 ++ C))))) A.length (A.length + s) (A.length + h) rfl (by omega) (by omega) rfl (by omega) (by intro e; subst e; simp only [List.length_nil] at hL1; omega) (by intro e; subst e; simp only [List.length_nil] at hR1; omega) sl1 sr1 (by simp only [List.length_append]; omega)) [(1000000, 1000000)] rfl ⟨rfl, trivial⟩ rfl ?_
                conv => whnf
                repeat (first | (refine bcase_f rfl ?_; conv => whnf) | (refine bcase_t rfl ?_; conv => whnf) | (refine condK_draw (by kernel_rfl) ?_; conv => whnf) | (refine condK_of rfl ?_; conv => whnf) | (refine condK_of (by decide) ?_; conv => whnf) | (refine condK_of (by omega) ?_; conv => whnf) | (refine wrapK_in (w64 (by omega) (by omega)) ?_; conv => whnf))
                refine bcase_p (fun c5 => ?_) (fun c5 => ?_) <;> conv => whnf
                · repeat (first | (refine bcase_f rfl ?_; conv => whnf) | (refine bcase_t rfl ?_; conv => whnf) | (refine condK_draw (by kernel_rfl) ?_; conv => whnf) | (refine condK_of rfl ?_; conv => whnf) | (refine condK_of (by decide) ?_; conv => whnf) | (refine condK_of (by omega) ?_; conv => whnf) | (refine wrapK_in (w64 (by omega) (by omega)) ?_; conv => whnf))
                  refine bcase_p (fun c6 => ?_) (fun c6 => ?_) <;> conv => whnf
                  · repeat (first | (refine bcase_f rfl ?_; conv => whnf) | (refine bcase_t rfl ?_; conv => whnf) | (refine condK_draw (by kernel_rfl) ?_; conv => whnf) | (refine condK_of rfl ?_; conv => whnf) | (refine condK_of (by decide) ?_; conv => whnf) | (refine condK_of (by omega) ?_; conv => whnf) | (refine wrapK_in (w64 (by omega) (by omega)) ?_; conv => whnf))
                    refine callX_blk (IH (A ++ srt le (L1 ++ R1)) L2 R2 C (A ++ (srt le (L1 ++ R1) ++ (L2 ++ (R2 ++ C)))) (A.length + h) (A.length + (L1.length + L2.length) + (h - s)) (A.length + (L1.length + L2.length) + (R1.length + R2.length)) (by rw [List.length_append, srt_len, List.length_append]; omega) (by rw [List.length_append, srt_len, List.length_append]; omega) (by rw [List.length_append, srt_len, List.length_append]; omega) (by simp only [List.append_assoc]) (by omega) (by intro e; subst e; simp only [List.length_nil] at c5; omega) (by intro e; subst e; simp only [List.length_nil] at c6; omega) sl2 sr2 (by simp only [List.length_append, srt_len]; omega)) [(1000000, 1000000)] rfl ⟨rfl, trivial⟩ rfl ?_
                    conv => whnf
                    repeat (first | (refine bcase_f rfl ?_; conv => whnf) | (refine bcase_t rfl ?_; conv => whnf) | (refine condK_draw (by kernel_rfl) ?_; conv => whnf) | (refine condK_of rfl ?_; conv => whnf) | (refine condK_of (by decide) ?_; conv => whnf) | (refine condK_of (by omega) ?_; conv => whnf) | (refine wrapK_in (w64 (by omega) (by omega)) ?_; conv => whnf))
                    refine hret_of rfl rfl rfl ⟨?_, trivial⟩
                    rw [show A ++ (srt le (L1 ++ R1) ++ (srt le (L2 ++ R2) ++ C)) = (A ++ srt le (L1 ++ R1)) ++ (srt le (L2 ++ R2) ++ C) by simp only [List.append_assoc]]
                    rfl
                  · have hR0 : R2 = [] := List.length_eq_zero_iff.1 (by omega)
                    repeat (first | (refine bcase_f rfl ?_; conv => whnf) | (refine bcase_t rfl ?_; conv => whnf) | (refine condK_draw (by kernel_rfl) ?_; conv => whnf) | (refine condK_of rfl ?_; conv => whnf) | (refine condK_of (by decide) ?_; conv => whnf) | (refine condK_of (by omega) ?_; conv => whnf) | (refine wrapK_in (w64 (by omega) (by omega)) ?_; conv => whnf))
                    refine hret_of rfl rfl rfl ⟨?_, trivial⟩
                    rw [show A ++ (srt le (L1 ++ R1) ++ (srt le (L2 ++ R2) ++ C)) = A ++ (srt le (L1 ++ R1) ++ (L2 ++ (R2 ++ C))) by rw [hone sl2 sr2 (.inr hR0)]; simp only [List.append_assoc]]
                    rfl
                · have hL0 : L2 = [] := List.length_eq_zero_iff.1 (by omega)
                  repeat (first | (refine bcase_f rfl ?_; conv => whnf) | (refine bcase_t rfl ?_; conv => whnf) | (refine condK_draw (by kernel_rfl) ?_; conv => whnf) | (refine condK_of rfl ?_; conv => whnf) | (refine condK_of (by decide) ?_; conv => whnf) | (refine condK_of (by omega) ?_; conv => whnf) | (refine wrapK_in (w64 (by omega) (by omega)) ?_; conv => whnf))
                  refine hret_of rfl rfl rfl ⟨?_, trivial⟩
                  rw [show A ++ (srt le (L1 ++ R1) ++ (srt le (L2 ++ R2) ++ C)) = A ++ (srt le (L1 ++ R1) ++ (L2 ++ (R2 ++ C))) by rw [hone sl2 sr2 (.inl hL0)]; simp only [List.append_assoc]]
                  rfl
              · have hR0 : R1 = [] := List.length_eq_zero_iff.1 (by omega)
                have er2 : A ++ (L1 ++ (R1 ++ (L2 ++ (R2 ++ C)))) = A ++ (srt le (L1 ++ R1) ++ (L2 ++ (R2 ++ C))) := by rw [hone sl1 sr1 (.inr hR0)]; simp only [List.append_assoc]
                rw [er2]
                repeat (first | (refine bcase_f rfl ?_; conv => whnf) | (refine bcase_t rfl ?_; conv => whnf) | (refine condK_draw (by kernel_rfl) ?_; conv => whnf) | (refine condK_of rfl ?_; conv => whnf) | (refine condK_of (by decide) ?_; conv => whnf) | (refine condK_of (by omega) ?_; conv => whnf) | (refine wrapK_in (w64 (by omega) (by omega)) ?_; conv => whnf))
                refine bcase_p (fun c5 => ?_) (fun c5 => ?_) <;> conv => whnf
                · repeat (first | (refine bcase_f rfl ?_; conv => whnf) | (refine bcase_t rfl ?_; conv => whnf) | (refine condK_draw (by kernel_rfl) ?_; conv => whnf) | (refine condK_of rfl ?_; conv => whnf) | (refine condK_of (by decide) ?_; conv => whnf) | (refine condK_of (by omega) ?_; conv => whnf) | (refine wrapK_in (w64 (by omega) (by omega)) ?_; conv => whnf))
                  refine bcase_p (fun c6 => ?_) (fun c6 => ?_) <;> conv => whnf
                  · repeat (first | (refine bcase_f rfl ?_; conv => whnf) | (refine bcase_t rfl ?_; conv => whnf) | (refine condK_draw (by kernel_rfl) ?_; conv => whnf) | (refine condK_of rfl ?_; conv => whnf) | (refine condK_of (by decide) ?_; conv => whnf) | (refine condK_of (by omega) ?_; conv => whnf) | (refine wrapK_in (w64 (by omega) (by omega)) ?_; conv => whnf))
                    refine callX_blk (IH (A ++ srt le (L1 ++ R1)) L2 R2 C (A ++ (srt le (L1 ++ R1) ++ (L2 ++ (R2 ++ C)))) (A.length + h) (A.length + (L1.length + L2.length) + (h - s)) (A.length + (L1.length + L2.length) + (R1.length + R2.length)) (by rw [List.length_append, srt_len, List.length_append]; omega) (by rw [List.length_append, srt_len, List.length_append]; omega) (by rw [List.length_append, srt_len, List.length_append]; omega) (by simp only [List.append_assoc]) (by omega) (by intro e; subst e; simp only [List.length_nil] at c5; omega) (by intro e; subst e; simp only [List.length_nil] at c6; omega) sl2 sr2 (by simp only [List.length_append, srt_len]; omega)) [(1000000, 1000000)] rfl ⟨rfl, trivial⟩ rfl ?_
                    conv => whnf
                    repeat (first | (refine bcase_f rfl ?_; conv => whnf) | (refine bcase_t rfl ?_; conv => whnf) | (refine condK_draw (by kernel_rfl) ?_; conv => whnf) | (refine condK_of rfl ?_; conv => whnf) | (refine condK_of (by decide) ?_; conv => whnf) | (refine condK_of (by omega) ?_; conv => whnf) | (refine wrapK_in (w64 (by omega) (by omega)) ?_; conv => whnf))
                    refine hret_of rfl rfl rfl ⟨?_, trivial⟩
                    rw [show A ++ (srt le (L1 ++ R1) ++ (srt le (L2 ++ R2) ++ C)) = (A ++ srt le (L1 ++ R1)) ++ (srt le (L2 ++ R2) ++ C) by simp only [List.append_assoc]]
                    rfl
                  · have hR0 : R2 = [] := List.length_eq_zero_iff.1 (by omega)
                    repeat (first | (refine bcase_f rfl ?_; conv => whnf) | (refine bcase_t rfl ?_; conv => whnf) | (refine condK_draw (by kernel_rfl) ?_; conv => whnf) | (refine condK_of rfl ?_; conv => whnf) | (refine condK_of (by decide) ?_; conv => whnf) | (refine condK_of (by omega) ?_; conv => whnf) | (refine wrapK_in (w64 (by omega) (by omega)) ?_; conv => whnf))
                    refine hret_of rfl rfl rfl ⟨?_, trivial⟩
                    rw [show A ++ (srt le (L1 ++ R1) ++ (srt le (L2 ++ R2) ++ C)) = A ++ (srt le (L1 ++ R1) ++ (L2 ++ (R2 ++ C))) by rw [hone sl2 sr2 (.inr hR0)]; simp only [List.append_assoc]]
                    rfl
                · have hL0 : L2 = [] := List.length_eq_zero_iff.1 (by omega)
                  repeat (first | (refine bcase_f rfl ?_; conv => whnf) | (refine bcase_t rfl ?_; conv => whnf) | (refine condK_draw (by kernel_rfl) ?_; conv => whnf) | (refine condK_of rfl ?_; conv => whnf) | (refine condK_of (by decide) ?_; conv => whnf) | (refine condK_of (by omega) ?_; conv => whnf) | (refine wrapK_in (w64 (by omega) (by omega)) ?_; conv => whnf))
                  refine hret_of rfl rfl rfl ⟨?_, trivial⟩
                  rw [show A ++ (srt le (L1 ++ R1) ++ (srt le (L2 ++ R2) ++ C)) = A ++ (srt le (L1 ++ R1) ++ (L2 ++ (R2 ++ C))) by rw [hone sl2 sr2 (.inl hL0)]; simp only [List.append_assoc]]
                  rfl
            · have hL0 : L1 = [] := List.length_eq_zero_iff.1 (by omega)
              have er2 : A ++ (L1 ++ (R1 ++ (L2 ++ (R2 ++ C)))) = A ++ (srt le (L1 ++ R1) ++ (L2 ++ (R2 ++ C))) := by rw [hone sl1 sr1 (.inl hL0)]; simp only [List.append_assoc]
              rw [er2]
              repeat (first | (refine bcase_f rfl ?_; conv => whnf) | (refine bcase_t rfl ?_; conv => whnf) | (refine condK_draw (by kernel_rfl) ?_; conv => whnf) | (refine condK_of rfl ?_; conv => whnf) | (refine condK_of (by decide) ?_; conv => whnf) | (refine condK_of (by omega) ?_; conv => whnf) | (refine wrapK_in (w64 (by omega) (by omega)) ?_; conv => whnf))
              refine bcase_p (fun c5 => ?_) (fun c5 => ?_) <;> conv => whnf
              · repeat (first | (refine bcase_f rfl ?_; conv => whnf) | (refine bcase_t rfl ?_; conv => whnf) | (refine condK_draw (by kernel_rfl) ?_; conv => whnf) | (refine condK_of rfl ?_; conv => whnf) | (refine condK_of (by decide) ?_; conv => whnf) | (refine condK_of (by omega) ?_; conv => whnf) | (refine wrapK_in (w64 (by omega) (by omega)) ?_; conv => whnf))
                refine bcase_p (fun c6 => ?_) (fun c6 => ?_) <;> conv => whnf
                · repeat (first | (refine bcase_f rfl ?_; conv => whnf) | (refine bcase_t rfl ?_; conv => whnf) | (refine condK_draw (by kernel_rfl) ?_; conv => whnf) | (refine condK_of rfl ?_; conv => whnf) | (refine condK_of (by decide) ?_; conv => whnf) | (refine condK_of (by omega) ?_; conv => whnf) | (refine wrapK_in (w64 (by omega) (by omega)) ?_; conv => whnf))
                  refine callX_blk (IH (A ++ srt le (L1 ++ R1)) L2 R2 C (A ++ (srt le (L1 ++ R1) ++ (L2 ++ (R2 ++ C)))) (A.length + h) (A.length + (L1.length + L2.length) + (h - s)) (A.length + (L1.length + L2.length) + (R1.length + R2.length)) (by rw [List.length_append, srt_len, List.length_append]; omega) (by rw [List.length_append, srt_len, List.length_append]; omega) (by rw [List.length_append, srt_len, List.length_append]; omega) (by simp only [List.append_assoc]) (by omega) (by intro e; subst e; simp only [List.length_nil] at c5; omega) (by intro e; subst e; simp only [List.length_nil] at c6; omega) sl2 sr2 (by simp only [List.length_append, srt_len]; omega)) [(1000000, 1000000)] rfl ⟨rfl, trivial⟩ rfl ?_
                  conv => whnf
                  repeat (first | (refine bcase_f rfl ?_; conv => whnf) | (refine bcase_t rfl ?_; conv => whnf) | (refine condK_draw (by kernel_rfl) ?_; conv => whnf) | (refine condK_of rfl ?_; conv => whnf) | (refine condK_of (by decide) ?_; conv => whnf) | (refine condK_of (by omega) ?_; conv => whnf) | (refine wrapK_in (w64 (by omega) (by omega)) ?_; conv => whnf))
                  refine hret_of rfl rfl rfl ⟨?_, trivial⟩
                  rw [show A ++ (srt le (L1 ++ R1) ++ (srt le (L2 ++ R2) ++ C)) = (A ++ srt le (L1 ++ R1)) ++ (srt le (L2 ++ R2) ++ C) by simp only [List.append_assoc]]
                  rfl
                · have hR0 : R2 = [] := List.length_eq_zero_iff.1 (by omega)
                  repeat (first | (refine bcase_f rfl ?_; conv => whnf) | (refine bcase_t rfl ?_; conv => whnf) | (refine condK_draw (by kernel_rfl) ?_; conv => whnf) | (refine condK_of rfl ?_; conv => whnf) | (refine condK_of (by decide) ?_; conv => whnf) | (refine condK_of (by omega) ?_; conv => whnf) | (refine wrapK_in (w64 (by omega) (by omega)) ?_; conv => whnf))
                  refine hret_of rfl rfl rfl ⟨?_, trivial⟩
                  rw [show A ++ (srt le (L1 ++ R1) ++ (srt le (L2 ++ R2) ++ C)) = A ++ (srt le (L1 ++ R1) ++ (L2 ++ (R2 ++ C))) by rw [hone sl2 sr2 (.inr hR0)]; simp only [List.append_assoc]]
                  rfl
              · have hL0 : L2 = [] := List.length_eq_zero_iff.1 (by omega)
                repeat (first | (refine bcase_f rfl ?_; conv => whnf) | (refine bcase_t rfl ?_; conv => whnf) | (refine condK_draw (by kernel_rfl) ?_; conv => whnf) | (refine condK_of rfl ?_; conv => whnf) | (refine condK_of (by decide) ?_; conv => whnf) | (refine condK_of (by omega) ?_; conv => whnf) | (refine wrapK_in (w64 (by omega) (by omega)) ?_; conv => whnf))
                refine hret_of rfl rfl rfl ⟨?_, trivial⟩
                rw [show A ++ (srt le (L1 ++ R1) ++ (srt le (L2 ++ R2) ++ C)) = A ++ (srt le (L1 ++ R1) ++ (L2 ++ (R2 ++ C))) by rw [hone sl2 sr2 (.inl hL0)]; simp only [List.append_assoc]]
                rfl
      · have hlo : symLo L.length R.length h = 0 := if_neg (by omega)
        have hhi : symHi L.length h = L.length := if_neg (by omega)
        have hcs : L.length > h ∧ symLo L.length R.length h = h - R.length ∧ symHi L.length h = h ∨ L.length ≤ h ∧ symLo L.length R.length h = 0 ∧ symHi L.length h = L.length := .inr ⟨by omega, hlo, hhi⟩
        repeat (first | (refine bcase_f rfl ?_; conv => whnf) | (refine bcase_t rfl ?_; conv => whnf) | (refine condK_draw (by kernel_rfl) ?_; conv => whnf) | (refine condK_of rfl ?_; conv => whnf) | (refine condK_of (by decide) ?_; conv => whnf) | (refine condK_of (by omega) ?_; conv => whnf) | (refine wrapK_in (w64 (by omega) (by omega)) ?_; conv => whnf))
        rw [ep]
        have gl (u : Nat) (hu : u < L.length) : (A ++ (L ++ (R ++ C)))[A.length + u]? = some L[u] := by
          rw [List.getElem?_append_right (by omega), Nat.add_sub_cancel_left, List.getElem?_append_left hu, List.getElem?_eq_getElem hu]
        have gr (v : Nat) (hv : v < R.length) : (A ++ (L ++ (R ++ C)))[A.length + L.length + v]? = some R[v] := by
          rw [List.getElem?_append_right (by omega), List.getElem?_append_right (by omega), show A.length + L.length + v - A.length - L.length = v by omega, List.getElem?_append_left hv, List.getElem?_eq_getElem hv]
        have hml : ((A ++ (L ++ (R ++ C))).map encE).length = A.length + L.length + R.length + C.length := by simp only [List.length_map, List.length_append]; omega
        generalize hlo' : symLo L.length R.length h = lo at hcs ⊢
        generalize hhi' : symHi L.length h = hi at hcs ⊢
        refine aloop (ι := Nat × Nat) (fun s => [(0, .own 1000000), (1, .d (.int .i64 A.length)), (2, .d (.int .i64 ((A.length + L.length : Nat) : Int))), (3, .d (.int .i64 ((A.length + L.length + R.length : Nat) : Int))), (4, .d (.fn cf [])), (18, .d (.int .i64 ((A.length + h : Nat) : Int))), (19, .d (.int .i64 ((A.length + h + (A.length + L.length) : Nat) : Int))), (20, .d (.int .i64 ((A.length + s.1 : Nat) : Int))), (21, .d (.int .i64 ((A.length + s.2 : Nat) : Int))), (22, .d (.int .i64 ((A.length + h + (A.length + L.length) - 1 : Nat) : Int)))]) (fun s => [(1000000, .row ((A ++ (L ++ (R ++ C))).map encE) 11 false)])
          (fun s => lo ≤ s.1 ∧ s.1 ≤ s.2 ∧ s.2 ≤ hi ∧ (∀ u, lo ≤ u → u < s.1 → ∀ (hu : u < L.length) (hv : h - 1 - u < R.length), le L[u] R[h - 1 - u] = true) ∧ (∀ u, s.2 ≤ u → u < hi → ∀ (hu : u < L.length) (hv : h - 1 - u < R.length), le L[u] R[h - 1 - u] = false)) (fun s => s.2 - s.1) (lo, hi) ⟨Nat.le_refl _, by simp only []; omega, Nat.le_refl _, fun u h1 h2 => by simp only [] at h2; omega, fun u h1 h2 => by simp only [] at h1; omega⟩
          (le0 (le_of_cov ⟨rfl, rfl, rfl, rfl, rfl, rfl, rfl, (by rw [← hlo', hlo]; rfl), (by rw [← hhi', hhi]; rfl), rfl, trivial⟩ ⟨rfl, trivial⟩ ⟨rfl, rfl, rfl, rfl⟩)) ?_
        rintro ⟨s, r⟩ ⟨q1, q2, q3, hP, hQ⟩
        simp only at q1 q2 q3 hP hQ ⊢
        conv => whnf
        refine bcase_p (fun hlt => ?_) (fun hlt => ?_) <;> conv => whnf
        · have es2 : ((A.length + s : Nat) : Int) + ((A.length + r : Nat) : Int) = (((A.length + s) + (A.length + r) : Nat) : Int) := by omega
          have eh2 : ((A.length + s) + (A.length + r)) / 2 = A.length + (s + r) / 2 := by omega
          have hb1 : s ≤ (s + r) / 2 := by omega
          have hb2 : (s + r) / 2 < r := by omega
          repeat (first | (refine bcase_f rfl ?_; conv => whnf) | (refine bcase_t rfl ?_; conv => whnf) | (refine condK_draw (by kernel_rfl) ?_; conv => whnf) | (refine condK_of rfl ?_; conv => whnf) | (refine condK_of (by decide) ?_; conv => whnf) | (refine condK_of (by omega) ?_; conv => whnf) | (refine wrapK_in (w64 (by omega) (by omega)) ?_; conv => whnf))
          rw [es2]
          refine wrapK_in (wu64 (by omega) (by omega)) ?_
          conv => whnf
          repeat (first | (refine bcase_f rfl ?_; conv => whnf) | (refine bcase_t rfl ?_; conv => whnf) | (refine condK_draw (by kernel_rfl) ?_; conv => whnf) | (refine condK_of rfl ?_; conv => whnf) | (refine condK_of (by decide) ?_; conv => whnf) | (refine condK_of (by omega) ?_; conv => whnf) | (refine wrapK_in (w64 (by omega) (by omega)) ?_; conv => whnf))
          rw [half, eh2]
          generalize hrr : (s + r) / 2 = u at hb1 hb2 ⊢
          have hu : u < L.length := by omega
          have hv : h - 1 - u < R.length := by omega
          have ei : ((A.length + h + (A.length + L.length) - 1 : Nat) : Int) - ((A.length + u : Nat) : Int) = ((A.length + L.length + (h - 1 - u) : Nat) : Int) := by omega
          repeat (first | (refine bcase_f rfl ?_; conv => whnf) | (refine bcase_t rfl ?_; conv => whnf) | (refine condK_draw (by kernel_rfl) ?_; conv => whnf) | (refine condK_of rfl ?_; conv => whnf) | (refine condK_of (by decide) ?_; conv => whnf) | (refine condK_of (by omega) ?_; conv => whnf) | (refine wrapK_in (w64 (by omega) (by omega)) ?_; conv => whnf))
          rw [ei]
          refine idxK_nat (by omega) ?_
          conv => whnf
          refine getRow_of (getE_enc (gr _ hv)) ?_
          conv => whnf
          repeat (first | (refine bcase_f rfl ?_; conv => whnf) | (refine bcase_t rfl ?_; conv => whnf) | (refine condK_draw (by kernel_rfl) ?_; conv => whnf) | (refine condK_of rfl ?_; conv => whnf) | (refine condK_of (by decide) ?_; conv => whnf) | (refine condK_of (by omega) ?_; conv => whnf) | (refine wrapK_in (w64 (by omega) (by omega)) ?_; conv => whnf))
          refine idxK_nat (by omega) ?_
          conv => whnf
          refine getRow_of (getE_enc (gl u hu)) ?_
          conv => whnf
          repeat (first | (refine bcase_f rfl ?_; conv => whnf) | (refine bcase_t rfl ?_; conv => whnf) | (refine condK_draw (by kernel_rfl) ?_; conv => whnf) | (refine condK_of rfl ?_; conv => whnf) | (refine condK_of (by decide) ?_; conv => whnf) | (refine condK_of (by omega) ?_; conv => whnf) | (refine wrapK_in (w64 (by omega) (by omega)) ?_; conv => whnf))
          obtain ⟨c, hcall, hlt2⟩ := hc.call R[h - 1 - u] L[u]
          refine callX_pure hcall ?_
          conv => whnf
          repeat (first | (refine bcase_f rfl ?_; conv => whnf) | (refine bcase_t rfl ?_; conv => whnf) | (refine condK_draw (by kernel_rfl) ?_; conv => whnf) | (refine condK_of rfl ?_; conv => whnf) | (refine condK_of (by decide) ?_; conv => whnf) | (refine condK_of (by omega) ?_; conv => whnf) | (refine wrapK_in (w64 (by omega) (by omega)) ?_; conv => whnf))
          refine bcase_n (fun h2 => ?_) (fun h2 => ?_) <;> conv => whnf
          · have h3 : le L[u] R[h - 1 - u] = true := by
              cases e : le L[u] R[h - 1 - u] with
              | true => rfl
              | false => exact absurd (hlt2.2 e) h2
            repeat (first | (refine bcase_f rfl ?_; conv => whnf) | (refine bcase_t rfl ?_; conv => whnf) | (refine condK_draw (by kernel_rfl) ?_; conv => whnf) | (refine condK_of rfl ?_; conv => whnf) | (refine condK_of (by decide) ?_; conv => whnf) | (refine condK_of (by omega) ?_; conv => whnf) | (refine wrapK_in (w64 (by omega) (by omega)) ?_; conv => whnf))
            have e1 : ((A.length + u : Nat) : Int) + 1 = ((A.length + (u + 1) : Nat) : Int) := by omega
            rw [e1]
            exact ⟨(u + 1, r), ⟨by simp only []; omega, by simp only []; omega, q3, fun w k1 k2 hw hv2 => hc.tp.trans _ _ _ (sorted_le hc.tp sL hw hu (by simp only [] at k2; omega)) (hc.tp.trans _ _ _ h3 (sorted_le hc.tp sR hv hv2 (by simp only [] at k2; omega))), hQ⟩, by simp only []; omega, (le0 (le_of_cov ⟨rfl, rfl, rfl, rfl, rfl, rfl, rfl, rfl, rfl, rfl, trivial⟩ ⟨rfl, trivial⟩ ⟨rfl, rfl, rfl, rfl⟩))⟩
          · have h3 := hlt2.1 h2
            repeat (first | (refine bcase_f rfl ?_; conv => whnf) | (refine bcase_t rfl ?_; conv => whnf) | (refine condK_draw (by kernel_rfl) ?_; conv => whnf) | (refine condK_of rfl ?_; conv => whnf) | (refine condK_of (by decide) ?_; conv => whnf) | (refine condK_of (by omega) ?_; conv => whnf) | (refine wrapK_in (w64 (by omega) (by omega)) ?_; conv => whnf))
            exact ⟨(s, u), ⟨q1, by simp only []; omega, by simp only []; omega, hP, fun w k1 k2 hw hv2 => by
              cases e : le L[w] R[h - 1 - w] with
              | false => rfl
              | true => (rw [hc.tp.trans _ _ _ (sorted_le hc.tp sL hu hw (by simp only [] at k1; omega)) (hc.tp.trans _ _ _ e (sorted_le hc.tp sR hv2 hv (by simp only [] at k1; omega)))] at h3; cases h3)⟩, by simp only []; omega, (le0 (le_of_cov ⟨rfl, rfl, rfl, rfl, rfl, rfl, rfl, rfl, rfl, rfl, trivial⟩ ⟨rfl, trivial⟩ ⟨rfl, rfl, rfl, rfl⟩))⟩
        · have hsr : s = r := by omega
          subst hsr
          have hsp := sym_split hc.tp sL sR (h := h) (s := s) hh (by omega) (by omega) (by rw [hlo']; exact hP) (by rw [hhi']; exact hQ)
          clear hP hQ gl gr hml
          have hsh : s ≤ h := by omega
          obtain ⟨L1, L2, rfl, hL1⟩ := split_at (X := L) (n := s) (by omega)
          obtain ⟨R1, R2, rfl, hR1⟩ := split_at (X := R) (n := h - s) (by omega)
          rw [← hR1, ← hL1, List.take_left, List.drop_left, List.take_left, List.drop_left] at hsp
          obtain ⟨sp1, sp2⟩ := hsp
          obtain ⟨sl1, sl2, _⟩ := sorted_app.1 sL
          obtain ⟨sr1, sr2, _⟩ := sorted_app.1 sR
          have hfin : A ++ (srt le ((L1 ++ L2) ++ (R1 ++ R2)) ++ C) = A ++ (srt le (L1 ++ R1) ++ (srt le (L2 ++ R2) ++ C)) := by rw [← merge_halves hc.tp sL sR sp1 sp2]; simp only [List.append_assoc]
          have hone : ∀ {a b : List Ev}, Sorted le a → Sorted le b → (a = [] ∨ b = []) → srt le (a ++ b) = a ++ b := fun {a b} ha hb hab => by
            rcases hab with e | e
            · subst e; exact srt_id hc.tp hb
            · subst e; rw [List.append_nil]; exact srt_id hc.tp ha
          rw [hfin]
          clear hfin sp1 sp2 hcs
          simp only [List.length_append] at hm hn hl2 hr2 hh q1 q3 ⊢
          have e24 : ((A.length + h + (A.length + (L1.length + L2.length)) : Nat) : Int) - ((A.length + s : Nat) : Int) = ((A.length + (L1.length + L2.length) + (h - s) : Nat) : Int) := by omega
          have er0 : A ++ ((L1 ++ L2) ++ ((R1 ++ R2) ++ C)) = A ++ (L1 ++ (L2 ++ (R1 ++ (R2 ++ C)))) := by simp only [List.append_assoc]
          rw [er0]
          repeat (first | (refine bcase_f rfl ?_; conv => whnf) | (refine bcase_t rfl ?_; conv => whnf) | (refine condK_draw (by kernel_rfl) ?_; conv => whnf) | (refine condK_of rfl ?_; conv => whnf) | (refine condK_of (by decide) ?_; conv => whnf) | (refine condK_of (by omega) ?_; conv => whnf) | (refine wrapK_in (w64 (by omega) (by omega)) ?_; conv => whnf))
          rw [e24]
          refine bcase_p (fun c1 => ?_) (fun c1 => ?_) <;> conv => whnf
          · repeat (first | (refine bcase_f rfl ?_; conv => whnf) | (refine bcase_t rfl ?_; conv => whnf) | (refine condK_draw (by kernel_rfl) ?_; conv => whnf) | (refine condK_of rfl ?_; conv => whnf) | (refine condK_of (by decide) ?_; conv => whnf) | (refine condK_of (by omega) ?_; conv => whnf) | (refine wrapK_in (w64 (by omega) (by omega)) ?_; conv => whnf))
            refine bcase_p (fun c2 => ?_) (fun c2 => ?_) <;> conv => whnf
            · repeat (first | (refine bcase_f rfl ?_; conv => whnf) | (refine bcase_t rfl ?_; conv => whnf) | (refine condK_draw (by kernel_rfl) ?_; conv => whnf) | (refine condK_of rfl ?_; conv => whnf) | (refine condK_of (by decide) ?_; conv => whnf) | (refine condK_of (by omega) ?_; conv => whnf) | (refine wrapK_in (w64 (by omega) (by omega)) ?_; conv => whnf))
              refine callX_blk (rotate2 cf (A ++ L1) L2 R1 (R2 ++ C) _ (A.length + s) (A.length + (L1.length + L2.length)) (A.length + (L1.length + L2.length) + (h - s)) (by rw [List.length_append]; omega) (by rw [List.length_append]; omega) (by rw [List.length_append]; omega) (show A ++ (L1 ++ (L2 ++ (R1 ++ (R2 ++ C)))) = _ by simp only [List.append_assoc]) (by intro e; subst e; simp only [List.length_nil] at c1; omega) (by intro e; subst e; simp only [List.length_nil] at hR1; omega) (by simp only [List.length_append]; omega)) [(1000000, 1000000)] rfl ⟨rfl, trivial⟩ rfl ?_
              conv => whnf
              have er1 : (A ++ L1) ++ (R1 ++ (L2 ++ (R2 ++ C))) = A ++ (L1 ++ (R1 ++ (L2 ++ (R2 ++ C)))) := by simp only [List.append_assoc]
              rw [er1]
              repeat (first | (refine bcase_f rfl ?_; conv => whnf) | (refine bcase_t rfl ?_; conv => whnf) | (refine condK_draw (by kernel_rfl) ?_; conv => whnf) | (refine condK_of rfl ?_; conv => whnf) | (refine condK_of (by decide) ?_; conv => whnf) | (refine condK_of (by omega) ?_; conv => whnf) | (refine wrapK_in (w64 (by omega) (by omega)) ?_; conv => whnf))
              refine bcase_p (fun c3 => ?_) (fun c3 => ?_) <;> conv => whnf
              · repeat (first | (refine bcase_f rfl ?_; conv => whnf) | (refine bcase_t rfl ?_; conv => whnf) | (refine condK_draw (by kernel_rfl) ?_; conv => whnf) | (refine condK_of rfl ?_; conv => whnf) | (refine condK_of (by decide) ?_; conv => whnf) | (refine condK_of (by omega) ?_; conv => whnf) | (refine wrapK_in (w64 (by omega) (by omega)) ?_; conv => whnf))
                refine bcase_p (fun c4 => ?_) (fun c4 => ?_) <;> conv => whnf
                · repeat (first | (refine bcase_f rfl ?_; conv => whnf) | (refine bcase_t rfl ?_; conv => whnf) | (refine condK_draw (by kernel_rfl) ?_; conv => whnf) | (refine condK_of rfl ?_; conv => whnf) | (refine condK_of (by decide) ?_; conv => whnf) | (refine condK_of (by omega) ?_; conv => whnf) | (refine wrapK_in (w64 (by omega) (by omega)) ?_; conv => whnf))
                  refine callX_blk (IH A L1 R1 (L2 ++ (R2 ++ C)) (A ++ (L1 ++ (R1 ++ (L2 ++ (R2 ++ C))))) A.length (A.length + s) (A.length + h) rfl (by omega) (by omega) rfl (by omega) (by intro e; subst e; simp only [List.length_nil] at hL1; omega) (by intro e; subst e; simp only [List.length_nil] at hR1; omega) sl1 sr1 (by simp only [List.length_append]; omega)) [(1000000, 1000000)] rfl ⟨rfl, trivial⟩ rfl ?_
                  conv => whnf
                  repeat (first | (refine bcase_f rfl ?_; conv => whnf) | (refine bcase_t rfl ?_; conv => whnf) | (refine condK_draw (by kernel_rfl) ?_; conv => whnf) | (refine condK_of rfl ?_; conv => whnf) | (refine condK_of (by decide) ?_; conv => whnf) | (refine condK_of (by omega) ?_; conv => whnf) | (refine wrapK_in (w64 (by omega) (by omega)) ?_; conv => whnf))
                  refine bcase_p (fun c5 => ?_) (fun c5 => ?_) <;> conv => whnf
                  · repeat (first | (refine bcase_f rfl ?_; conv => whnf) | (refine bcase_t rfl ?_; conv => whnf) | (refine condK_draw (by kernel_rfl) ?_; conv => whnf) | (refine condK_of rfl ?_; conv => whnf) | (refine condK_of (by decide) ?_; conv => whnf) | (refine condK_of (by omega) ?_; conv => whnf) | (refine wrapK_in (w64 (by omega) (by omega)) ?_; conv => whnf))
                    refine bcase_p (fun c6 => ?_) (fun c6 => ?_) <;> conv => whnf
                    · repeat (first | (refine bcase_f rfl ?_; conv => whnf) | (refine bcase_t rfl ?_; conv => whnf) | (refine condK_draw (by kernel_rfl) ?_; conv => whnf) | (refine condK_of rfl ?_; conv => whnf) | (refine condK_of (by decide) ?_; conv => whnf) | (refine condK_of (by omega) ?_; conv => whnf) | (refine wrapK_in (w64 (by omega) (by omega)) ?_; conv => whnf))
                      refine callX_blk (IH (A ++ srt le (L1 ++ R1)) L2 R2 C (A ++ (srt le (L1 ++ R1) ++ (L2 ++ (R2 ++ C)))) (A.length + h) (A.length + (L1.length + L2.length) + (h - s)) (A.length + (L1.length + L2.length) + (R1.length + R2.length)) (by rw [List.length_append, srt_len, List.length_append]; omega) (by rw [List.length_append, srt_len, List.length_append]; omega) (by rw [List.length_append, srt_len, List.length_append]; omega) (by simp only [List.append_assoc]) (by omega) (by intro e; subst e; simp only [List.length_nil] at c5; omega) (by intro e; subst e; simp only [List.length_nil] at c6; omega) sl2 sr2 (by simp only [List.length_append, srt_len]; omega)) [(1000000, 1000000)] rfl ⟨rfl, trivial⟩ rfl ?_
                      conv => whnf
                      repeat (first | (refine bcase_f rfl ?_; conv => whnf) | (refine bcase_t rfl ?_; conv => whnf) | (refine condK_draw (by kernel_rfl) ?_; conv => whnf) | (refine condK_of rfl ?_; conv => whnf) | (refine condK_of (by decide) ?_; conv => whnf) | (refine condK_of (by omega) ?_; conv => whnf) | (refine wrapK_in (w64 (by omega) (by omega)) ?_; conv => whnf))
                      refine hret_of rfl rfl rfl ⟨?_, trivial⟩
                      rw [show A ++ (srt le (L1 ++ R1) ++ (srt le (L2 ++ R2) ++ C)) = (A ++ srt le (L1 ++ R1)) ++ (srt le (L2 ++ R2) ++ C) by simp only [List.append_assoc]]
                      rfl
                    · have hR0 : R2 = [] := List.length_eq_zero_iff.1 (by omega)
                      repeat (first | (refine bcase_f rfl ?_; conv => whnf) | (refine bcase_t rfl ?_; conv => whnf) | (refine condK_draw (by kernel_rfl) ?_; conv => whnf) | (refine condK_of rfl ?_; conv => whnf) | (refine condK_of (by decide) ?_; conv => whnf) | (refine condK_of (by omega) ?_; conv => whnf) | (refine wrapK_in (w64 (by omega) (by omega)) ?_; conv => whnf))
                      refine hret_of rfl rfl rfl ⟨?_, trivial⟩
                      rw [show A ++ (srt le (L1 ++ R1) ++ (srt le (L2 ++ R2) ++ C)) = A ++ (srt le (L1 ++ R1) ++ (L2 ++ (R2 ++ C))) by rw [hone sl2 sr2 (.inr hR0)]; simp only [List.append_assoc]]
                      rfl
                  · have hL0 : L2 = [] := List.length_eq_zero_iff.1 (by omega)
                    repeat (first | (refine bcase_f rfl ?_; conv => whnf) | (refine bcase_t rfl ?_; conv => whnf) | (refine condK_draw (by kernel_rfl) ?_; conv => whnf) | (refine condK_of rfl ?_; conv => whnf) | (refine condK_of (by decide) ?_; conv => whnf) | (refine condK_of (by omega) ?_; conv => whnf) | (refine wrapK_in (w64 (by omega) (by omega)) ?_; conv => whnf))
                    refine hret_of rfl rfl rfl ⟨?_, trivial⟩
                    rw [show A ++ (srt le (L1 ++ R1) ++ (srt le (L2 ++ R2) ++ C)) = A ++ (srt le (L1 ++ R1) ++ (L2 ++ (R2 ++ C))) by rw [hone sl2 sr2 (.inl hL0)]; simp only [List.append_assoc]]
                    rfl
                · have hR0 : R1 = [] := List.length_eq_zero_iff.1 (by omega)
                  have er2 : A ++ (L1 ++ (R1 ++ (L2 ++ (R2 ++ C)))) = A ++ (srt le (L1 ++ R1) ++ (L2 ++ (R2 ++ C))) := by rw [hone sl1 sr1 (.inr hR0)]; simp only [List.append_assoc]
                  rw [er2]
                  repeat (first | (refine bcase_f rfl ?_; conv => whnf) | (refine bcase_t rfl ?_; conv => whnf) | (refine condK_draw (by kernel_rfl) ?_; conv => whnf) | (refine condK_of rfl ?_; conv => whnf) | (refine condK_of (by decide) ?_; conv => whnf) | (refine condK_of (by omega) ?_; conv => whnf) | (refine wrapK_in (w64 (by omega) (by omega)) ?_; conv => whnf))
                  refine bcase_p (fun c5 => ?_) (fun c5 => ?_) <;> conv => whnf
                  · repeat (first | (refine bcase_f rfl ?_; conv => whnf) | (refine bcase_t rfl ?_; conv => whnf) | (refine condK_draw (by kernel_rfl) ?_; conv => whnf) | (refine condK_of rfl ?_; conv => whnf) | (refine condK_of (by decide) ?_; conv => whnf) | (refine condK_of (by omega) ?_; conv => whnf) | (refine wrapK_in (w64 (by omega) (by omega)) ?_; conv => whnf))
                    refine bcase_p (fun c6 => ?_) (fun c6 => ?_) <;> conv => whnf
                    · repeat (first | (refine bcase_f rfl ?_; conv => whnf) | (refine bcase_t rfl ?_; conv => whnf) | (refine condK_draw (by kernel_rfl) ?_; conv => whnf) | (refine condK_of rfl ?_; conv => whnf) | (refine condK_of (by decide) ?_; conv => whnf) | (refine condK_of (by omega) ?_; conv => whnf) | (refine wrapK_in (w64 (by omega) (by omega)) ?_; conv => whnf))
                      refine callX_blk (IH (A ++ srt le (L1 ++ R1)) L2 R2 C (A ++ (srt le (L1 ++ R1) ++ (L2 ++ (R2 ++ C)))) (A.length + h) (A.length + (L1.length + L2.length) + (h - s)) (A.length + (L1.length + L2.length) + (R1.length + R2.length)) (by rw [List.length_append, srt_len, List.length_append]; omega) (by rw [List.length_append, srt_len, List.length_append]; omega) (by rw [List.length_append, srt_len, List.length_append]; omega) (by simp only [List.append_assoc]) (by omega) (by intro e; subst e; simp only [List.length_nil] at c5; omega) (by intro e; subst e; simp only [List.length_nil] at c6; omega) sl2 sr2 (by simp only [List.length_append, srt_len]; omega)) [(1000000, 1000000)] rfl ⟨rfl, trivial⟩ rfl ?_
                      conv => whnf
                      repeat (first | (refine bcase_f rfl ?_; conv => whnf) | (refine bcase_t rfl ?_; conv => whnf) | (refine condK_draw (by kernel_rfl) ?_; conv => whnf) | (refine condK_of rfl ?_; conv => whnf) | (refine condK_of (by decide) ?_; conv => whnf) | (refine condK_of (by omega) ?_; conv => whnf) | (refine wrapK_in (w64 (by omega) (by omega)) ?_; conv => whnf))
                      refine hret_of rfl rfl rfl ⟨?_, trivial⟩
                      rw [show A ++ (srt le (L1 ++ R1) ++ (srt le (L2 ++ R2) ++ C)) = (A ++ srt le (L1 ++ R1)) ++ (srt le (L2 ++ R2) ++ C) by simp only [List.append_assoc]]
                      rfl
                    · have hR0 : R2 = [] := List.length_eq_zero_iff.1 (by omega)
                      repeat (first | (refine bcase_f rfl ?_; conv => whnf) | (refine bcase_t rfl ?_; conv => whnf) | (refine condK_draw (by kernel_rfl) ?_; conv => whnf) | (refine condK_of rfl ?_; conv => whnf) | (refine condK_of (by decide) ?_; conv => whnf) | (refine condK_of (by omega) ?_; conv => whnf) | (refine wrapK_in (w64 (by omega) (by omega)) ?_; conv => whnf))
                      refine hret_of rfl rfl rfl ⟨?_, trivial⟩
                      rw [show A ++ (srt le (L1 ++ R1) ++ (srt le (L2 ++ R2) ++ C)) = A ++ (srt le (L1 ++ R1) ++ (L2 ++ (R2 ++ C))) by rw [hone sl2 sr2 (.inr hR0)]; simp only [List.append_assoc]]
                      rfl
                  · have hL0 : L2 = [] := List.length_eq_zero_iff.1 (by omega)
                    repeat (first | (refine bcase_f rfl ?_; conv => whnf) | (refine bcase_t rfl ?_; conv => whnf) | (refine condK_draw (by kernel_rfl) ?_; conv => whnf) | (refine condK_of rfl ?_; conv => whnf) | (refine condK_of (by decide) ?_; conv => whnf) | (refine condK_of (by omega) ?_; conv => whnf) | (refine wrapK_in (w64 (by omega) (by omega)) ?_; conv => whnf))
                    refine hret_of rfl rfl rfl ⟨?_, trivial⟩
                    rw [show A ++ (srt le (L1 ++ R1) ++ (srt le (L2 ++ R2) ++ C)) = A ++ (srt le (L1 ++ R1) ++ (L2 ++ (R2 ++ C))) by rw [hone sl2 sr2 (.inl hL0)]; simp only [List.append_assoc]]
                    rfl
              · have hL0 : L1 = [] := List.length_eq_zero_iff.1 (by omega)
                have er2 : A ++ (L1 ++ (R1 ++ (L2 ++ (R2 ++ C)))) = A ++ (srt le (L1 ++ R1) ++ (L2 ++ (R2 ++ C))) := by rw [hone sl1 sr1 (.inl hL0)]; simp only [List.append_assoc]
                rw [er2]
                repeat (first | (refine bcase_f rfl ?_; conv => whnf) | (refine bcase_t rfl ?_; conv => whnf) | (refine condK_draw (by kernel_rfl) ?_; conv => whnf) | (refine condK_of rfl ?_; conv => whnf) | (refine condK_of (by decide) ?_; conv => whnf) | (refine condK_of (by omega) ?_; conv => whnf) | (refine wrapK_in (w64 (by omega) (by omega)) ?_; conv => whnf))
                refine bcase_p (fun c5 => ?_) (fun c5 => ?_) <;> conv => whnf
                · repeat (first | (refine bcase_f rfl ?_; conv => whnf) | (refine bcase_t rfl ?_; conv => whnf) | (refine condK_draw (by kernel_rfl) ?_; conv => whnf) | (refine condK_of rfl ?_; conv => whnf) | (refine condK_of (by decide) ?_; conv => whnf) | (refine condK_of (by omega) ?_; conv => whnf) | (refine wrapK_in (w64 (by omega) (by omega)) ?_; conv => whnf))
                  refine bcase_p (fun c6 => ?_) (fun c6 => ?_) <;> conv => whnf
                  · repeat (first | (refine bcase_f rfl ?_; conv => whnf) | (refine bcase_t rfl ?_; conv => whnf) | (refine condK_draw (by kernel_rfl) ?_; conv => whnf) | (refine condK_of rfl ?_; conv => whnf) | (refine condK_of (by decide) ?_; conv => whnf) | (refine condK_of (by omega) ?_; conv => whnf) | (refine wrapK_in (w64 (by omega) (by omega)) ?_; conv => whnf))
                    refine callX_blk (IH (A ++ srt le (L1 ++ R1)) L2 R2 C (A ++ (srt le (L1 ++ R1) ++ (L2 ++ (R2 ++ C)))) (A.length + h) (A.length + (L1.length + L2.length) + (h - s)) (A.length + (L1.length + L2.length) + (R1.length + R2.length)) (by rw [List.length_append, srt_len, List.length_append]; omega) (by rw [List.length_append, srt_len, List.length_append]; omega) (by rw [List.length_append, srt_len, List.length_append]; omega) (by simp only [List.append_assoc]) (by omega) (by intro e; subst e; simp only [List.length_nil] at c5; omega) (by intro e; subst e; simp only [List.length_nil] at c6; omega) sl2 sr2 (by simp only [List.length_append, srt_len]; omega)) [(1000000, 1000000)] rfl ⟨rfl, trivial⟩ rfl ?_
                    conv => whnf
                    repeat (first | (refine bcase_f rfl ?_; conv => whnf) | (refine bcase_t rfl ?_; conv => whnf) | (refine condK_draw (by kernel_rfl) ?_; conv => whnf) | (refine condK_of rfl ?_; conv => whnf) | (refine condK_of (by decide) ?_; conv => whnf) | (refine condK_of (by omega) ?_; conv => whnf) | (refine wrapK_in (w64 (by omega) (by omega)) ?_; conv => whnf))
                    refine hret_of rfl rfl rfl ⟨?_, trivial⟩
                    rw [show A ++ (srt le (L1 ++ R1) ++ (srt le (L2 ++ R2) ++ C)) = (A ++ srt le (L1 ++ R1)) ++ (srt le (L2 ++ R2) ++ C) by simp only [List.append_assoc]]
                    rfl
                  · have hR0 : R2 = [] := List.length_eq_zero_iff.1 (by omega)
                    repeat (first | (refine bcase_f rfl ?_; conv => whnf) | (refine bcase_t rfl ?_; conv => whnf) | (refine condK_draw (by kernel_rfl) ?_; conv => whnf) | (refine condK_of rfl ?_; conv => whnf) | (refine condK_of (by decide) ?_; conv => whnf) | (refine condK_of (by omega) ?_; conv => whnf) | (refine wrapK_in (w64 (by omega) (by omega)) ?_; conv => whnf))
                    refine hret_of rfl rfl rfl ⟨?_, trivial⟩
                    rw [show A ++ (srt le (L1 ++ R1) ++ (srt le (L2 ++ R2) ++ C)) = A ++ (srt le (L1 ++ R1) ++ (L2 ++ (R2 ++ C))) by rw [hone sl2 sr2 (.inr hR0)]; simp only [List.append_assoc]]
                    rfl
                · have hL0 : L2 = [] := List.length_eq_zero_iff.1 (by omega)
                  repeat (first | (refine bcase_f rfl ?_; conv => whnf) | (refine bcase_t rfl ?_; conv => whnf) | (refine condK_draw (by kernel_rfl) ?_; conv => whnf) | (refine condK_of rfl ?_; conv => whnf) | (refine condK_of (by decide) ?_; conv => whnf) | (refine condK_of (by omega) ?_; conv => whnf) | (refine wrapK_in (w64 (by omega) (by omega)) ?_; conv => whnf))
                  refine hret_of rfl rfl rfl ⟨?_, trivial⟩
                  rw [show A ++ (srt le (L1 ++ R1) ++ (srt le (L2 ++ R2) ++ C)) = A ++ (srt le (L1 ++ R1) ++ (L2 ++ (R2 ++ C))) by rw [hone sl2 sr2 (.inl hL0)]; simp only [List.append_assoc]]
                  rfl
            · have hR0 : R1 = [] := List.length_eq_zero_iff.1 (by omega)
              have er1 : A ++ (L1 ++ (L2 ++ (R1 ++ (R2 ++ C)))) = A ++ (L1 ++ (R1 ++ (L2 ++ (R2 ++ C)))) := by rw [hR0]; rfl
              rw [er1]
              repeat (first | (refine bcase_f rfl ?_; conv => whnf) | (refine bcase_t rfl ?_; conv => whnf) | (refine condK_draw (by kernel_rfl) ?_; conv => whnf) | (refine condK_of rfl ?_; conv => whnf) | (refine condK_of (by decide) ?_; conv => whnf) | (refine condK_of (by omega) ?_; conv => whnf) | (refine wrapK_in (w64 (by omega) (by omega)) ?_; conv => whnf))
              refine bcase_p (fun c3 => ?_) (fun c3 => ?_) <;> conv => whnf
              · repeat (first | (refine bcase_f rfl ?_; conv => whnf) | (refine bcase_t rfl ?_; conv => whnf) | (refine condK_draw (by kernel_rfl) ?_; conv => whnf) | (refine condK_of rfl ?_; conv => whnf) | (refine condK_of (by decide) ?_; conv => whnf) | (refine condK_of (by omega) ?_; conv => whnf) | (refine wrapK_in (w64 (by omega) (by omega)) ?_; conv => whnf))
                refine bcase_p (fun c4 => ?_) (fun c4 => ?_) <;> conv => whnf
                · repeat (first | (refine bcase_f rfl ?_; conv => whnf) | (refine bcase_t rfl ?_; conv => whnf) | (refine condK_draw (by kernel_rfl) ?_; conv => whnf) | (refine condK_of rfl ?_; conv => whnf) | (refine condK_of (by decide) ?_; conv => whnf) | (refine condK_of (by omega) ?_; conv => whnf) | (refine wrapK_in (w64 (by omega) (by omega)) ?_; conv => whnf))
                  refine callX_blk (IH A L1 R1 (L2 ++ (R2 ++ C)) (A ++ (L1 ++ (R1 ++ (L2 ++ (R2 ++ C))))) A.length (A.length + s) (A.length + h) rfl (by omega) (by omega) rfl (by omega) (by intro e; subst e; simp only [List.length_nil] at hL1; omega) (by intro e; subst e; simp only [List.length_nil] at hR1; omega) sl1 sr1 (by simp only [List.length_append]; omega)) [(1000000, 1000000)] rfl ⟨rfl, trivial⟩ rfl ?_
                  conv => whnf
                  repeat (first | (refine bcase_f rfl ?_; conv => whnf) | (refine bcase_t rfl ?_; conv => whnf) | (refine condK_draw (by kernel_rfl) ?_; conv => whnf) | (refine condK_of rfl ?_; conv => whnf) | (refine condK_of (by decide) ?_; conv => whnf) | (refine condK_of (by omega) ?_; conv => whnf) | (refine wrapK_in (w64 (by omega) (by omega)) ?_; conv => whnf))
                  refine bcase_p (fun c5 => ?_) (fun c5 => ?_) <;> conv => whnf
                  · repeat (first | (refine bcase_f rfl ?_; conv => whnf) | (refine bcase_t rfl ?_; conv => whnf) | (refine condK_draw (by kernel_rfl) ?_; conv => whnf) | (refine condK_of rfl ?_; conv => whnf) | (refine condK_of (by decide) ?_; conv => whnf) | (refine condK_of (by omega) ?_; conv => whnf) | (refine wrapK_in (w64 (by omega) (by omega)) ?_; conv => whnf))
                    refine bcase_p (fun c6 => ?_) (fun c6 => ?_) <;> conv => whnf
                    · repeat (first | (refine bcase_f rfl ?_; conv => whnf) | (refine bcase_t rfl ?_; conv => whnf) | (refine condK_draw (by kernel_rfl) ?_; conv => whnf) | (refine condK_of rfl ?_; conv => whnf) | (refine condK_of (by decide) ?_; conv => whnf) | (refine condK_of (by omega) ?_; conv => whnf) | (refine wrapK_in (w64 (by omega) (by omega)) ?_; conv => whnf))
                      refine callX_blk (IH (A ++ srt le (L1 ++ R1)) L2 R2 C (A ++ (srt le (L1 ++ R1) ++ (L2 ++ (R2 ++ C)))) (A.length + h) (A.length + (L1.length + L2.length) + (h - s)) (A.length + (L1.length + L2.length) + (R1.length + R2.length)) (by rw [List.length_append, srt_len, List.length_append]; omega) (by rw [List.length_append, srt_len, List.length_append]; omega) (by rw [List.length_append, srt_len, List.length_append]; omega) (by simp only [List.append_assoc]) (by omega) (by intro e; subst e; simp only [List.length_nil] at c5; omega) (by intro e; subst e; simp only [List.length_nil] at c6; omega) sl2 sr2 (by simp only [List.length_append, srt_len]; omega)) [(1000000, 1000000)] rfl ⟨rfl, trivial⟩ rfl ?_
                      conv => whnf
                      repeat (first | (refine bcase_f rfl ?_; conv => whnf) | (refine bcase_t rfl ?_; conv => whnf) | (refine condK_draw (by kernel_rfl) ?_; conv => whnf) | (refine condK_of rfl ?_; conv => whnf) | (refine condK_of (by decide) ?_; conv => whnf) | (refine condK_of (by omega) ?_; conv => whnf) | (refine wrapK_in (w64 (by omega) (by omega)) ?_; conv => whnf))
                      refine hret_of rfl rfl rfl ⟨?_, trivial⟩
                      rw [show A ++ (srt le (L1 ++ R1) ++ (srt le (L2 ++ R2) ++ C)) = (A ++ srt le (L1 ++ R1)) ++ (srt le (L2 ++ R2) ++ C) by simp only [List.append_assoc]]
                      rfl
                    · have hR0 : R2 = [] := List.length_eq_zero_iff.1 (by omega)
                      repeat (first | (refine bcase_f rfl ?_; conv => whnf) | (refine bcase_t rfl ?_; conv => whnf) | (refine condK_draw (by kernel_rfl) ?_; conv => whnf) | (refine condK_of rfl ?_; conv => whnf) | (refine condK_of (by decide) ?_; conv => whnf) | (refine condK_of (by omega) ?_; conv => whnf) | (refine wrapK_in (w64 (by omega) (by omega)) ?_; conv => whnf))
                      refine hret_of rfl rfl rfl ⟨?_, trivial⟩
                      rw [show A ++ (srt le (L1 ++ R1) ++ (srt le (L2 ++ R2) ++ C)) = A ++ (srt le (L1 ++ R1) ++ (L2 ++ (R2 ++ C))) by rw [hone sl2 sr2 (.inr hR0)]; simp only [List.append_assoc]]
                      rfl
                  · have hL0 : L2 = [] := List.length_eq_zero_iff.1 (by omega)
                    repeat (first | (refine bcase_f rfl ?_; conv => whnf) | (refine bcase_t rfl ?_; conv => whnf) | (refine condK_draw (by kernel_rfl) ?_; conv => whnf) | (refine condK_of rfl ?_; conv => whnf) | (refine condK_of (by decide) ?_; conv => whnf) | (refine condK_of (by omega) ?_; conv => whnf) | (refine wrapK_in (w64 (by omega) (by omega)) ?_; conv => whnf))
                    refine hret_of rfl rfl rfl ⟨?_, trivial⟩
                    rw [show A ++ (srt le (L1 ++ R1) ++ (srt le (L2 ++ R2) ++ C)) = A ++ (srt le (L1 ++ R1) ++ (L2 ++ (R2 ++ C))) by rw [hone sl2 sr2 (.inl hL0)]; simp only [List.append_assoc]]
                    rfl
                · have hR0 : R1 = [] := List.length_eq_zero_iff.1 (by omega)
                  have er2 : A ++ (L1 ++ (R1 ++ (L2 ++ (R2 ++ C)))) = A ++ (srt le (L1 ++ R1) ++ (L2 ++ (R2 ++ C))) := by rw [hone sl1 sr1 (.inr hR0)]; simp only [List.append_assoc]
                  rw [er2]
                  repeat (first | (refine bcase_f rfl ?_; conv => whnf) | (refine bcase_t rfl ?_; conv => whnf) | (refine condK_draw (by kernel_rfl) ?_; conv => whnf) | (refine condK_of rfl ?_; conv => whnf) | (refine condK_of (by decide) ?_; conv => whnf) | (refine condK_of (by omega) ?_; conv => whnf) | (refine wrapK_in (w64 (by omega) (by omega)) ?_; conv => whnf))
                  refine bcase_p (fun c5 => ?_) (fun c5 => ?_) <;> conv => whnf
                  · repeat (first | (refine bcase_f rfl ?_; conv => whnf) | (refine bcase_t rfl ?_; conv => whnf) | (refine condK_draw (by kernel_rfl) ?_; conv => whnf) | (refine condK_of rfl ?_; conv => whnf) | (refine condK_of (by decide) ?_; conv => whnf) | (refine condK_of (by omega) ?_; conv => whnf) | (refine wrapK_in (w64 (by omega) (by omega)) ?_; conv => whnf))
                    refine bcase_p (fun c6 => ?_) (fun c6 => ?_) <;> conv => whnf
                    · repeat (first | (refine bcase_f rfl ?_; conv => whnf) | (refine bcase_t rfl ?_; conv => whnf) | (refine condK_draw (by kernel_rfl) ?_; conv => whnf) | (refine condK_of rfl ?_; conv => whnf) | (refine condK_of (by decide) ?_; conv => whnf) | (refine condK_of (by omega) ?_; conv => whnf) | (refine wrapK_in (w64 (by omega) (by omega)) ?_; conv => whnf))
                      refine callX_blk (IH (A ++ srt le (L1 ++ R1)) L2 R2 C (A ++ (srt le (L1 ++ R1) ++ (L2 ++ (R2 ++ C)))) (A.length + h) (A.length + (L1.length + L2.length) + (h - s)) (A.length + (L1.length + L2.length) + (R1.length + R2.length)) (by rw [List.length_append, srt_len, List.length_append]; omega) (by rw [List.length_append, srt_len, List.length_append]; omega) (by rw [List.length_append, srt_len, List.length_append]; omega) (by simp only [List.append_assoc]) (by omega) (by intro e; subst e; simp only [List.length_nil] at c5; omega) (by intro e; subst e; simp only [List.length_nil] at c6; omega) sl2 sr2 (by simp only [List.length_append, srt_len]; omega)) [(1000000, 1000000)] rfl ⟨rfl, trivial⟩ rfl ?_
                      conv => whnf
                      repeat (first | (refine bcase_f rfl ?_; conv => whnf) | (refine bcase_t rfl ?_; conv => whnf) | (refine condK_draw (by kernel_rfl) ?_; conv => whnf) | (refine condK_of rfl ?_; conv => whnf) | (refine condK_of (by decide) ?_; conv => whnf) | (refine condK_of (by omega) ?_; conv => whnf) | (refine wrapK_in (w64 (by omega) (by omega)) ?_; conv => whnf))
                      refine hret_of rfl rfl rfl ⟨?_, trivial⟩
                      rw [show A ++ (srt le (L1 ++ R1) ++ (srt le (L2 ++ R2) ++ C)) = (A ++ srt le (L1 ++ R1)) ++ (srt le (L2 ++ R2) ++ C) by simp only [List.append_assoc]]
                      rfl
                    · have hR0 : R2 = [] := List.length_eq_zero_iff.1 (by omega)
                      repeat (first | (refine bcase_f rfl ?_; conv => whnf) | (refine bcase_t rfl ?_; conv => whnf) | (refine condK_draw (by kernel_rfl) ?_; conv => whnf) | (refine condK_of rfl ?_; conv => whnf) | (refine condK_of (by decide) ?_; conv => whnf) | (refine condK_of (by omega) ?_; conv => whnf) | (refine wrapK_in (w64 (by omega) (by omega)) ?_; conv => whnf))
                      refine hret_of rfl rfl rfl ⟨?_, trivial⟩
                      rw [show A ++ (srt le (L1 ++ R1) ++ (srt le (L2 ++ R2) ++ C)) = A ++ (srt le (L1 ++ R1) ++ (L2 ++ (R2 ++ C))) by rw [hone sl2 sr2 (.inr hR0)]; simp only [List.append_assoc]]
                      rfl
                  · have hL0 : L2 = [] := List.length_eq_zero_iff.1 (by omega)
                    repeat (first | (refine bcase_f rfl ?_; conv => whnf) | (refine bcase_t rfl ?_; conv => whnf) | (refine condK_draw (by kernel_rfl) ?_; conv => whnf) | (refine condK_of rfl ?_; conv => whnf) | (refine condK_of (by decide) ?_; conv => whnf) | (refine condK_of (by omega) ?_; conv => whnf) | (refine wrapK_in (w64 (by omega) (by omega)) ?_; conv => whnf))
                    refine hret_of rfl rfl rfl ⟨?_, trivial⟩
                    rw [show A ++ (srt le (L1 ++ R1) ++ (srt le (L2 ++ R2) ++ C)) = A ++ (srt le (L1 ++ R1) ++ (L2 ++ (R2 ++ C))) by rw [hone sl2 sr2 (.inl hL0)]; simp only [List.append_assoc]]
                    rfl
              · have hL0 : L1 = [] := List.length_eq_zero_iff.1 (by omega)
                have er2 : A ++ (L1 ++ (R1 ++ (L2 ++ (R2 ++ C)))) = A ++ (srt le (L1 ++ R1) ++ (L2 ++ (R2 ++ C))) := by rw [hone sl1 sr1 (.inl hL0)]; simp only [List.append_assoc]
                rw [er2]
                repeat (first | (refine bcase_f rfl ?_; conv => whnf) | (refine bcase_t rfl ?_; conv => whnf) | (refine condK_draw (by kernel_rfl) ?_; conv => whnf) | (refine condK_of rfl ?_; conv => whnf) | (refine condK_of (by decide) ?_; conv => whnf) | (refine condK_of (by omega) ?_; conv => whnf) | (refine wrapK_in (w64 (by omega) (by omega)) ?_; conv => whnf))
                refine bcase_p (fun c5 => ?_) (fun c5 => ?_) <;> conv => whnf
                · repeat (first | (refine bcase_f rfl ?_; conv => whnf) | (refine bcase_t rfl ?_; conv => whnf) | (refine condK_draw (by kernel_rfl) ?_; conv => whnf) | (refine condK_of rfl ?_; conv => whnf) | (refine condK_of (by decide) ?_; conv => whnf) | (refine condK_of (by omega) ?_; conv => whnf) | (refine wrapK_in (w64 (by omega) (by omega)) ?_; conv => whnf))
                  refine bcase_p (fun c6 => ?_) (fun c6 => ?_) <;> conv => whnf
                  · repeat (first | (refine bcase_f rfl ?_; conv => whnf) | (refine bcase_t rfl ?_; conv => whnf) | (refine condK_draw (by kernel_rfl) ?_; conv => whnf) | (refine condK_of rfl ?_; conv => whnf) | (refine condK_of (by decide) ?_; conv => whnf) | (refine condK_of (by omega) ?_; conv => whnf) | (refine wrapK_in (w64 (by omega) (by omega)) ?_; conv => whnf))
                    refine callX_blk (IH (A ++ srt le (L1 ++ R1)) L2 R2 C (A ++ (srt le (L1 ++ R1) ++ (L2 ++ (R2 ++ C)))) (A.length + h) (A.length + (L1.length + L2.length) + (h - s)) (A.length + (L1.length + L2.length) + (R1.length + R2.length)) (by rw [List.length_append, srt_len, List.length_append]; omega) (by rw [List.length_append, srt_len, List.length_append]; omega) (by rw [List.length_append, srt_len, List.length_append]; omega) (by simp only [List.append_assoc]) (by omega) (by intro e; subst e; simp only [List.length_nil] at c5; omega) (by intro e; subst e; simp only [List.length_nil] at c6; omega) sl2 sr2 (by simp only [List.length_append, srt_len]; omega)) [(1000000, 1000000)] rfl ⟨rfl, trivial⟩ rfl ?_
                    conv => whnf
                    repeat (first | (refine bcase_f rfl ?_; conv => whnf) | (refine bcase_t rfl ?_; conv => whnf) | (refine condK_draw (by kernel_rfl) ?_; conv => whnf) | (refine condK_of rfl ?_; conv => whnf) | (refine condK_of (by decide) ?_; conv => whnf) | (refine condK_of (by omega) ?_; conv => whnf) | (refine wrapK_in (w64 (by omega) (by omega)) ?_; conv => whnf))
                    refine hret_of rfl rfl rfl ⟨?_, trivial⟩
                    rw [show A ++ (srt le (L1 ++ R1) ++ (srt le (L2 ++ R2) ++ C)) = (A ++ srt le (L1 ++ R1)) ++ (srt le (L2 ++ R2) ++ C) by simp only [List.append_assoc]]
                    rfl
                  · have hR0 : R2 = [] := List.length_eq_zero_iff.1 (by omega)
                    repeat (first | (refine bcase_f rfl ?_; conv => whnf) | (refine bcase_t rfl ?_; conv => whnf) | (refine condK_draw (by kernel_rfl) ?_; conv => whnf) | (refine condK_of rfl ?_; conv => whnf) | (refine condK_of (by decide) ?_; conv => whnf) | (refine condK_of (by omega) ?_; conv => whnf) | (refine wrapK_in (w64 (by omega) (by omega)) ?_; conv => whnf))
                    refine hret_of rfl rfl rfl ⟨?_, trivial⟩
                    rw [show A ++ (srt le (L1 ++ R1) ++ (srt le (L2 ++ R2) ++ C)) = A ++ (srt le (L1 ++ R1) ++ (L2 ++ (R2 ++ C))) by rw [hone sl2 sr2 (.inr hR0)]; simp only [List.append_assoc]]
                    rfl
                · have hL0 : L2 = [] := List.length_eq_zero_iff.1 (by omega)
                  repeat (first | (refine bcase_f rfl ?_; conv => whnf) | (refine bcase_t rfl ?_; conv => whnf) | (refine condK_draw (by kernel_rfl) ?_; conv => whnf) | (refine condK_of rfl ?_; conv => whnf) | (refine condK_of (by decide) ?_; conv => whnf) | (refine condK_of (by omega) ?_; conv => whnf) | (refine wrapK_in (w64 (by omega) (by omega)) ?_; conv => whnf))
                  refine hret_of rfl rfl rfl ⟨?_, trivial⟩
                  rw [show A ++ (srt le (L1 ++ R1) ++ (srt le (L2 ++ R2) ++ C)) = A ++ (srt le (L1 ++ R1) ++ (L2 ++ (R2 ++ C))) by rw [hone sl2 sr2 (.inl hL0)]; simp only [List.append_assoc]]
                  rfl
          · have hL0 : L2 = [] := List.length_eq_zero_iff.1 (by omega)
            have er1 : A ++ (L1 ++ (L2 ++ (R1 ++ (R2 ++ C)))) = A ++ (L1 ++ (R1 ++ (L2 ++ (R2 ++ C)))) := by rw [hL0]; rfl
            rw [er1]
            repeat (first | (refine bcase_f rfl ?_; conv => whnf) | (refine bcase_t rfl ?_; conv => whnf) | (refine condK_draw (by kernel_rfl) ?_; conv => whnf) | (refine condK_of rfl ?_; conv => whnf) | (refine condK_of (by decide) ?_; conv => whnf) | (refine condK_of (by omega) ?_; conv => whnf) | (refine wrapK_in (w64 (by omega) (by omega)) ?_; conv => whnf))
            refine bcase_p (fun c3 => ?_) (fun c3 => ?_) <;> conv => whnf
            · repeat (first | (refine bcase_f rfl ?_; conv => whnf) | (refine bcase_t rfl ?_; conv => whnf) | (refine condK_draw (by kernel_rfl) ?_; conv => whnf) | (refine condK_of rfl ?_; conv => whnf) | (refine condK_of (by decide) ?_; conv => whnf) | (refine condK_of (by omega) ?_; conv => whnf) | (refine wrapK_in (w64 (by omega) (by omega)) ?_; conv => whnf))
              refine bcase_p (fun c4 => ?_) (fun c4 => ?_) <;> conv => whnf
              · repeat (first | (refine bcase_f rfl ?_; conv => whnf) | (refine bcase_t rfl ?_; conv => whnf) | (refine condK_draw (by kernel_rfl) ?_; conv => whnf) | (refine condK_of rfl ?_; conv => whnf) | (refine condK_of (by decide) ?_; conv => whnf) | (refine condK_of (by omega) ?_; conv => whnf) | (refine wrapK_in (w64 (by omega) (by omega)) ?_; conv => whnf))
                refine callX_blk (IH A L1 R1 (L2 ++ (R2 ++ C)) (A ++ (L1 ++ (R1 ++ (L2 ++ (R2 ++ C))))) A.length (A.length + s) (A.length + h) rfl (by omega) (by omega) rfl (by omega) (by intro e; subst e; simp only [List.length_nil] at hL1; omega) (by intro e; subst e; simp only [List.length_nil] at hR1; omega) sl1 sr1 (by simp only [List.length_append]; omega)) [(1000000, 1000000)] rfl ⟨rfl, trivial⟩ rfl ?_
                conv => whnf
                repeat (first | (refine bcase_f rfl ?_; conv => whnf) | (refine bcase_t rfl ?_; conv => whnf) | (refine condK_draw (by kernel_rfl) ?_; conv => whnf) | (refine condK_of rfl ?_; conv => whnf) | (refine condK_of (by decide) ?_; conv => whnf) | (refine condK_of (by omega) ?_; conv => whnf) | (refine wrapK_in (w64 (by omega) (by omega)) ?_; conv => whnf))
                refine bcase_p (fun c5 => ?_) (fun c5 => ?_) <;> conv => whnf
                · repeat (first | (refine bcase_f rfl ?_; conv => whnf) | (refine bcase_t rfl ?_; conv => whnf) | (refine condK_draw (by kernel_rfl) ?_; conv => whnf) | (refine condK_of rfl ?_; conv => whnf) | (refine condK_of (by decide) ?_; conv => whnf) | (refine condK_of (by omega) ?_; conv => whnf) | (refine wrapK_in (w64 (by omega) (by omega)) ?_; conv => whnf))
                  refine bcase_p (fun c6 => ?_) (fun c6 => ?_) <;> conv => whnf
                  · repeat (first | (refine bcase_f rfl ?_; conv => whnf) | (refine bcase_t rfl ?_; conv => whnf) | (refine condK_draw (by kernel_rfl) ?_; conv => whnf) | (refine condK_of rfl ?_; conv => whnf) | (refine condK_of (by decide) ?_; conv => whnf) | (refine condK_of (by omega) ?_; conv => whnf) | (refine wrapK_in (w64 (by omega) (by omega)) ?_; conv => whnf))
                    refine callX_blk (IH (A ++ srt le (L1 ++ R1)) L2 R2 C (A ++ (srt le (L1 ++ R1) ++ (L2 ++ (R2 ++ C)))) (A.length + h) (A.length + (L1.length + L2.length) + (h - s)) (A.length + (L1.length + L2.length) + (R1.length + R2.length)) (by rw [List.length_append, srt_len, List.length_append]; omega) (by rw [List.length_append, srt_len, List.length_append]; omega) (by rw [List.length_append, srt_len, List.length_append]; omega) (by simp only [List.append_assoc]) (by omega) (by intro e; subst e; simp only [List.length_nil] at c5; omega) (by intro e; subst e; simp only [List.length_nil] at c6; omega) sl2 sr2 (by simp only [List.length_append, srt_len]; omega)) [(1000000, 1000000)] rfl ⟨rfl, trivial⟩ rfl ?_
                    conv => whnf
                    repeat (first | (refine bcase_f rfl ?_; conv => whnf) | (refine bcase_t rfl ?_; conv => whnf) | (refine condK_draw (by kernel_rfl) ?_; conv => whnf) | (refine condK_of rfl ?_; conv => whnf) | (refine condK_of (by decide) ?_; conv => whnf) | (refine condK_of (by omega) ?_; conv => whnf) | (refine wrapK_in (w64 (by omega) (by omega)) ?_; conv => whnf))
                    refine hret_of rfl rfl rfl ⟨?_, trivial⟩
                    rw [show A ++ (srt le (L1 ++ R1) ++ (srt le (L2 ++ R2) ++ C)) = (A ++ srt le (L1 ++ R1)) ++ (srt le (L2 ++ R2) ++ C) by simp only [List.append_assoc]]
                    rfl
                  · have hR0 : R2 = [] := List.length_eq_zero_iff.1 (by omega)
                    repeat (first | (refine bcase_f rfl ?_; conv => whnf) | (refine bcase_t rfl ?_; conv => whnf) | (refine condK_draw (by kernel_rfl) ?_; conv => whnf) | (refine condK_of rfl ?_; conv => whnf) | (refine condK_of (by decide) ?_; conv => whnf) | (refine condK_of (by omega) ?_; conv => whnf) | (refine wrapK_in (w64 (by omega) (by omega)) ?_; conv => whnf))
                    refine hret_of rfl rfl rfl ⟨?_, trivial⟩
                    rw [show A ++ (srt le (L1 ++ R1) ++ (srt le (L2 ++ R2) ++ C)) = A ++ (srt le (L1 ++ R1) ++ (L2 ++ (R2 ++ C))) by rw [hone sl2 sr2 (.inr hR0)]; simp only [List.append_assoc]]
                    rfl
                · have hL0 : L2 = [] := List.length_eq_zero_iff.1 (by omega)
                  repeat (first | (refine bcase_f rfl ?_; conv => whnf) | (refine bcase_t rfl ?_; conv => whnf) | (refine condK_draw (by kernel_rfl) ?_; conv => whnf) | (refine condK_of rfl ?_; conv => whnf) | (refine condK_of (by decide) ?_; conv => whnf) | (refine condK_of (by omega) ?_; conv => whnf) | (refine wrapK_in (w64 (by omega) (by omega)) ?_; conv => whnf))
                  refine hret_of rfl rfl rfl ⟨?_, trivial⟩
                  rw [show A ++ (srt le (L1 ++ R1) ++ (srt le (L2 ++ R2) ++ C)) = A ++ (srt le (L1 ++ R1) ++ (L2 ++ (R2 ++ C))) by rw [hone sl2 sr2 (.inl hL0)]; simp only [List.append_assoc]]
                  rfl
              · have hR0 : R1 = [] := List.length_eq_zero_iff.1 (by omega)
                have er2 : A ++ (L1 ++ (R1 ++ (L2 ++ (R2 ++ C)))) = A ++ (srt le (L1 ++ R1) ++ (L2 ++ (R2 ++ C))) := by rw [hone sl1 sr1 (.inr hR0)]; simp only [List.append_assoc]
                rw [er2]
                repeat (first | (refine bcase_f rfl ?_; conv => whnf) | (refine bcase_t rfl ?_; conv => whnf) | (refine condK_draw (by kernel_rfl) ?_; conv => whnf) | (refine condK_of rfl ?_; conv => whnf) | (refine condK_of (by decide) ?_; conv => whnf) | (refine condK_of (by omega) ?_; conv => whnf) | (refine wrapK_in (w64 (by omega) (by omega)) ?_; conv => whnf))
                refine bcase_p (fun c5 => ?_) (fun c5 => ?_) <;> conv => whnf
                · repeat (first | (refine bcase_f rfl ?_; conv => whnf) | (refine bcase_t rfl ?_; conv => whnf) | (refine condK_draw (by kernel_rfl) ?_; conv => whnf) | (refine condK_of rfl ?_; conv => whnf) | (refine condK_of (by decide) ?_; conv => whnf) | (refine condK_of (by omega) ?_; conv => whnf) | (refine wrapK_in (w64 (by omega) (by omega)) ?_; conv => whnf))
                  refine bcase_p (fun c6 => ?_) (fun c6 => ?_) <;> conv => whnf
                  · repeat (first | (refine bcase_f rfl ?_; conv => whnf) | (refine bcase_t rfl ?_; conv => whnf) | (refine condK_draw (by kernel_rfl) ?_; conv => whnf) | (refine condK_of rfl ?_; conv => whnf) | (refine condK_of (by decide) ?_; conv => whnf) | (refine condK_of (by omega) ?_; conv => whnf) | (refine wrapK_in (w64 (by omega) (by omega)) ?_; conv => whnf))
                    refine callX_blk (IH (A ++ srt le (L1 ++ R1)) L2 R2 C (A ++ (srt le (L1 ++ R1) ++ (L2 ++ (R2 ++ C)))) (A.length + h) (A.length + (L1.length + L2.length) + (h - s)) (A.length + (L1.length + L2.length) + (R1.length + R2.length)) (by rw [List.length_append, srt_len, List.length_append]; omega) (by rw [List.length_append, srt_len, List.length_append]; omega) (by rw [List.length_append, srt_len, List.length_append]; omega) (by simp only [List.append_assoc]) (by omega) (by intro e; subst e; simp only [List.length_nil] at c5; omega) (by intro e; subst e; simp only [List.length_nil] at c6; omega) sl2 sr2 (by simp only [List.length_append, srt_len]; omega)) [(1000000, 1000000)] rfl ⟨rfl, trivial⟩ rfl ?_
                    conv => whnf
                    repeat (first | (refine bcase_f rfl ?_; conv => whnf) | (refine bcase_t rfl ?_; conv => whnf) | (refine condK_draw (by kernel_rfl) ?_; conv => whnf) | (refine condK_of rfl ?_; conv => whnf) | (refine condK_of (by decide) ?_; conv => whnf) | (refine condK_of (by omega) ?_; conv => whnf) | (refine wrapK_in (w64 (by omega) (by omega)) ?_; conv => whnf))
                    refine hret_of rfl rfl rfl ⟨?_, trivial⟩
                    rw [show A ++ (srt le (L1 ++ R1) ++ (srt le (L2 ++ R2) ++ C)) = (A ++ srt le (L1 ++ R1)) ++ (srt le (L2 ++ R2) ++ C) by simp only [List.append_assoc]]
                    rfl
                  · have hR0 : R2 = [] := List.length_eq_zero_iff.1 (by omega)
                    repeat (first | (refine bcase_f rfl ?_; conv => whnf) | (refine bcase_t rfl ?_; conv => whnf) | (refine condK_draw (by kernel_rfl) ?_; conv => whnf) | (refine condK_of rfl ?_; conv => whnf) | (refine condK_of (by decide) ?_; conv => whnf) | (refine condK_of (by omega) ?_; conv => whnf) | (refine wrapK_in (w64 (by omega) (by omega)) ?_; conv => whnf))
                    refine hret_of rfl rfl rfl ⟨?_, trivial⟩
                    rw [show A ++ (srt le (L1 ++ R1) ++ (srt le (L2 ++ R2) ++ C)) = A ++ (srt le (L1 ++ R1) ++ (L2 ++ (R2 ++ C))) by rw [hone sl2 sr2 (.inr hR0)]; simp only [List.append_assoc]]
                    rfl
                · have hL0 : L2 = [] := List.length_eq_zero_iff.1 (by omega)
                  repeat (first | (refine bcase_f rfl ?_; conv => whnf) | (refine bcase_t rfl ?_; conv => whnf) | (refine condK_draw (by kernel_rfl) ?_; conv => whnf) | (refine condK_of rfl ?_; conv => whnf) | (refine condK_of (by decide) ?_; conv => whnf) | (refine condK_of (by omega) ?_; conv => whnf) | (refine wrapK_in (w64 (by omega) (by omega)) ?_; conv => whnf))
                  refine hret_of rfl rfl rfl ⟨?_, trivial⟩
                  rw [show A ++ (srt le (L1 ++ R1) ++ (srt le (L2 ++ R2) ++ C)) = A ++ (srt le (L1 ++ R1) ++ (L2 ++ (R2 ++ C))) by rw [hone sl2 sr2 (.inl hL0)]; simp only [List.append_assoc]]
                  rfl
            · have hL0 : L1 = [] := List.length_eq_zero_iff.1 (by omega)
              have er2 : A ++ (L1 ++ (R1 ++ (L2 ++ (R2 ++ C)))) = A ++ (srt le (L1 ++ R1) ++ (L2 ++ (R2 ++ C))) := by rw [hone sl1 sr1 (.inl hL0)]; simp only [List.append_assoc]
              rw [er2]
              repeat (first | (refine bcase_f rfl ?_; conv => whnf) | (refine bcase_t rfl ?_; conv => whnf) | (refine condK_draw (by kernel_rfl) ?_; conv => whnf) | (refine condK_of rfl ?_; conv => whnf) | (refine condK_of (by decide) ?_; conv => whnf) | (refine condK_of (by omega) ?_; conv => whnf) | (refine wrapK_in (w64 (by omega) (by omega)) ?_; conv => whnf))
              refine bcase_p (fun c5 => ?_) (fun c5 => ?_) <;> conv => whnf
              · repeat (first | (refine bcase_f rfl ?_; conv => whnf) | (refine bcase_t rfl ?_; conv => whnf) | (refine condK_draw (by kernel_rfl) ?_; conv => whnf) | (refine condK_of rfl ?_; conv => whnf) | (refine condK_of (by decide) ?_; conv => whnf) | (refine condK_of (by omega) ?_; conv => whnf) | (refine wrapK_in (w64 (by omega) (by omega)) ?_; conv => whnf))
                refine bcase_p (fun c6 => ?_) (fun c6 => ?_) <;> conv => whnf
                · repeat (first | (refine bcase_f rfl ?_; conv => whnf) | (refine bcase_t rfl ?_; conv => whnf) | (refine condK_draw (by kernel_rfl) ?_; conv => whnf) | (refine condK_of rfl ?_; conv => whnf) | (refine condK_of (by decide) ?_; conv => whnf) | (refine condK_of (by omega) ?_; conv => whnf) | (refine wrapK_in (w64 (by omega) (by omega)) ?_; conv => whnf))
                  refine callX_blk (IH (A ++ srt le (L1 ++ R1)) L2 R2 C (A ++ (srt le (L1 ++ R1) ++ (L2 ++ (R2 ++ C)))) (A.length + h) (A.length + (L1.length + L2.length) + (h - s)) (A.length + (L1.length + L2.length) + (R1.length + R2.length)) (by rw [List.length_append, srt_len, List.length_append]; omega) (by rw [List.length_append, srt_len, List.length_append]; omega) (by rw [List.length_append, srt_len, List.length_append]; omega) (by simp only [List.append_assoc]) (by omega) (by intro e; subst e; simp only [List.length_nil] at c5; omega) (by intro e; subst e; simp only [List.length_nil] at c6; omega) sl2 sr2 (by simp only [List.length_append, srt_len]; omega)) [(1000000, 1000000)] rfl ⟨rfl, trivial⟩ rfl ?_
                  conv => whnf
                  repeat (first | (refine bcase_f rfl ?_; conv => whnf) | (refine bcase_t rfl ?_; conv => whnf) | (refine condK_draw (by kernel_rfl) ?_; conv => whnf) | (refine condK_of rfl ?_; conv => whnf) | (refine condK_of (by decide) ?_; conv => whnf) | (refine condK_of (by omega) ?_; conv => whnf) | (refine wrapK_in (w64 (by omega) (by omega)) ?_; conv => whnf))
                  refine hret_of rfl rfl rfl ⟨?_, trivial⟩
                  rw [show A ++ (srt le (L1 ++ R1) ++ (srt le (L2 ++ R2) ++ C)) = (A ++ srt le (L1 ++ R1)) ++ (srt le (L2 ++ R2) ++ C) by simp only [List.append_assoc]]
                  rfl
                · have hR0 : R2 = [] := List.length_eq_zero_iff.1 (by omega)
                  repeat (first | (refine bcase_f rfl ?_; conv => whnf) | (refine bcase_t rfl ?_; conv => whnf) | (refine condK_draw (by kernel_rfl) ?_; conv => whnf) | (refine condK_of rfl ?_; conv => whnf) | (refine condK_of (by decide) ?_; conv => whnf) | (refine condK_of (by omega) ?_; conv => whnf) | (refine wrapK_in (w64 (by omega) (by omega)) ?_; conv => whnf))
                  refine hret_of rfl rfl rfl ⟨?_, trivial⟩
                  rw [show A ++ (srt le (L1 ++ R1) ++ (srt le (L2 ++ R2) ++ C)) = A ++ (srt le (L1 ++ R1) ++ (L2 ++ (R2 ++ C))) by rw [hone sl2 sr2 (.inr hR0)]; simp only [List.append_assoc]]
                  rfl
              · have hL0 : L2 = [] := List.length_eq_zero_iff.1 (by omega)
                repeat (first | (refine bcase_f rfl ?_; conv => whnf) | (refine bcase_t rfl ?_; conv => whnf) | (refine condK_draw (by kernel_rfl) ?_; conv => whnf) | (refine condK_of rfl ?_; conv => whnf) | (refine condK_of (by decide) ?_; conv => whnf) | (refine condK_of (by omega) ?_; conv => whnf) | (refine wrapK_in (w64 (by omega) (by omega)) ?_; conv => whnf))
                refine hret_of rfl rfl rfl ⟨?_, trivial⟩
                rw [show A ++ (srt le (L1 ++ R1) ++ (srt le (L2 ++ R2) ++ C)) = A ++ (srt le (L1 ++ R1) ++ (L2 ++ (R2 ++ C))) by rw [hone sl2 sr2 (.inl hL0)]; simp only [List.append_assoc]]
                rfl
end Go.Lk

set_option linter.unusedSimpArgs false
set_option linter.unusedVariables false
set_option linter.unnecessarySimpa false
namespace Go.Lk
open Go Go.Proofs Go.RowKit Go.Lk.St

section
variable {E : Type} {le : E → E → Bool}
def csL (le : E → E → Bool) (B : Nat) (l : List E) : List E := cs le B l.length l
theorem csL_small {B : Nat} {l : List E} (h : l.length ≤ B) : csL le B l = srt le l := cs_small h
theorem csL_step {B : Nat} {l : List E} (hB : 0 < B) (h : B ≤ l.length) : csL le B l = srt le (l.take B) ++ csL le B (l.drop B) := by
  by_cases e : l.length ≤ B
  · rw [csL_small e, List.take_of_length_le e, List.drop_eq_nil_of_le e, csL_small (Nat.zero_le _)]
    simp [srt]
  · unfold csL
    obtain ⟨n, hn⟩ : ∃ n, l.length = n + 1 := ⟨l.length - 1, by omega⟩
    rw [hn, cs, if_neg e]
    congr 1
    exact cs_big hB (by rw [List.length_drop]; omega) (Nat.le_refl _)
theorem csL_len {B : Nat} {l : List E} : (csL le B l).length = l.length := cs_len _ _
end
theorem srt_ne {E : Type} {le : E → E → Bool} {l : List E} (h : 0 < l.length) : srt le l ≠ [] := fun e => by
  have := srt_len (le := le) l
  rw [e, List.length_nil] at this
  omega
theorem insSort2 (cf : FuncId) (le : Ev → Ev → Bool) (hc : Cmp cf le) (A X C Y : List Ev) (a b : Nat) (ha : a = A.length) (hb : b = A.length + X.length) (hY : Y = A ++ (X ++ C)) (hm : A.length + X.length + C.length ≤ 1000000) :
    HCall Try.prog 41 [.own 1000000, .d (.int .i64 (a : Int)), .d (.int .i64 (b : Int)), .d (.fn cf [])] [(1000000, .row (Y.map encE) 11 false)] [(1000000, .row ((A ++ (srt le X ++ C)).map encE) 11 false)] (.tup []) := by
  subst ha hb hY
  exact insSort_ok cf le hc A X C hm
theorem symMerge2 (cf : FuncId) (le : Ev → Ev → Bool) (hc : Cmp cf le) (A L R C X : List Ev) (a m b : Nat) (ha : a = A.length) (hmm : m = A.length + L.length) (hb : b = A.length + L.length + R.length) (hX : X = A ++ (L ++ (R ++ C))) (hL : L ≠ []) (hR : R ≠ []) (sL : Sorted le L) (sR : Sorted le R) (hm : A.length + L.length + R.length + C.length ≤ 1000000) :
    HCall Try.prog 42 [.own 1000000, .d (.int .i64 (a : Int)), .d (.int .i64 (m : Int)), .d (.int .i64 (b : Int)), .d (.fn cf [])] [(1000000, .row (X.map encE) 11 false)] [(1000000, .row ((A ++ (srt le (L ++ R) ++ C)).map encE) 11 false)] (.tup []) := by
  subst ha hmm hb hX
  exact symMerge_ok cf le hc _ A L R C (Nat.le_refl _) hL hR sL sR hm

theorem stable_ok (cf : FuncId) (le : Ev → Ev → Bool) (hc : Cmp cf le) (l : List Ev) (hm : l.length ≤ 1000000) :
    HCall Try.prog 37 [.own 1000000, .d (.int .i64 l.length), .d (.fn cf [])] [(1000000, .row (l.map encE) 11 false)] [(1000000, .row ((srt le l).map encE) 11 false)] (.tup []) := by
  refine hcall_of Try.func37 3 rfl (by kernel_rfl) (by rfl) ?_
  conv => whnf
  refine aloop (ι := List Ev × List Ev) (fun s => [(0, .own 1000000), (1, .d (.int .i64 l.length)), (2, .d (.fn cf [])), (6, .d (.int .i64 20)), (7, .d (.int .i64 s.1.length)), (8, .d (.int .i64 ((s.1.length + 20 : Nat) : Int)))]) (fun s => [(1000000, .row ((s.1 ++ s.2).map encE) 11 false)])
    (fun s => s.1.length + s.2.length = l.length ∧ s.1 ++ csL le 20 s.2 = csL le 20 l) (fun s => s.2.length) ([], l) ⟨by simp, rfl⟩ (le0 (le_of_cov ⟨rfl, rfl, rfl, rfl, rfl, rfl, trivial⟩ ⟨rfl, trivial⟩ ⟨rfl, rfl, rfl, rfl⟩)) ?_
  rintro ⟨P, r⟩ ⟨hlen, heq⟩
  simp only at hlen heq ⊢
  conv => whnf
  refine bcase_p (fun h => ?_) (fun h => ?_) <;> conv => whnf
  · obtain ⟨X, r', rfl, hX⟩ := split_at (X := r) (n := 20) (by omega)
    rw [List.length_append] at hlen
    have hst : csL le 20 (X ++ r') = srt le X ++ csL le 20 r' := by
      rw [csL_step (by decide) (by rw [List.length_append]; omega), ← hX, List.take_left, List.drop_left]
    have ea : ((P.length + 20 : Nat) : Int) + 20 = (((P ++ srt le X).length + 20 : Nat) : Int) := by rw [List.length_append, srt_len]; omega
    repeat (first | (refine bcase_f rfl ?_; conv => whnf) | (refine bcase_t rfl ?_; conv => whnf) | (refine condK_draw (by kernel_rfl) ?_; conv => whnf) | (refine condK_of rfl ?_; conv => whnf) | (refine condK_of (by decide) ?_; conv => whnf) | (refine condK_of (by omega) ?_; conv => whnf) | (refine wrapK_in (w64 (by omega) (by omega)) ?_; conv => whnf))
    refine callX_blk (insSort2 cf le hc P X r' (P ++ (X ++ r')) P.length (P.length + 20) rfl (by omega) rfl (by omega)) [(1000000, 1000000)] rfl ⟨rfl, trivial⟩ rfl ?_
    conv => whnf
    have er : P ++ (srt le X ++ r') = (P ++ srt le X) ++ r' := by simp only [List.append_assoc]
    rw [er]
    repeat (first | (refine bcase_f rfl ?_; conv => whnf) | (refine bcase_t rfl ?_; conv => whnf) | (refine condK_draw (by kernel_rfl) ?_; conv => whnf) | (refine condK_of rfl ?_; conv => whnf) | (refine condK_of (by decide) ?_; conv => whnf) | (refine condK_of (by omega) ?_; conv => whnf) | (refine wrapK_in (w64 (by omega) (by omega)) ?_; conv => whnf))
    rw [ea]
    exact ⟨(P ++ srt le X, r'), ⟨by simp only [List.length_append, srt_len]; omega, by simp only []; rw [← heq, hst]; simp only [List.append_assoc]⟩, by simp only [List.length_append]; omega, le0 (le_of_cov ⟨rfl, rfl, rfl, rfl, by show AV.d (.int .i64 ((P.length + 20 : Nat) : Int)) = AV.d (.int .i64 (P ++ srt le X).length); rw [List.length_append, srt_len, hX], rfl, trivial⟩ ⟨rfl, trivial⟩ ⟨rfl, rfl, rfl, rfl⟩)⟩
  repeat (first | (refine bcase_f rfl ?_; conv => whnf) | (refine bcase_t rfl ?_; conv => whnf) | (refine condK_draw (by kernel_rfl) ?_; conv => whnf) | (refine condK_of rfl ?_; conv => whnf) | (refine condK_of (by decide) ?_; conv => whnf) | (refine condK_of (by omega) ?_; conv => whnf) | (refine wrapK_in (w64 (by omega) (by omega)) ?_; conv => whnf))
  refine callX_blk (insSort2 cf le hc P r [] (P ++ r) P.length l.length rfl (by omega) (by rw [List.append_nil]) (by simp; omega)) [(1000000, 1000000)] rfl ⟨rfl, trivial⟩ rfl ?_
  conv => whnf
  have er : P ++ (srt le r ++ []) = csL le 20 l := by rw [← heq, csL_small (by omega), List.append_nil]
  rw [er]
  clear er heq hlen h
  repeat (first | (refine bcase_f rfl ?_; conv => whnf) | (refine bcase_t rfl ?_; conv => whnf) | (refine condK_draw (by kernel_rfl) ?_; conv => whnf) | (refine condK_of rfl ?_; conv => whnf) | (refine condK_of (by decide) ?_; conv => whnf) | (refine condK_of (by omega) ?_; conv => whnf) | (refine wrapK_in (w64 (by omega) (by omega)) ?_; conv => whnf))
  refine aloop (ι := Nat) (fun B => [(0, .own 1000000), (1, .d (.int .i64 l.length)), (2, .d (.fn cf [])), (6, .d (.int .i64 (B : Int)))]) (fun B => [(1000000, .row ((csL le B l).map encE) 11 false)])
    (fun B => 20 ≤ B ∧ B ≤ 4000000) (fun B => l.length - B) 20 ⟨Nat.le_refl _, by decide⟩ (le0 (le_of_cov ⟨rfl, rfl, rfl, rfl, trivial⟩ ⟨rfl, trivial⟩ ⟨rfl, rfl, rfl, rfl⟩)) ?_
  rintro B ⟨hB0, hB1⟩
  conv => whnf
  refine bcase_p (fun hBn => ?_) (fun hBn => ?_) <;> conv => whnf
  · have e2 : (2 : Int) * (B : Int) = ((([] : List Ev).length + 2 * B : Nat) : Int) := by simp
    repeat (first | (refine bcase_f rfl ?_; conv => whnf) | (refine bcase_t rfl ?_; conv => whnf) | (refine condK_draw (by kernel_rfl) ?_; conv => whnf) | (refine condK_of rfl ?_; conv => whnf) | (refine condK_of (by decide) ?_; conv => whnf) | (refine condK_of (by omega) ?_; conv => whnf) | (refine wrapK_in (w64 (by omega) (by omega)) ?_; conv => whnf))
    rw [e2]
    refine aloop (ι := List Ev × List Ev) (fun s => [(0, .own 1000000), (1, .d (.int .i64 l.length)), (2, .d (.fn cf [])), (6, .d (.int .i64 (B : Int))), (7, .d (.int .i64 s.1.length)), (8, .d (.int .i64 ((s.1.length + 2 * B : Nat) : Int)))]) (fun s => [(1000000, .row ((s.1 ++ csL le B s.2).map encE) 11 false)])
      (fun s => s.1.length + s.2.length = l.length ∧ s.1 ++ csL le (2 * B) s.2 = csL le (2 * B) l) (fun s => s.2.length) ([], l) ⟨by simp, rfl⟩ (le0 (le_of_cov ⟨rfl, rfl, rfl, rfl, rfl, rfl, trivial⟩ ⟨rfl, trivial⟩ ⟨rfl, rfl, rfl, rfl⟩)) ?_
    rintro ⟨P, r⟩ ⟨hlen, heq⟩
    simp only at hlen heq ⊢
    conv => whnf
    refine bcase_p (fun h => ?_) (fun h => ?_) <;> conv => whnf
    · obtain ⟨X, r1, rfl, hX⟩ := split_at (X := r) (n := B) (by omega)
      rw [List.length_append] at hlen
      obtain ⟨Y, r', rfl, hY⟩ := split_at (X := r1) (n := B) (by omega)
      rw [List.length_append] at hlen
      have hst : csL le B (X ++ (Y ++ r')) = srt le X ++ (srt le Y ++ csL le B r') := by
        rw [csL_step (by omega) (by rw [List.length_append]; omega), show (X ++ (Y ++ r')).take B = X by rw [← hX, List.take_left], show (X ++ (Y ++ r')).drop B = Y ++ r' by rw [← hX, List.drop_left], csL_step (by omega) (by rw [List.length_append]; omega), show (Y ++ r').take B = Y by rw [← hY, List.take_left], show (Y ++ r').drop B = r' by rw [← hY, List.drop_left]]
      have hst2 : csL le (2 * B) (X ++ (Y ++ r')) = srt le (X ++ Y) ++ csL le (2 * B) r' := by
        have hXY : (X ++ Y).length = 2 * B := by rw [List.length_append]; omega
        rw [← List.append_assoc, csL_step (by omega) (by rw [List.length_append]; omega), ← hXY, List.take_left, List.drop_left]
      have hsl : (srt le (X ++ Y)).length = 2 * B := by rw [srt_len, List.length_append]; omega
      have e3 : (P.length : Int) + (B : Int) = ((P.length + B : Nat) : Int) := by omega
      have e4 : ((P.length + 2 * B : Nat) : Int) + 2 * (B : Int) = (((P ++ srt le (X ++ Y)).length + 2 * B : Nat) : Int) := by rw [List.length_append, hsl]; omega
      have hXne : srt le X ≠ [] := srt_ne (by omega)
      have hYne : srt le Y ≠ [] := srt_ne (by omega)
      repeat (first | (refine bcase_f rfl ?_; conv => whnf) | (refine bcase_t rfl ?_; conv => whnf) | (refine condK_draw (by kernel_rfl) ?_; conv => whnf) | (refine condK_of rfl ?_; conv => whnf) | (refine condK_of (by decide) ?_; conv => whnf) | (refine condK_of (by omega) ?_; conv => whnf) | (refine wrapK_in (w64 (by omega) (by omega)) ?_; conv => whnf))
      rw [e3]
      refine callX_blk (symMerge2 cf le hc P (srt le X) (srt le Y) (csL le B r') (P ++ csL le B (X ++ (Y ++ r'))) P.length (P.length + B) (P.length + 2 * B) rfl (by rw [srt_len]; omega) (by rw [srt_len, srt_len]; omega) (by rw [hst]) hXne hYne (srt_sorted hc.tp _) (srt_sorted hc.tp _) (by rw [srt_len, srt_len, csL_len]; omega)) [(1000000, 1000000)] rfl ⟨rfl, trivial⟩ rfl ?_
      conv => whnf
      have er : P ++ (srt le (srt le X ++ srt le Y) ++ csL le B r') = (P ++ srt le (X ++ Y)) ++ csL le B r' := by rw [srt_app hc.tp]; simp only [List.append_assoc]
      rw [er]
      repeat (first | (refine bcase_f rfl ?_; conv => whnf) | (refine bcase_t rfl ?_; conv => whnf) | (refine condK_draw (by kernel_rfl) ?_; conv => whnf) | (refine condK_of rfl ?_; conv => whnf) | (refine condK_of (by decide) ?_; conv => whnf) | (refine condK_of (by omega) ?_; conv => whnf) | (refine wrapK_in (w64 (by omega) (by omega)) ?_; conv => whnf))
      rw [e4]
      exact ⟨(P ++ srt le (X ++ Y), r'), ⟨by simp only [List.length_append, hsl]; omega, by simp only []; rw [← heq, hst2]; simp only [List.append_assoc]⟩, by simp only [List.length_append]; omega, le0 (le_of_cov ⟨rfl, rfl, rfl, rfl, by show AV.d (.int .i64 ((P.length + 2 * B : Nat) : Int)) = AV.d (.int .i64 (P ++ srt le (X ++ Y)).length); rw [List.length_append, hsl], rfl, trivial⟩ ⟨rfl, trivial⟩ ⟨rfl, rfl, rfl, rfl⟩)⟩
    have hrB : r.length < 2 * B := by omega
    have e3 : (P.length : Int) + (B : Int) = ((P.length + B : Nat) : Int) := by omega
    have e5 : (B : Int) * 2 = ((2 * B : Nat) : Int) := by omega
    have hend : P ++ srt le r = csL le (2 * B) l := by rw [← heq, csL_small (by omega)]
    repeat (first | (refine bcase_f rfl ?_; conv => whnf) | (refine bcase_t rfl ?_; conv => whnf) | (refine condK_draw (by kernel_rfl) ?_; conv => whnf) | (refine condK_of rfl ?_; conv => whnf) | (refine condK_of (by decide) ?_; conv => whnf) | (refine condK_of (by omega) ?_; conv => whnf) | (refine wrapK_in (w64 (by omega) (by omega)) ?_; conv => whnf))
    rw [e3]
    refine bcase_p (fun h2 => ?_) (fun h2 => ?_) <;> conv => whnf
    · obtain ⟨X, Y, rfl, hX⟩ := split_at (X := r) (n := B) (by omega)
      rw [List.length_append] at hlen hrB
      have hst : csL le B (X ++ Y) = srt le X ++ srt le Y := by
        rw [csL_step (by omega) (by rw [List.length_append]; omega), show (X ++ Y).take B = X by rw [← hX, List.take_left], show (X ++ Y).drop B = Y by rw [← hX, List.drop_left], csL_small (l := Y) (by omega)]
      have hXne : srt le X ≠ [] := srt_ne (by omega)
      have hYne : srt le Y ≠ [] := srt_ne (by omega)
      repeat (first | (refine bcase_f rfl ?_; conv => whnf) | (refine bcase_t rfl ?_; conv => whnf) | (refine condK_draw (by kernel_rfl) ?_; conv => whnf) | (refine condK_of rfl ?_; conv => whnf) | (refine condK_of (by decide) ?_; conv => whnf) | (refine condK_of (by omega) ?_; conv => whnf) | (refine wrapK_in (w64 (by omega) (by omega)) ?_; conv => whnf))
      refine callX_blk (symMerge2 cf le hc P (srt le X) (srt le Y) [] (P ++ csL le B (X ++ Y)) P.length (P.length + B) l.length rfl (by rw [srt_len]; omega) (by rw [srt_len, srt_len]; omega) (by rw [hst, List.append_nil]) hXne hYne (srt_sorted hc.tp _) (srt_sorted hc.tp _) (by rw [srt_len, srt_len]; simp; omega)) [(1000000, 1000000)] rfl ⟨rfl, trivial⟩ rfl ?_
      conv => whnf
      have er : P ++ (srt le (srt le X ++ srt le Y) ++ []) = csL le (2 * B) l := by rw [srt_app hc.tp, List.append_nil, hend]
      rw [er]
      repeat (first | (refine bcase_f rfl ?_; conv => whnf) | (refine bcase_t rfl ?_; conv => whnf) | (refine condK_draw (by kernel_rfl) ?_; conv => whnf) | (refine condK_of rfl ?_; conv => whnf) | (refine condK_of (by decide) ?_; conv => whnf) | (refine condK_of (by omega) ?_; conv => whnf) | (refine wrapK_in (w64 (by omega) (by omega)) ?_; conv => whnf))
      rw [e5]
      exact ⟨2 * B, ⟨by omega, by omega⟩, by omega, (le0 (le_of_cov ⟨rfl, rfl, rfl, rfl, trivial⟩ ⟨rfl, trivial⟩ ⟨rfl, rfl, rfl, rfl⟩))⟩
    · have er : P ++ csL le B r = csL le (2 * B) l := by rw [csL_small (by omega), hend]
      rw [er]
      repeat (first | (refine bcase_f rfl ?_; conv => whnf) | (refine bcase_t rfl ?_; conv => whnf) | (refine condK_draw (by kernel_rfl) ?_; conv => whnf) | (refine condK_of rfl ?_; conv => whnf) | (refine condK_of (by decide) ?_; conv => whnf) | (refine condK_of (by omega) ?_; conv => whnf) | (refine wrapK_in (w64 (by omega) (by omega)) ?_; conv => whnf))
      rw [e5]
      exact ⟨2 * B, ⟨by omega, by omega⟩, by omega, (le0 (le_of_cov ⟨rfl, rfl, rfl, rfl, trivial⟩ ⟨rfl, trivial⟩ ⟨rfl, rfl, rfl, rfl⟩))⟩
  · rw [csL_small (show l.length ≤ B by omega)]
    repeat (first | (refine bcase_f rfl ?_; conv => whnf) | (refine bcase_t rfl ?_; conv => whnf) | (refine condK_draw (by kernel_rfl) ?_; conv => whnf) | (refine condK_of rfl ?_; conv => whnf) | (refine condK_of (by decide) ?_; conv => whnf) | (refine condK_of (by omega) ?_; conv => whnf) | (refine wrapK_in (w64 (by omega) (by omega)) ?_; conv => whnf))
    exact hret_of rfl rfl rfl ⟨rfl, trivial⟩

theorem sortStable_ok (cf : FuncId) (le : Ev → Ev → Bool) (hc : Cmp cf le) (l : List Ev) (hm : l.length ≤ 1000000) :
    HCall Try.prog 26 [.own 1000000, .d (.fn cf [])] [(1000000, .row (l.map encE) 11 false)] [(1000000, .row ((srt le l).map encE) 11 false)] (.tup []) := by
  refine hcall_of Try.func26 2 rfl (by kernel_rfl) (by rfl) ?_
  conv => whnf
  have hml : (l.map encE).length = l.length := List.length_map ..
  repeat (first | (refine bcase_f rfl ?_; conv => whnf) | (refine bcase_t rfl ?_; conv => whnf) | (refine condK_draw (by kernel_rfl) ?_; conv => whnf) | (refine condK_of rfl ?_; conv => whnf) | (refine condK_of (by decide) ?_; conv => whnf) | (refine condK_of (by omega) ?_; conv => whnf) | (refine wrapK_in (w64 (by omega) (by omega)) ?_; conv => whnf))
  rw [hml]
  refine callX_blk (stable_ok cf le hc l hm) [(1000000, 1000000)] rfl ⟨rfl, trivial⟩ rfl ?_
  conv => whnf
  repeat (first | (refine bcase_f rfl ?_; conv => whnf) | (refine bcase_t rfl ?_; conv => whnf) | (refine condK_draw (by kernel_rfl) ?_; conv => whnf) | (refine condK_of rfl ?_; conv => whnf) | (refine condK_of (by decide) ?_; conv => whnf) | (refine condK_of (by omega) ?_; conv => whnf) | (refine wrapK_in (w64 (by omega) (by omega)) ?_; conv => whnf))
  exact hret_of rfl rfl rfl ⟨rfl, trivial⟩
end Go.Lk

