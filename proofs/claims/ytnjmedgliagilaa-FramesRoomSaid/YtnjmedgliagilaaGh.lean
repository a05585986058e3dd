/-
  What is proved here: the laws of layer 15, function by function; no condition beyond each theorem's own.
-/
import Derived.Test.YtnjmedgliagilaaGg
set_option linter.unusedSectionVars false
set_option linter.unusedSimpArgs false
set_option linter.unusedVariables false
set_option linter.unnecessarySimpa false
namespace Go.Lk
open Go Go.Proofs Go.RowKit

theorem FM.small {f : FX} (h : FM f) : SmallF f := by
  have h8 := h.ck.most
  have h16 := (Dt.rightB_out h.dt).1
  refine ⟨by omega, by rw [h.tb.len]; decide, by rw [h.len]; omega, by omega, fun i hi => ?_⟩
  rcases h.place i (by rw [← h.len]; exact hi) (by rw [← h.len]; exact hi) hi with q | q
  · rw [q.2.2]; simp [noPg]
  · have := pgR_out.1 q.2.2.1; omega
/-- no pins, or none free: what the law counts -/
structure RoomI (f : FX) (k : Nat) (b c : Bool) : Prop where
  le : k ≤ f.fr.length
  free : b = true ↔ ∃ i, i < k ∧ ∃ h : i < f.fr.length, f.fr[i].1 = 0
  pin : c = true ↔ ∀ i, i < k → ∀ h : i < f.fr.length, f.fr[i].2.1 ≠ 0
theorem RoomI.next {f : FX} {k : Nat} {b c b' c' : Bool} (h : RoomI f k b c) (hk : k < f.fr.length) (hb : b' = true ↔ b = true ∨ f.fr[k].1 = 0) (hc : c' = true ↔ c = true ∧ f.fr[k].2.1 ≠ 0) : RoomI f (k + 1) b' c' := by
  refine ⟨hk, ?_, ?_⟩
  · rw [hb, h.free]
    constructor
    · rintro (⟨i, q, q2⟩ | e)
      · exact ⟨i, by omega, q2⟩
      · exact ⟨k, by omega, hk, e⟩
    · rintro ⟨i, q, q2, e⟩
      by_cases e2 : i = k
      · subst e2; exact .inr e
      · exact .inl ⟨i, by omega, q2, e⟩
  · rw [hc, h.pin]
    constructor
    · rintro ⟨q, e⟩ i hi hi2
      by_cases e2 : i = k
      · subst e2; exact e
      · exact q i (by omega) hi2
    · intro q
      exact ⟨fun i hi hi2 => q i (by omega) hi2, q k (by omega) hk⟩

theorem framesRoom_ok (f : FX) : ACall Try.prog 3 [encFS f] (.bool true) := by
  refine acall_of Try.func3 1 rfl (by kernel_rfl) ?_
  conv => whnf
  have hmf : (f.fr.map encF).length = f.fr.length := List.length_map ..
  have hmp : (f.pg.map encP).length = f.pg.length := List.length_map ..
  have href := ref_ok f
  repeat (first | (refine bcase_f rfl ?_; conv => whnf) | (refine bcase_t rfl ?_; conv => whnf) | (refine condK_of rfl ?_; conv => whnf) | (refine condK_of (by decide) ?_; conv => whnf) | (refine condK_of (by omega) ?_; conv => whnf) | (refine wrapK_in (w64 (by omega) (by omega)) ?_; conv => whnf))
  by_cases hs : SmallF f
  rotate_left
  · rw [refF_f hs] at href
    refine callX_pure (d := .tup [encFS (cutF f), .bool false]) href ?_
    conv => whnf
    repeat (first | (refine bcase_f rfl ?_; conv => whnf) | (refine bcase_t rfl ?_; conv => whnf) | (refine condK_of rfl ?_; conv => whnf) | (refine condK_of (by decide) ?_; conv => whnf) | (refine condK_of (by omega) ?_; conv => whnf) | (refine wrapK_in (w64 (by omega) (by omega)) ?_; conv => whnf))
    refine callX_pure awake_ok ?_
    conv => whnf
    repeat (first | (refine bcase_f rfl ?_; conv => whnf) | (refine bcase_t rfl ?_; conv => whnf) | (refine condK_of rfl ?_; conv => whnf) | (refine condK_of (by decide) ?_; conv => whnf) | (refine condK_of (by omega) ?_; conv => whnf) | (refine wrapK_in (w64 (by omega) (by omega)) ?_; conv => whnf))
    exact ret_of rfl rfl
  rw [refF_t hs] at href
  refine callX_pure (d := .tup [encFS f, .bool true]) href ?_
  conv => whnf
  repeat (first | (refine bcase_f rfl ?_; conv => whnf) | (refine bcase_t rfl ?_; conv => whnf) | (refine condK_of rfl ?_; conv => whnf) | (refine condK_of (by decide) ?_; conv => whnf) | (refine condK_of (by omega) ?_; conv => whnf) | (refine wrapK_in (w64 (by omega) (by omega)) ?_; conv => whnf))
  have hs1 := hs.tb
  have hs2 := hs.dt
  have hr := rfright_ok f (by omega) (by omega)
  cases hR : frightB f with
  | false =>
    rw [hR] at hr
    refine callX_pure hr ?_
    conv => whnf
    repeat (first | (refine bcase_f rfl ?_; conv => whnf) | (refine bcase_t rfl ?_; conv => whnf) | (refine condK_of rfl ?_; conv => whnf) | (refine condK_of (by decide) ?_; conv => whnf) | (refine condK_of (by omega) ?_; conv => whnf) | (refine wrapK_in (w64 (by omega) (by omega)) ?_; conv => whnf))
    refine callX_pure awake_ok ?_
    conv => whnf
    repeat (first | (refine bcase_f rfl ?_; conv => whnf) | (refine bcase_t rfl ?_; conv => whnf) | (refine condK_of rfl ?_; conv => whnf) | (refine condK_of (by decide) ?_; conv => whnf) | (refine condK_of (by omega) ?_; conv => whnf) | (refine wrapK_in (w64 (by omega) (by omega)) ?_; conv => whnf))
    exact ret_of rfl rfl
  | true =>
  rw [hR] at hr
  refine callX_pure hr ?_
  conv => whnf
  repeat (first | (refine bcase_f rfl ?_; conv => whnf) | (refine bcase_t rfl ?_; conv => whnf) | (refine condK_of rfl ?_; conv => whnf) | (refine condK_of (by decide) ?_; conv => whnf) | (refine condK_of (by omega) ?_; conv => whnf) | (refine wrapK_in (w64 (by omega) (by omega)) ?_; conv => whnf))
  have hM := fm_iff.1 (frightB_t.1 hR)
  have h8 := hM.ck.most
  have hlen := hM.len
  refine aloop (ι := Nat × Bool × Bool) (fun s => [(1, .ptr 1 0 0), (3, .ptr 3 0 0), (5, .d (.bool s.2.1)), (6, .d (.bool s.2.2)), (30, .d (.lst (f.pg.map encP))), (31, .d (.int .i64 (f.pg.map encP).length)), (32, .d (.int .i64 s.1))]) (fun s => [(1, .box f.box false), (3, .box f.box false)])
    (fun s => RoomI f s.1 s.2.1 s.2.2) (fun s => f.pg.length - s.1) (0, false, true) ⟨Nat.zero_le _, ⟨(fun h => by cases h), fun ⟨i, h, _⟩ => absurd h (Nat.not_lt_zero _)⟩, ⟨fun _ i h => absurd h (Nat.not_lt_zero _), fun _ => rfl⟩⟩
    (len [.wk 5 (.d (.bool false)), .wk 6 (.d (.bool true))] ⟨wk_ff, wk_tt, trivial⟩ (le_of_cov ⟨rfl, rfl, rfl, rfl, rfl, rfl, rfl, trivial⟩ ⟨rfl, rfl, trivial⟩ ⟨rfl, rfl, rfl, rfl⟩)) ?_
  rintro ⟨k, b, c⟩ hI
  have hk := hI.le
  simp only at hI ⊢
  conv => whnf
  refine bcase_p (fun h => ?_) (fun h => ?_) <;> conv => whnf
  · have hk2 : k < f.fr.length := by omega
    have hk3 : k < f.pg.length := by omega
    have hfp := hM.fr_pg hk2 hk3
    have hpn := frOk_out.1 (hM.ck.all k hk2)
    refine idxK_nat (by omega) ?_
    conv => whnf
    refine getRow_of (x := encP f.pg[k]) (by simp [hk3]) ?_
    conv => whnf
    repeat (first | (refine bcase_f rfl ?_; conv => whnf) | (refine bcase_t rfl ?_; conv => whnf) | (refine condK_of rfl ?_; conv => whnf) | (refine condK_of (by decide) ?_; conv => whnf) | (refine condK_of (by omega) ?_; conv => whnf) | (refine wrapK_in (w64 (by omega) (by omega)) ?_; conv => whnf))
    cases b with
    | true =>
      repeat (first | (refine bcase_f rfl ?_; conv => whnf) | (refine bcase_t rfl ?_; conv => whnf) | (refine condK_of rfl ?_; conv => whnf) | (refine condK_of (by decide) ?_; conv => whnf) | (refine condK_of (by omega) ?_; conv => whnf) | (refine wrapK_in (w64 (by omega) (by omega)) ?_; conv => whnf))
      cases c with
      | true =>
        repeat (first | (refine bcase_f rfl ?_; conv => whnf) | (refine bcase_t rfl ?_; conv => whnf) | (refine condK_of rfl ?_; conv => whnf) | (refine condK_of (by decide) ?_; conv => whnf) | (refine condK_of (by omega) ?_; conv => whnf) | (refine wrapK_in (w64 (by omega) (by omega)) ?_; conv => whnf))
        refine idxK_nat (by omega) ?_
        conv => whnf
        refine getRow_of (x := encF f.fr[k]) (by simp [hk2]) ?_
        conv => whnf
        repeat (first | (refine bcase_f rfl ?_; conv => whnf) | (refine bcase_t rfl ?_; conv => whnf) | (refine condK_of rfl ?_; conv => whnf) | (refine condK_of (by decide) ?_; conv => whnf) | (refine condK_of (by omega) ?_; conv => whnf) | (refine wrapK_in (w64 (by omega) (by omega)) ?_; conv => whnf))
        exact ⟨(k + 1, true, decide (0 < f.fr[k].2.1)), hI.next hk2 (by simp) (by simp; omega), by simp only []; omega, (len [.wk 5 (.d (.bool true))] ⟨wk_tt, trivial⟩ (le_of_cov ⟨rfl, rfl, rfl, rfl, rfl, rfl, rfl, trivial⟩ ⟨rfl, rfl, trivial⟩ ⟨rfl, rfl, rfl, rfl⟩))⟩
      | false =>
        repeat (first | (refine bcase_f rfl ?_; conv => whnf) | (refine bcase_t rfl ?_; conv => whnf) | (refine condK_of rfl ?_; conv => whnf) | (refine condK_of (by decide) ?_; conv => whnf) | (refine condK_of (by omega) ?_; conv => whnf) | (refine wrapK_in (w64 (by omega) (by omega)) ?_; conv => whnf))
        exact ⟨(k + 1, true, false), hI.next hk2 (by simp) (by simp), by simp only []; omega, (len [.wk 5 (.d (.bool true)), .wk 6 (.d (.bool false))] ⟨wk_tt, wk_ff, trivial⟩ (le_of_cov ⟨rfl, rfl, rfl, rfl, rfl, rfl, rfl, trivial⟩ ⟨rfl, rfl, trivial⟩ ⟨rfl, rfl, rfl, rfl⟩))⟩
    | false =>
      repeat (first | (refine bcase_f rfl ?_; conv => whnf) | (refine bcase_t rfl ?_; conv => whnf) | (refine condK_of rfl ?_; conv => whnf) | (refine condK_of (by decide) ?_; conv => whnf) | (refine condK_of (by omega) ?_; conv => whnf) | (refine wrapK_in (w64 (by omega) (by omega)) ?_; conv => whnf))
      cases c with
      | true =>
        repeat (first | (refine bcase_f rfl ?_; conv => whnf) | (refine bcase_t rfl ?_; conv => whnf) | (refine condK_of rfl ?_; conv => whnf) | (refine condK_of (by decide) ?_; conv => whnf) | (refine condK_of (by omega) ?_; conv => whnf) | (refine wrapK_in (w64 (by omega) (by omega)) ?_; conv => whnf))
        refine idxK_nat (by omega) ?_
        conv => whnf
        refine getRow_of (x := encF f.fr[k]) (by simp [hk2]) ?_
        conv => whnf
        repeat (first | (refine bcase_f rfl ?_; conv => whnf) | (refine bcase_t rfl ?_; conv => whnf) | (refine condK_of rfl ?_; conv => whnf) | (refine condK_of (by decide) ?_; conv => whnf) | (refine condK_of (by omega) ?_; conv => whnf) | (refine wrapK_in (w64 (by omega) (by omega)) ?_; conv => whnf))
        exact ⟨(k + 1, decide (f.pg[k].1 = 0), decide (0 < f.fr[k].2.1)), hI.next hk2 (by simp [hfp]) (by simp; omega), by simp only []; omega, (le0 (le_of_cov ⟨rfl, rfl, rfl, rfl, rfl, rfl, rfl, trivial⟩ ⟨rfl, rfl, trivial⟩ ⟨rfl, rfl, rfl, rfl⟩))⟩
      | false =>
        repeat (first | (refine bcase_f rfl ?_; conv => whnf) | (refine bcase_t rfl ?_; conv => whnf) | (refine condK_of rfl ?_; conv => whnf) | (refine condK_of (by decide) ?_; conv => whnf) | (refine condK_of (by omega) ?_; conv => whnf) | (refine wrapK_in (w64 (by omega) (by omega)) ?_; conv => whnf))
        exact ⟨(k + 1, decide (f.pg[k].1 = 0), false), hI.next hk2 (by simp [hfp]) (by simp), by simp only []; omega, (len [.wk 6 (.d (.bool false))] ⟨wk_ff, trivial⟩ (le_of_cov ⟨rfl, rfl, rfl, rfl, rfl, rfl, rfl, trivial⟩ ⟨rfl, rfl, trivial⟩ ⟨rfl, rfl, rfl, rfl⟩))⟩
  have hkl : k = f.fr.length := by omega
  subst hkl
  repeat (first | (refine bcase_f rfl ?_; conv => whnf) | (refine bcase_t rfl ?_; conv => whnf) | (refine condK_of rfl ?_; conv => whnf) | (refine condK_of (by decide) ?_; conv => whnf) | (refine condK_of (by omega) ?_; conv => whnf) | (refine wrapK_in (w64 (by omega) (by omega)) ?_; conv => whnf))
  have hroom := room_ok f hM.tl hM.dl
  rcases room_cases hM with ⟨i, hi, hz, e⟩ | ⟨hz, hp, e⟩ | ⟨hz, l, a, p, hA, hsw, hA2, h0, e⟩
  · rw [e] at hroom
    refine callX_pure (d := .tup [encFS f, .agg (encP noPg), .bool false, .int .i64 0]) hroom ?_
    conv => whnf
    repeat (first | (refine bcase_f rfl ?_; conv => whnf) | (refine bcase_t rfl ?_; conv => whnf) | (refine condK_of rfl ?_; conv => whnf) | (refine condK_of (by decide) ?_; conv => whnf) | (refine condK_of (by omega) ?_; conv => whnf) | (refine wrapK_in (w64 (by omega) (by omega)) ?_; conv => whnf))
    have hb : b = true := hI.free.2 ⟨i, hi, hi, hz⟩
    subst hb
    repeat (first | (refine bcase_f rfl ?_; conv => whnf) | (refine bcase_t rfl ?_; conv => whnf) | (refine condK_of rfl ?_; conv => whnf) | (refine condK_of (by decide) ?_; conv => whnf) | (refine condK_of (by omega) ?_; conv => whnf) | (refine wrapK_in (w64 (by omega) (by omega)) ?_; conv => whnf))
    refine callX_pure awake_ok ?_
    conv => whnf
    repeat (first | (refine bcase_f rfl ?_; conv => whnf) | (refine bcase_t rfl ?_; conv => whnf) | (refine condK_of rfl ?_; conv => whnf) | (refine condK_of (by decide) ?_; conv => whnf) | (refine condK_of (by omega) ?_; conv => whnf) | (refine wrapK_in (w64 (by omega) (by omega)) ?_; conv => whnf))
    exact ret_of rfl rfl
  · rw [e] at hroom
    refine callX_pure (d := .tup [encFS f, .agg (encP noPg), .bool false, .int .i64 6]) hroom ?_
    conv => whnf
    repeat (first | (refine bcase_f rfl ?_; conv => whnf) | (refine bcase_t rfl ?_; conv => whnf) | (refine condK_of rfl ?_; conv => whnf) | (refine condK_of (by decide) ?_; conv => whnf) | (refine condK_of (by omega) ?_; conv => whnf) | (refine wrapK_in (w64 (by omega) (by omega)) ?_; conv => whnf))
    have hb : b = false := by
      cases b with
      | false => rfl
      | true => obtain ⟨i, _, hi, hi2⟩ := hI.free.1 rfl; exact absurd hi2 (hz i hi)
    subst hb
    have hc : c = true := hI.pin.2 fun i _ hi => hp i hi
    subst hc
    repeat (first | (refine bcase_f rfl ?_; conv => whnf) | (refine bcase_t rfl ?_; conv => whnf) | (refine condK_of rfl ?_; conv => whnf) | (refine condK_of (by decide) ?_; conv => whnf) | (refine condK_of (by omega) ?_; conv => whnf) | (refine wrapK_in (w64 (by omega) (by omega)) ?_; conv => whnf))
    refine callX_pure awake_ok ?_
    conv => whnf
    repeat (first | (refine bcase_f rfl ?_; conv => whnf) | (refine bcase_t rfl ?_; conv => whnf) | (refine condK_of rfl ?_; conv => whnf) | (refine condK_of (by decide) ?_; conv => whnf) | (refine condK_of (by omega) ?_; conv => whnf) | (refine wrapK_in (w64 (by omega) (by omega)) ?_; conv => whnf))
    exact ret_of rfl rfl
  have hb : b = false := by
    cases b with
    | false => rfl
    | true => obtain ⟨i, _, hi, hi2⟩ := hI.free.1 rfl; exact absurd hi2 (hz i hi)
  subst hb
  have hc : c = false := by
    cases c with
    | false => rfl
    | true => exact absurd h0 (hI.pin.1 rfl a hA.hi hA.hi)
  subst hc
  have hai := hA.hi
  have hap := hA.hp
  have hfind := rfind15_ok f p (by omega)
  rw [rfindS_at hA] at hfind
  have hpg := hA.pg
  have hdone : ∃ (g : FX) (d : Bool), roomS f = (g, f.pg[a], d, 0) ∧ FM g ∧ ∃ n, findF g p = (n, d) := by
    by_cases g : (Dt.sinceG f.dt p).2 = true
    · rw [if_pos g] at e
      exact ⟨_, _, e, hA2.right, _, findF_at hA2⟩
    · rw [if_neg g] at e
      refine ⟨_, _, e, FM.rel hA2, _, findF_no (FM.rel hA2) (fun j hj e2 => ?_) (by have := hA.p1; omega)⟩
      have hj' : j < (l.set a (0, 0, false)).length := hj
      have e2 : (l.set a (0, 0, false))[j].1 = p := e2
      rw [List.getElem_set] at e2
      split at e2
      · have := hA.p1; simp only [] at e2; omega
      · rename_i hne
        rw [List.length_set] at hj'
        exact hne (hA2.uni hj' e2).symm
  obtain ⟨g, d, e1, hG, n, e2⟩ := hdone
  rw [e1] at hroom
  refine callX_pure (d := .tup [encFS g, .agg (encP f.pg[a]), .bool d, .int .i64 0]) hroom ?_
  conv => whnf
  repeat (first | (refine bcase_f rfl ?_; conv => whnf) | (refine bcase_t rfl ?_; conv => whnf) | (refine condK_of rfl ?_; conv => whnf) | (refine condK_of (by decide) ?_; conv => whnf) | (refine condK_of (by omega) ?_; conv => whnf) | (refine wrapK_in (w64 (by omega) (by omega)) ?_; conv => whnf))
  rw [hpg]
  refine callX_pure hfind ?_
  conv => whnf
  repeat (first | (refine bcase_f rfl ?_; conv => whnf) | (refine bcase_t rfl ?_; conv => whnf) | (refine condK_of rfl ?_; conv => whnf) | (refine condK_of (by decide) ?_; conv => whnf) | (refine condK_of (by omega) ?_; conv => whnf) | (refine wrapK_in (w64 (by omega) (by omega)) ?_; conv => whnf))
  refine callX_pure (d := .tup [.int .i64 n, .bool d]) (by have h := Find_ok g p hG.tl hG.dl; rw [e2] at h; exact h) ?_
  conv => whnf
  repeat (first | (refine bcase_f rfl ?_; conv => whnf) | (refine bcase_t rfl ?_; conv => whnf) | (refine condK_of rfl ?_; conv => whnf) | (refine condK_of (by decide) ?_; conv => whnf) | (refine condK_of (by omega) ?_; conv => whnf) | (refine wrapK_in (w64 (by omega) (by omega)) ?_; conv => whnf))
  refine idxK_nat (by omega) ?_
  conv => whnf
  refine getRow_of (x := encP f.pg[a]) (by simp [hap]) ?_
  conv => whnf
  repeat (first | (refine bcase_f rfl ?_; conv => whnf) | (refine bcase_t rfl ?_; conv => whnf) | (refine condK_of rfl ?_; conv => whnf) | (refine condK_of (by decide) ?_; conv => whnf) | (refine condK_of (by omega) ?_; conv => whnf) | (refine wrapK_in (w64 (by omega) (by omega)) ?_; conv => whnf))
  rw [hpg]
  refine bcase_t (by simp) ?_
  conv => whnf
  repeat (first | (refine bcase_f rfl ?_; conv => whnf) | (refine bcase_t rfl ?_; conv => whnf) | (refine condK_of rfl ?_; conv => whnf) | (refine condK_of (by decide) ?_; conv => whnf) | (refine condK_of (by omega) ?_; conv => whnf) | (refine wrapK_in (w64 (by omega) (by omega)) ?_; conv => whnf))
  refine idxK_nat (by omega) ?_
  conv => whnf
  refine getRow_of (x := encF f.fr[a]) (by simp [hai]) ?_
  conv => whnf
  repeat (first | (refine bcase_f rfl ?_; conv => whnf) | (refine bcase_t rfl ?_; conv => whnf) | (refine condK_of rfl ?_; conv => whnf) | (refine condK_of (by decide) ?_; conv => whnf) | (refine condK_of (by omega) ?_; conv => whnf) | (refine wrapK_in (w64 (by omega) (by omega)) ?_; conv => whnf))
  refine bcase_t (by simp [h0]) ?_
  conv => whnf
  repeat (first | (refine bcase_f rfl ?_; conv => whnf) | (refine bcase_t rfl ?_; conv => whnf) | (refine condK_of rfl ?_; conv => whnf) | (refine condK_of (by decide) ?_; conv => whnf) | (refine condK_of (by omega) ?_; conv => whnf) | (refine wrapK_in (w64 (by omega) (by omega)) ?_; conv => whnf))
  refine bcase_t (by simp) ?_
  conv => whnf
  repeat (first | (refine bcase_f rfl ?_; conv => whnf) | (refine bcase_t rfl ?_; conv => whnf) | (refine condK_of rfl ?_; conv => whnf) | (refine condK_of (by decide) ?_; conv => whnf) | (refine condK_of (by omega) ?_; conv => whnf) | (refine wrapK_in (w64 (by omega) (by omega)) ?_; conv => whnf))
  refine callX_pure (fmRight_ok hG) ?_
  conv => whnf
  repeat (first | (refine bcase_f rfl ?_; conv => whnf) | (refine bcase_t rfl ?_; conv => whnf) | (refine condK_of rfl ?_; conv => whnf) | (refine condK_of (by decide) ?_; conv => whnf) | (refine condK_of (by omega) ?_; conv => whnf) | (refine wrapK_in (w64 (by omega) (by omega)) ?_; conv => whnf))
  refine callX_pure awake_ok ?_
  conv => whnf
  repeat (first | (refine bcase_f rfl ?_; conv => whnf) | (refine bcase_t rfl ?_; conv => whnf) | (refine condK_of rfl ?_; conv => whnf) | (refine condK_of (by decide) ?_; conv => whnf) | (refine condK_of (by omega) ?_; conv => whnf) | (refine wrapK_in (w64 (by omega) (by omega)) ?_; conv => whnf))
  exact ret_of rfl rfl
end Go.Lk

set_option linter.unusedSimpArgs false
set_option linter.unusedVariables false
set_option linter.unnecessarySimpa false
namespace Go.Lk
open Go Go.Proofs Go.RowKit

theorem look_at {f : FX} {p : Int} {i : Nat} (hA : AtF f p i) : lookS f p = ((i : Int), 0) := by
  rcases look_cases f p with ⟨h1, _⟩ | ⟨_, e, _⟩ | ⟨j, e1, e2, hB⟩
  · exact absurd (fm_iff.2 hA.right) h1
  · rw [(find_mem hA.right.tb).2 ⟨hA.p1, hA.mem⟩] at e; cases e
  · rw [e2, hA.uni hB.hi hB.fr]
theorem drop_at {f : FX} {p : Int} {i : Nat} (hA : AtF f p i) (h0 : (f.fr[i]'hA.hi).2.1 = 0) : dropS f p = (relS f i p, 0) := by
  rw [dropS, look_at hA, if_neg (by simp), Int.toNat_natCast, atF_eq hA.hi, if_neg (by omega)]
theorem pin_cases (f : FX) (p : Int) : ((pinS f p).2 ≠ 0) ∨ ∃ (i : Nat) (hA : AtF f p i), (f.fr[i]'hA.hi).2.1 < 2147483647 ∧ pinS f p = (withF f i (upPin (f.fr[i]'hA.hi)), 0) := by
  rcases look_split f p with e | ⟨i, e, hA⟩
  · exact .inl (by rw [pinS, if_pos e]; exact e)
  by_cases g : 2147483647 ≤ (f.fr[i]'hA.hi).2.1
  · exact .inl (by rw [pinS, if_neg (by rw [e]; simp), e, Int.toNat_natCast, atF_eq hA.hi, if_pos g]; exact show (7 : Int) ≠ 0 by decide)
  · exact .inr ⟨i, hA, by omega, by rw [pinS, if_neg (by rw [e]; simp), e, Int.toNat_natCast, atF_eq hA.hi, if_neg g]⟩
theorem withF_fr {f : FX} {i : Nat} {x : Fr} (h : i < f.fr.length) : ∃ h' : i < (withF f i x).fr.length, (withF f i x).fr[i] = x :=
  ⟨by show i < (f.fr.set i x).length; rw [List.length_set]; exact h, by show (f.fr.set i x)[i]'_ = x; rw [List.getElem_set_self]⟩
theorem withF_two {f : FX} {i : Nat} {x y : Fr} : withF (withF f i x) i y = withF f i y := by
  show (⟨(f.fr.set i x).set i y, f.hand, f.tb, f.pg, f.dt⟩ : FX) = ⟨f.fr.set i y, f.hand, f.tb, f.pg, f.dt⟩
  rw [List.set_set]
theorem AtF.with {f : FX} {p : Int} {i : Nat} {x : Fr} (hA : AtF f p i) (hx : frOk x = true) (h1 : x.1 = p) : AtF (withF f i x) p i := by
  have hM := FM.pins hA hx h1
  obtain ⟨h', e⟩ := withF_fr (x := x) hA.hi
  exact atF_of hM (by have := hA.p1; omega) h' (by rw [e]; exact h1)
/-- what a page leaves that was loaded, unpinned and dropped -/
theorem gone {f : FX} {p : Pg} {i : Nat} (h : FM f) (hp : pgR p = true) (hi : i < f.fr.length) (hz : f.fr[i].1 = 0) (hf : Tb.findS f.tb p.1 = (0, false)) (x : Fr) :
    (relS (withF (inS f p i) i x) i p.1).tb = f.tb ∧ (relS (withF (inS f p i) i x) i p.1).dt = f.dt ∧ (relS (withF (inS f p i) i x) i p.1).pg.length = f.pg.length := by
  have hpr := pgR_out.1 hp
  obtain ⟨l', e1, _⟩ := in_tb h hpr.1 hpr.2.1 hi hf
  obtain ⟨l1, q1, _, _, _, q2, _⟩ := Tb.put_back (l := f.tb) (p := p.1) (f := (i : Int)) (by rw [e1])
  refine ⟨?_, ?_, ?_⟩
  · show (Tb.delS (Tb.putS f.tb p.1 i).1 p.1).1 = f.tb
    rw [q1, q2]
  · show (Dt.cleanG f.dt p.1).1 = f.dt
    refine clean_same fun e0 => ?_
    rw [Dt.clean_right h.dt] at e0
    by_cases g : 0 ≤ Dt.placeG f.dt p.1 0
    · obtain ⟨y, hy, e2⟩ := Dt.placeG_mem.1 g
      obtain ⟨k, hk⟩ := h.dirty y hy
      rw [e2] at hk
      exact (find_nomem h.tb hpr.1).1 (by rw [hf]) k hk
    · rw [if_neg g] at e0; cases e0
  · show ((f.pg.set i p).set i noPg).length = f.pg.length
    simp

open Classical in
theorem rsame_self (a : FX) (hf : a.fr.length ≤ 1000000) (hp : a.pg.length ≤ 1000000) (h1 : a.tb.length ≤ 1000000) (h2 : a.dt.length ≤ 1000000) : ACall Try.prog 19 [encFS a, encFS a] (.bool true) := by
  have h := rsame_ok a a hf hp h1 h2 h1 h2
  rw [decide_eq_true rfl] at h; exact h

theorem framesBack_ok (f : FX) (id : Int) (p : Pg) : ACall Try.prog 5 [encFS f, .int .i64 id, .agg (encP p)] (.bool true) := by
  refine acall_of Try.func5 3 rfl (by kernel_rfl) ?_
  conv => whnf
  have hmf : (f.fr.map encF).length = f.fr.length := List.length_map ..
  have hmp : (f.pg.map encP).length = f.pg.length := List.length_map ..
  have href := ref_ok f
  repeat (first | (refine bcase_f rfl ?_; conv => whnf) | (refine bcase_t rfl ?_; conv => whnf) | (refine condK_of rfl ?_; conv => whnf) | (refine condK_of (by decide) ?_; conv => whnf) | (refine condK_of (by omega) ?_; conv => whnf) | (refine wrapK_in (w64 (by omega) (by omega)) ?_; conv => whnf))
  by_cases hs : SmallF f
  rotate_left
  · rw [refF_f hs] at href
    refine callX_pure (d := .tup [encFS (cutF f), .bool false]) href ?_
    conv => whnf
    repeat (first | (refine bcase_f rfl ?_; conv => whnf) | (refine bcase_t rfl ?_; conv => whnf) | (refine condK_of rfl ?_; conv => whnf) | (refine condK_of (by decide) ?_; conv => whnf) | (refine condK_of (by omega) ?_; conv => whnf) | (refine wrapK_in (w64 (by omega) (by omega)) ?_; conv => whnf))
    refine callX_pure awake_ok ?_
    conv => whnf
    repeat (first | (refine bcase_f rfl ?_; conv => whnf) | (refine bcase_t rfl ?_; conv => whnf) | (refine condK_of rfl ?_; conv => whnf) | (refine condK_of (by decide) ?_; conv => whnf) | (refine condK_of (by omega) ?_; conv => whnf) | (refine wrapK_in (w64 (by omega) (by omega)) ?_; conv => whnf))
    exact ret_of rfl rfl
  rw [refF_t hs] at href
  have hs1 := hs.tb
  have hs2 := hs.dt
  have hs3 := hs.pg
  refine callX_pure (d := .tup [encFS f, .bool true]) href ?_
  conv => whnf
  repeat (first | (refine bcase_f rfl ?_; conv => whnf) | (refine bcase_t rfl ?_; conv => whnf) | (refine condK_of rfl ?_; conv => whnf) | (refine condK_of (by decide) ?_; conv => whnf) | (refine condK_of (by omega) ?_; conv => whnf) | (refine wrapK_in (w64 (by omega) (by omega)) ?_; conv => whnf))
  refine bcase_p (fun h0 => ?_) (fun h0 => ?_) <;> conv => whnf
  · repeat (first | (refine bcase_f rfl ?_; conv => whnf) | (refine bcase_t rfl ?_; conv => whnf) | (refine condK_of rfl ?_; conv => whnf) | (refine condK_of (by decide) ?_; conv => whnf) | (refine condK_of (by omega) ?_; conv => whnf) | (refine wrapK_in (w64 (by omega) (by omega)) ?_; conv => whnf))
    refine callX_pure awake_ok ?_
    conv => whnf
    repeat (first | (refine bcase_f rfl ?_; conv => whnf) | (refine bcase_t rfl ?_; conv => whnf) | (refine condK_of rfl ?_; conv => whnf) | (refine condK_of (by decide) ?_; conv => whnf) | (refine condK_of (by omega) ?_; conv => whnf) | (refine wrapK_in (w64 (by omega) (by omega)) ?_; conv => whnf))
    exact ret_of rfl rfl
  repeat (first | (refine bcase_f rfl ?_; conv => whnf) | (refine bcase_t rfl ?_; conv => whnf) | (refine condK_of rfl ?_; conv => whnf) | (refine condK_of (by decide) ?_; conv => whnf) | (refine condK_of (by omega) ?_; conv => whnf) | (refine wrapK_in (w64 (by omega) (by omega)) ?_; conv => whnf))
  have hpin := pin_ok f id (by omega) (by omega)
  rcases pin_cases f id with e | ⟨i, hA, hlt, e⟩
  · refine callX_pure hpin ?_
    conv => whnf
    repeat (first | (refine bcase_f rfl ?_; conv => whnf) | (refine bcase_t rfl ?_; conv => whnf) | (refine condK_of rfl ?_; conv => whnf) | (refine condK_of (by decide) ?_; conv => whnf) | (refine condK_of (by omega) ?_; conv => whnf) | (refine wrapK_in (w64 (by omega) (by omega)) ?_; conv => whnf))
    refine bcase_f (by simp [e]) ?_
    conv => whnf
    repeat (first | (refine bcase_f rfl ?_; conv => whnf) | (refine bcase_t rfl ?_; conv => whnf) | (refine condK_of rfl ?_; conv => whnf) | (refine condK_of (by decide) ?_; conv => whnf) | (refine condK_of (by omega) ?_; conv => whnf) | (refine wrapK_in (w64 (by omega) (by omega)) ?_; conv => whnf))
    rcases load_cases f p 0 false with ⟨e1, e2⟩ | ⟨j, hj, l, hz, hP, hM, _, hff, e, m1, m2, m3, _⟩
    · have hl := load_ok f p 0 false (by omega) (by omega)
      refine callX_pure hl ?_
      conv => whnf
      repeat (first | (refine bcase_f rfl ?_; conv => whnf) | (refine bcase_t rfl ?_; conv => whnf) | (refine condK_of rfl ?_; conv => whnf) | (refine condK_of (by decide) ?_; conv => whnf) | (refine condK_of (by omega) ?_; conv => whnf) | (refine wrapK_in (w64 (by omega) (by omega)) ?_; conv => whnf))
      refine bcase_t (by simp [e2]) ?_
      conv => whnf
      repeat (first | (refine bcase_f rfl ?_; conv => whnf) | (refine bcase_t rfl ?_; conv => whnf) | (refine condK_of rfl ?_; conv => whnf) | (refine condK_of (by decide) ?_; conv => whnf) | (refine condK_of (by omega) ?_; conv => whnf) | (refine wrapK_in (w64 (by omega) (by omega)) ?_; conv => whnf))
      refine callX_pure awake_ok ?_
      conv => whnf
      repeat (first | (refine bcase_f rfl ?_; conv => whnf) | (refine bcase_t rfl ?_; conv => whnf) | (refine condK_of rfl ?_; conv => whnf) | (refine condK_of (by decide) ?_; conv => whnf) | (refine condK_of (by omega) ?_; conv => whnf) | (refine wrapK_in (w64 (by omega) (by omega)) ?_; conv => whnf))
      exact ret_of rfl rfl
    · have hl := load_ok f p 0 false (by omega) (by omega)
      obtain rfl := m3 rfl
      have ei : ({ inS f p j with dt := f.dt } : FX) = inS f p j := rfl
      rw [ei] at e m1 m2
      rw [e] at hl
      have hj2 : j < (inS f p j).fr.length := m2.hi
      have hx : (inS f p j).fr[j] = (p.1, 1, true) := by simp [inS]
      obtain ⟨u1, u2⟩ := unpin_at m2 (by rw [hx]; exact show (1 : Int) ≠ 0 by decide)
      rw [hx] at u1 u2
      have hB : AtF (withF (inS f p j) j (downPin (p.1, 1, true))) p.1 j := m2.with (frOk_out.2 (by have := m2.p1; have := m2.p16; simp only [downPin]; omega)) rfl
      obtain ⟨hj3, hx3⟩ := withF_fr (x := downPin (p.1, 1, true)) hj2
      have hd := drop_at hB (by rw [hx3]; rfl)
      have hG := FM.rel hB
      obtain ⟨g1, g2, g3⟩ := gone hM hP hj hz hff (downPin (p.1, 1, true))
      have hno : rfindS (relS (withF (inS f p j) j (downPin (p.1, 1, true))) j p.1).pg p.1 < 0 := rfindS_no hG fun q _ hq e2 => by
        have hq' : q < ((withF (inS f p j) j (downPin (p.1, 1, true))).fr.set j (0, 0, false)).length := hq
        have e2 : ((withF (inS f p j) j (downPin (p.1, 1, true))).fr.set j (0, 0, false))[q].1 = p.1 := e2
        rw [List.getElem_set] at e2
        split at e2
        · have := m2.p1; simp only [] at e2; omega
        · rename_i hne
          rw [List.length_set] at hq'
          exact hne (hB.uni hq' e2).symm
      generalize relS (withF (inS f p j) j (downPin (p.1, 1, true))) j p.1 = g at hd hG g1 g2 g3 hno
      have hgl := hG.pl
      refine callX_pure (d := .tup [encFS (inS f p j), .int .i64 0]) hl ?_
      conv => whnf
      repeat (first | (refine bcase_f rfl ?_; conv => whnf) | (refine bcase_t rfl ?_; conv => whnf) | (refine condK_of rfl ?_; conv => whnf) | (refine condK_of (by decide) ?_; conv => whnf) | (refine condK_of (by omega) ?_; conv => whnf) | (refine wrapK_in (w64 (by omega) (by omega)) ?_; conv => whnf))
      refine callX_pure (d := .tup [encFS (withF (inS f p j) j (downPin (p.1, 1, true))), .int .i64 0]) (by have h := unpin_ok (inS f p j) p.1 m1.tl m1.dl; rw [u1] at h; exact h) ?_
      conv => whnf
      repeat (first | (refine bcase_f rfl ?_; conv => whnf) | (refine bcase_t rfl ?_; conv => whnf) | (refine condK_of rfl ?_; conv => whnf) | (refine condK_of (by decide) ?_; conv => whnf) | (refine condK_of (by omega) ?_; conv => whnf) | (refine wrapK_in (w64 (by omega) (by omega)) ?_; conv => whnf))
      refine callX_pure (d := .tup [encFS g, .int .i64 0]) (by have h := drop_ok (withF (inS f p j) j (downPin (p.1, 1, true))) p.1 u2.tl u2.dl; rw [hd] at h; exact h) ?_
      conv => whnf
      repeat (first | (refine bcase_f rfl ?_; conv => whnf) | (refine bcase_t rfl ?_; conv => whnf) | (refine condK_of rfl ?_; conv => whnf) | (refine condK_of (by decide) ?_; conv => whnf) | (refine condK_of (by omega) ?_; conv => whnf) | (refine wrapK_in (w64 (by omega) (by omega)) ?_; conv => whnf))
      refine callX_pure (d := .tup [encFS g, .bool true]) (by have h := ref_ok g; rw [refF_t hG.small] at h; exact h) ?_
      conv => whnf
      repeat (first | (refine bcase_f rfl ?_; conv => whnf) | (refine bcase_t rfl ?_; conv => whnf) | (refine condK_of rfl ?_; conv => whnf) | (refine condK_of (by decide) ?_; conv => whnf) | (refine condK_of (by omega) ?_; conv => whnf) | (refine wrapK_in (w64 (by omega) (by omega)) ?_; conv => whnf))
      refine bcase_t (by simp [g3]) ?_
      conv => whnf
      repeat (first | (refine bcase_f rfl ?_; conv => whnf) | (refine bcase_t rfl ?_; conv => whnf) | (refine condK_of rfl ?_; conv => whnf) | (refine condK_of (by decide) ?_; conv => whnf) | (refine condK_of (by omega) ?_; conv => whnf) | (refine wrapK_in (w64 (by omega) (by omega)) ?_; conv => whnf))
      refine callX_pure (rfind15_ok g p.1 (by omega)) ?_
      conv => whnf
      repeat (first | (refine bcase_f rfl ?_; conv => whnf) | (refine bcase_t rfl ?_; conv => whnf) | (refine condK_of rfl ?_; conv => whnf) | (refine condK_of (by decide) ?_; conv => whnf) | (refine condK_of (by omega) ?_; conv => whnf) | (refine wrapK_in (w64 (by omega) (by omega)) ?_; conv => whnf))
      refine bcase_t (by simp [hno]) ?_
      conv => whnf
      repeat (first | (refine bcase_f rfl ?_; conv => whnf) | (refine bcase_t rfl ?_; conv => whnf) | (refine condK_of rfl ?_; conv => whnf) | (refine condK_of (by decide) ?_; conv => whnf) | (refine condK_of (by omega) ?_; conv => whnf) | (refine wrapK_in (w64 (by omega) (by omega)) ?_; conv => whnf))
      refine callX_pure (d := .bool true) (by have h := Tb.same_ok f.tb g.tb (by omega) hG.tl; rw [g1, decide_eq_true rfl] at h; rw [g1]; exact h) ?_
      conv => whnf
      repeat (first | (refine bcase_f rfl ?_; conv => whnf) | (refine bcase_t rfl ?_; conv => whnf) | (refine condK_of rfl ?_; conv => whnf) | (refine condK_of (by decide) ?_; conv => whnf) | (refine condK_of (by omega) ?_; conv => whnf) | (refine wrapK_in (w64 (by omega) (by omega)) ?_; conv => whnf))
      refine callX_pure (d := .bool true) (by have h := Dt.same_ok f.dt g.dt (by omega) hG.dl; rw [g2, decide_eq_true rfl] at h; rw [g2]; exact h) ?_
      conv => whnf
      repeat (first | (refine bcase_f rfl ?_; conv => whnf) | (refine bcase_t rfl ?_; conv => whnf) | (refine condK_of rfl ?_; conv => whnf) | (refine condK_of (by decide) ?_; conv => whnf) | (refine condK_of (by omega) ?_; conv => whnf) | (refine wrapK_in (w64 (by omega) (by omega)) ?_; conv => whnf))
      refine callX_pure (fmRight_ok hG) ?_
      conv => whnf
      repeat (first | (refine bcase_f rfl ?_; conv => whnf) | (refine bcase_t rfl ?_; conv => whnf) | (refine condK_of rfl ?_; conv => whnf) | (refine condK_of (by decide) ?_; conv => whnf) | (refine condK_of (by omega) ?_; conv => whnf) | (refine wrapK_in (w64 (by omega) (by omega)) ?_; conv => whnf))
      refine callX_pure awake_ok ?_
      conv => whnf
      repeat (first | (refine bcase_f rfl ?_; conv => whnf) | (refine bcase_t rfl ?_; conv => whnf) | (refine condK_of rfl ?_; conv => whnf) | (refine condK_of (by decide) ?_; conv => whnf) | (refine condK_of (by omega) ?_; conv => whnf) | (refine wrapK_in (w64 (by omega) (by omega)) ?_; conv => whnf))
      exact ret_of rfl rfl
  · rw [e] at hpin
    have hM := hA.right
    have hi := hA.hi
    have hk := frOk_out.1 (hM.ck.all i hi)
    have hB : AtF (withF f i (upPin f.fr[i])) id i := hA.with (frOk_out.2 (by simp only [upPin]; omega)) hA.fr
    obtain ⟨hi2, hx2⟩ := withF_fr (x := upPin f.fr[i]) hi
    obtain ⟨u1, u2⟩ := unpin_at hB (by rw [hx2]; simp only [upPin]; omega)
    have t1 := turn1_ok f id .empty 0 hA (by omega) (by omega) (by omega)
    have t2 := turn2_ok (withF f i (upPin f.fr[i])) id .empty 0 hB (by rw [hx2]; simp only [upPin]; omega) hB.right.tl hB.right.dl
    rw [hx2, withF_two] at u1 u2
    rw [hx2, withF_two] at t2
    obtain ⟨hi3, hx3⟩ := withF_fr (x := downPin (upPin f.fr[i])) hi
    have hml : ((withF f i (downPin (upPin f.fr[i]))).fr.map encF).length = f.fr.length := by rw [List.length_map]; show (f.fr.set i _).length = _; rw [List.length_set]
    have hget : ((withF f i (downPin (upPin f.fr[i]))).fr.map encF)[i]? = some (encF (downPin (upPin f.fr[i]))) := by rw [List.getElem?_map, List.getElem?_eq_getElem hi3, hx3]; rfl
    refine callX_pure (d := .tup [encFS (withF f i (upPin f.fr[i])), .int .i64 0]) hpin ?_
    conv => whnf
    repeat (first | (refine bcase_f rfl ?_; conv => whnf) | (refine bcase_t rfl ?_; conv => whnf) | (refine condK_of rfl ?_; conv => whnf) | (refine condK_of (by decide) ?_; conv => whnf) | (refine condK_of (by omega) ?_; conv => whnf) | (refine wrapK_in (w64 (by omega) (by omega)) ?_; conv => whnf))
    refine callX_pure (d := .tup [encFS (withF f i (downPin (upPin f.fr[i]))), .int .i64 0]) (by have h := unpin_ok (withF f i (upPin f.fr[i])) id hB.right.tl hB.right.dl; rw [u1] at h; exact h) ?_
    conv => whnf
    repeat (first | (refine bcase_f rfl ?_; conv => whnf) | (refine bcase_t rfl ?_; conv => whnf) | (refine condK_of rfl ?_; conv => whnf) | (refine condK_of (by decide) ?_; conv => whnf) | (refine condK_of (by omega) ?_; conv => whnf) | (refine wrapK_in (w64 (by omega) (by omega)) ?_; conv => whnf))
    generalize hgb : withF f i (downPin (upPin f.fr[i])) = b at u1 u2 t2 hml hget ⊢
    refine callX_pure (d := .tup [encFS b, .bool true]) (by have h := ref_ok b; rw [refF_t u2.small] at h; exact h) ?_
    conv => whnf
    repeat (first | (refine bcase_f rfl ?_; conv => whnf) | (refine bcase_t rfl ?_; conv => whnf) | (refine condK_of rfl ?_; conv => whnf) | (refine condK_of (by decide) ?_; conv => whnf) | (refine condK_of (by omega) ?_; conv => whnf) | (refine wrapK_in (w64 (by omega) (by omega)) ?_; conv => whnf))
    refine callX_pure (d := .int .i64 i) (by have h := rfind15_ok f id (by omega); rw [rfindS_at hA] at h; exact h) ?_
    conv => whnf
    repeat (first | (refine bcase_f rfl ?_; conv => whnf) | (refine bcase_t rfl ?_; conv => whnf) | (refine condK_of rfl ?_; conv => whnf) | (refine condK_of (by decide) ?_; conv => whnf) | (refine condK_of (by omega) ?_; conv => whnf) | (refine wrapK_in (w64 (by omega) (by omega)) ?_; conv => whnf))
    refine bcase_f (by rw [decide_eq_false_iff_not, hml]; omega) ?_
    conv => whnf
    repeat (first | (refine bcase_f rfl ?_; conv => whnf) | (refine bcase_t rfl ?_; conv => whnf) | (refine condK_of rfl ?_; conv => whnf) | (refine condK_of (by decide) ?_; conv => whnf) | (refine condK_of (by omega) ?_; conv => whnf) | (refine wrapK_in (w64 (by omega) (by omega)) ?_; conv => whnf))
    refine idxK_nat (by rw [hml]; exact hi) ?_
    conv => whnf
    refine getRow_of hget ?_
    conv => whnf
    repeat (first | (refine bcase_f rfl ?_; conv => whnf) | (refine bcase_t rfl ?_; conv => whnf) | (refine condK_of rfl ?_; conv => whnf) | (refine condK_of (by decide) ?_; conv => whnf) | (refine condK_of (by omega) ?_; conv => whnf) | (refine wrapK_in (w64 (by omega) (by omega)) ?_; conv => whnf))
    refine callX_pure t1 ?_
    conv => whnf
    repeat (first | (refine bcase_f rfl ?_; conv => whnf) | (refine bcase_t rfl ?_; conv => whnf) | (refine condK_of rfl ?_; conv => whnf) | (refine condK_of (by decide) ?_; conv => whnf) | (refine condK_of (by omega) ?_; conv => whnf) | (refine wrapK_in (w64 (by omega) (by omega)) ?_; conv => whnf))
    refine callX_pure t2 ?_
    conv => whnf
    repeat (first | (refine bcase_f rfl ?_; conv => whnf) | (refine bcase_t rfl ?_; conv => whnf) | (refine condK_of rfl ?_; conv => whnf) | (refine condK_of (by decide) ?_; conv => whnf) | (refine condK_of (by omega) ?_; conv => whnf) | (refine wrapK_in (w64 (by omega) (by omega)) ?_; conv => whnf))
    have h8 := u2.ck.most
    refine callX_pure (rsame_self b (by omega) (by have := u2.pl; omega) u2.tl u2.dl) ?_
    conv => whnf
    repeat (first | (refine bcase_f rfl ?_; conv => whnf) | (refine bcase_t rfl ?_; conv => whnf) | (refine condK_of rfl ?_; conv => whnf) | (refine condK_of (by decide) ?_; conv => whnf) | (refine condK_of (by omega) ?_; conv => whnf) | (refine wrapK_in (w64 (by omega) (by omega)) ?_; conv => whnf))
    rcases load_cases f p 0 false with ⟨e1, e2⟩ | ⟨j, hj, l, hz, hP, hM, _, hff, e, m1, m2, m3, _⟩
    · have hl := load_ok f p 0 false (by omega) (by omega)
      refine callX_pure hl ?_
      conv => whnf
      repeat (first | (refine bcase_f rfl ?_; conv => whnf) | (refine bcase_t rfl ?_; conv => whnf) | (refine condK_of rfl ?_; conv => whnf) | (refine condK_of (by decide) ?_; conv => whnf) | (refine condK_of (by omega) ?_; conv => whnf) | (refine wrapK_in (w64 (by omega) (by omega)) ?_; conv => whnf))
      refine bcase_t (by simp [e2]) ?_
      conv => whnf
      repeat (first | (refine bcase_f rfl ?_; conv => whnf) | (refine bcase_t rfl ?_; conv => whnf) | (refine condK_of rfl ?_; conv => whnf) | (refine condK_of (by decide) ?_; conv => whnf) | (refine condK_of (by omega) ?_; conv => whnf) | (refine wrapK_in (w64 (by omega) (by omega)) ?_; conv => whnf))
      refine callX_pure awake_ok ?_
      conv => whnf
      repeat (first | (refine bcase_f rfl ?_; conv => whnf) | (refine bcase_t rfl ?_; conv => whnf) | (refine condK_of rfl ?_; conv => whnf) | (refine condK_of (by decide) ?_; conv => whnf) | (refine condK_of (by omega) ?_; conv => whnf) | (refine wrapK_in (w64 (by omega) (by omega)) ?_; conv => whnf))
      exact ret_of rfl rfl
    · have hl := load_ok f p 0 false (by omega) (by omega)
      obtain rfl := m3 rfl
      have ei : ({ inS f p j with dt := f.dt } : FX) = inS f p j := rfl
      rw [ei] at e m1 m2
      rw [e] at hl
      have hj2 : j < (inS f p j).fr.length := m2.hi
      have hx : (inS f p j).fr[j] = (p.1, 1, true) := by simp [inS]
      obtain ⟨u1, u2⟩ := unpin_at m2 (by rw [hx]; exact show (1 : Int) ≠ 0 by decide)
      rw [hx] at u1 u2
      have hB : AtF (withF (inS f p j) j (downPin (p.1, 1, true))) p.1 j := m2.with (frOk_out.2 (by have := m2.p1; have := m2.p16; simp only [downPin]; omega)) rfl
      obtain ⟨hj3, hx3⟩ := withF_fr (x := downPin (p.1, 1, true)) hj2
      have hd := drop_at hB (by rw [hx3]; rfl)
      have hG := FM.rel hB
      obtain ⟨g1, g2, g3⟩ := gone hM hP hj hz hff (downPin (p.1, 1, true))
      have hno : rfindS (relS (withF (inS f p j) j (downPin (p.1, 1, true))) j p.1).pg p.1 < 0 := rfindS_no hG fun q _ hq e2 => by
        have hq' : q < ((withF (inS f p j) j (downPin (p.1, 1, true))).fr.set j (0, 0, false)).length := hq
        have e2 : ((withF (inS f p j) j (downPin (p.1, 1, true))).fr.set j (0, 0, false))[q].1 = p.1 := e2
        rw [List.getElem_set] at e2
        split at e2
        · have := m2.p1; simp only [] at e2; omega
        · rename_i hne
          rw [List.length_set] at hq'
          exact hne (hB.uni hq' e2).symm
      generalize relS (withF (inS f p j) j (downPin (p.1, 1, true))) j p.1 = g at hd hG g1 g2 g3 hno
      have hgl := hG.pl
      refine callX_pure (d := .tup [encFS (inS f p j), .int .i64 0]) hl ?_
      conv => whnf
      repeat (first | (refine bcase_f rfl ?_; conv => whnf) | (refine bcase_t rfl ?_; conv => whnf) | (refine condK_of rfl ?_; conv => whnf) | (refine condK_of (by decide) ?_; conv => whnf) | (refine condK_of (by omega) ?_; conv => whnf) | (refine wrapK_in (w64 (by omega) (by omega)) ?_; conv => whnf))
      refine callX_pure (d := .tup [encFS (withF (inS f p j) j (downPin (p.1, 1, true))), .int .i64 0]) (by have h := unpin_ok (inS f p j) p.1 m1.tl m1.dl; rw [u1] at h; exact h) ?_
      conv => whnf
      repeat (first | (refine bcase_f rfl ?_; conv => whnf) | (refine bcase_t rfl ?_; conv => whnf) | (refine condK_of rfl ?_; conv => whnf) | (refine condK_of (by decide) ?_; conv => whnf) | (refine condK_of (by omega) ?_; conv => whnf) | (refine wrapK_in (w64 (by omega) (by omega)) ?_; conv => whnf))
      refine callX_pure (d := .tup [encFS g, .int .i64 0]) (by have h := drop_ok (withF (inS f p j) j (downPin (p.1, 1, true))) p.1 u2.tl u2.dl; rw [hd] at h; exact h) ?_
      conv => whnf
      repeat (first | (refine bcase_f rfl ?_; conv => whnf) | (refine bcase_t rfl ?_; conv => whnf) | (refine condK_of rfl ?_; conv => whnf) | (refine condK_of (by decide) ?_; conv => whnf) | (refine condK_of (by omega) ?_; conv => whnf) | (refine wrapK_in (w64 (by omega) (by omega)) ?_; conv => whnf))
      refine callX_pure (d := .tup [encFS g, .bool true]) (by have h := ref_ok g; rw [refF_t hG.small] at h; exact h) ?_
      conv => whnf
      repeat (first | (refine bcase_f rfl ?_; conv => whnf) | (refine bcase_t rfl ?_; conv => whnf) | (refine condK_of rfl ?_; conv => whnf) | (refine condK_of (by decide) ?_; conv => whnf) | (refine condK_of (by omega) ?_; conv => whnf) | (refine wrapK_in (w64 (by omega) (by omega)) ?_; conv => whnf))
      refine bcase_t (by simp [g3]) ?_
      conv => whnf
      repeat (first | (refine bcase_f rfl ?_; conv => whnf) | (refine bcase_t rfl ?_; conv => whnf) | (refine condK_of rfl ?_; conv => whnf) | (refine condK_of (by decide) ?_; conv => whnf) | (refine condK_of (by omega) ?_; conv => whnf) | (refine wrapK_in (w64 (by omega) (by omega)) ?_; conv => whnf))
      refine callX_pure (rfind15_ok g p.1 (by omega)) ?_
      conv => whnf
      repeat (first | (refine bcase_f rfl ?_; conv => whnf) | (refine bcase_t rfl ?_; conv => whnf) | (refine condK_of rfl ?_; conv => whnf) | (refine condK_of (by decide) ?_; conv => whnf) | (refine condK_of (by omega) ?_; conv => whnf) | (refine wrapK_in (w64 (by omega) (by omega)) ?_; conv => whnf))
      refine bcase_t (by simp [hno]) ?_
      conv => whnf
      repeat (first | (refine bcase_f rfl ?_; conv => whnf) | (refine bcase_t rfl ?_; conv => whnf) | (refine condK_of rfl ?_; conv => whnf) | (refine condK_of (by decide) ?_; conv => whnf) | (refine condK_of (by omega) ?_; conv => whnf) | (refine wrapK_in (w64 (by omega) (by omega)) ?_; conv => whnf))
      refine callX_pure (d := .bool true) (by have h := Tb.same_ok f.tb g.tb (by omega) hG.tl; rw [g1, decide_eq_true rfl] at h; rw [g1]; exact h) ?_
      conv => whnf
      repeat (first | (refine bcase_f rfl ?_; conv => whnf) | (refine bcase_t rfl ?_; conv => whnf) | (refine condK_of rfl ?_; conv => whnf) | (refine condK_of (by decide) ?_; conv => whnf) | (refine condK_of (by omega) ?_; conv => whnf) | (refine wrapK_in (w64 (by omega) (by omega)) ?_; conv => whnf))
      refine callX_pure (d := .bool true) (by have h := Dt.same_ok f.dt g.dt (by omega) hG.dl; rw [g2, decide_eq_true rfl] at h; rw [g2]; exact h) ?_
      conv => whnf
      repeat (first | (refine bcase_f rfl ?_; conv => whnf) | (refine bcase_t rfl ?_; conv => whnf) | (refine condK_of rfl ?_; conv => whnf) | (refine condK_of (by decide) ?_; conv => whnf) | (refine condK_of (by omega) ?_; conv => whnf) | (refine wrapK_in (w64 (by omega) (by omega)) ?_; conv => whnf))
      refine callX_pure (fmRight_ok hG) ?_
      conv => whnf
      repeat (first | (refine bcase_f rfl ?_; conv => whnf) | (refine bcase_t rfl ?_; conv => whnf) | (refine condK_of rfl ?_; conv => whnf) | (refine condK_of (by decide) ?_; conv => whnf) | (refine condK_of (by omega) ?_; conv => whnf) | (refine wrapK_in (w64 (by omega) (by omega)) ?_; conv => whnf))
      refine callX_pure awake_ok ?_
      conv => whnf
      repeat (first | (refine bcase_f rfl ?_; conv => whnf) | (refine bcase_t rfl ?_; conv => whnf) | (refine condK_of rfl ?_; conv => whnf) | (refine condK_of (by decide) ?_; conv => whnf) | (refine condK_of (by omega) ?_; conv => whnf) | (refine wrapK_in (w64 (by omega) (by omega)) ?_; conv => whnf))
      exact ret_of rfl rfl
end Go.Lk

set_option linter.unusedSimpArgs false
set_option linter.unusedVariables false
set_option linter.unnecessarySimpa false
namespace Go.Lk
open Go Go.Proofs Go.RowKit

/-! ### whatever is done to new frames -/
def cellI (n : Int) : AV := .d (.int .i64 n)
theorem killC_int (b : Nat) : ∀ (f : Nat → Int) (r : List Nat), killB.cells b (r.map fun q => cellI (f q)) = r.map fun q => cellI (f q)
  | _, [] => rfl
  | f, x :: r => by rw [List.map_cons, killB.cells, killC_int b f r]; rfl
def pinA (w : Nat → Int) : List AV := (List.range 17).map fun q => cellI (w q)
theorem killC_pinA (b : Nat) (w : Nat → Int) : killB.cells b (pinA w) = pinA w := killC_int b w _
theorem pinA_get {w : Nat → Int} {n : Nat} (h : n < 17) : (pinA w)[0 + n * (T 3).size]? = some (cellI (w n)) := by
  rw [show 0 + n * (T 3).size = n from by rw [show (T 3).size = 1 from rfl]; omega]
  simp only [pinA, List.getElem?_map]
  rw [List.getElem?_range h]; rfl
theorem pinA_set {w : Nat → Int} {p v : Int} {n : Nat} (hp : p = (n : Int)) : (pinA w).set n (.d (.int .i64 v)) = pinA (setW w p v) := by
  apply List.ext_getElem?
  intro i
  simp only [pinA, List.getElem?_set, List.getElem?_map, List.length_map, List.length_range]
  by_cases e : n = i
  · subst e
    rw [if_pos rfl]
    by_cases h : n < 17
    · rw [if_pos h, List.getElem?_range h]; simp [cellI, setW_at hp]
    · rw [if_neg h, List.getElem?_eq_none (by simpa using h)]; rfl
  · rw [if_neg e]
    by_cases h : i < 17
    · rw [List.getElem?_range h]; simp [cellI, setW, show ¬ i = p.toNat by omega]
    · rw [List.getElem?_eq_none (by simpa using h)]; rfl
theorem pinA_len (w : Nat → Int) : (pinA w).length = 17 := by simp [pinA]

set_option maxHeartbeats 4000000 in
theorem framesKeep_ok (n : Int) (acts : List Act) (n0 : 0 ≤ n) (n1 : n ≤ 255) : ACall Try.prog 6 [.int .u8 n, .lst (acts.map encA)] (.bool true) := by
  refine acall_of Try.func6 2 rfl (by kernel_rfl) ?_
  conv => whnf
  have hma : (acts.map encA).length = acts.length := List.length_map ..
  repeat (first | (refine bcase_f rfl ?_; conv => whnf) | (refine bcase_t rfl ?_; conv => whnf) | (refine condK_of rfl ?_; conv => whnf) | (refine condK_of (by decide) ?_; conv => whnf) | (refine condK_of (by omega) ?_; conv => whnf) | (refine wrapK_in (w64 (by omega) (by omega)) ?_; conv => whnf))
  refine divK_rem (by decide) n0 ?_
  conv => whnf
  refine wrapK_in (w64 (by omega) (by omega)) ?_
  conv => whnf
  repeat (first | (refine bcase_f rfl ?_; conv => whnf) | (refine bcase_t rfl ?_; conv => whnf) | (refine condK_of rfl ?_; conv => whnf) | (refine condK_of (by decide) ?_; conv => whnf) | (refine condK_of (by omega) ?_; conv => whnf) | (refine wrapK_in (w64 (by omega) (by omega)) ?_; conv => whnf))
  obtain ⟨m, hn⟩ : ∃ m : Nat, 1 + n % 8 = (m : Int) := ⟨(1 + n % 8).toNat, by omega⟩
  rw [hn]
  have hnew := new_ok m
  rw [if_neg (by omega), if_neg (by omega), Int.toNat_natCast] at hnew
  refine callX_pure (d := .tup [encFS (newFS m), .int .i64 0]) hnew ?_
  conv => whnf
  repeat (first | (refine bcase_f rfl ?_; conv => whnf) | (refine bcase_t rfl ?_; conv => whnf) | (refine condK_of rfl ?_; conv => whnf) | (refine condK_of (by decide) ?_; conv => whnf) | (refine condK_of (by omega) ?_; conv => whnf) | (refine wrapK_in (w64 (by omega) (by omega)) ?_; conv => whnf))
  have hM0 := FM.new (n := m) (by omega) (by omega)
  have hP0 : PinsL (newFS m).fr (fun _ => 0) := fun q h1 h16 => .inr ⟨fun i hi e => by simp [newFS] at e; omega, rfl⟩
  refine aloop (ι := Nat × FX × (Nat → Int)) (fun s => [(1, .d (.lst (acts.map encA))), (5, .ptr 5 0 0), (7, .ptr 7 0 0), (8, .d (.int .i64 s.1))]) (fun s => [(5, .box s.2.1.box false), (7, .box (pinA s.2.2) false)])
    (fun s => s.1 ≤ 60 ∧ FM s.2.1 ∧ PinsL s.2.1.fr s.2.2) (fun s => 60 - s.1) (0, newFS m, fun _ => 0) ⟨Nat.zero_le _, hM0, hP0⟩ (le0 (le_of_cov ⟨rfl, rfl, rfl, rfl, trivial⟩ ⟨rfl, rfl, trivial⟩ ⟨rfl, rfl, rfl, rfl⟩)) ?_
  rintro ⟨k, f, w⟩ ⟨hk, hF, hW⟩
  simp only at hk hF hW ⊢
  conv => whnf
  refine bcase_p (fun h => ?_) (fun h => ?_) <;> conv => whnf
  · refine bcase_p (fun h2 => ?_) (fun h2 => ?_) <;> conv => whnf
    · have hk2 : k < acts.length := by omega
      have hK := do_keeps acts[k] hF hW
      have hdo := do_ok f acts[k] hF.tl hF.dl
      generalize ha : acts[k] = a at hK hdo
      generalize hr : doS f a = r at hK hdo
      obtain ⟨g, e⟩ := r
      obtain ⟨hG, hP, hid, hpg⟩ := hK
      simp only at hG hP hid hpg hdo
      refine idxK_nat (by omega) ?_
      conv => whnf
      refine getRow_of (x := encA a) (by rw [List.getElem?_map, List.getElem?_eq_getElem hk2, ha]; rfl) ?_
      conv => whnf
      repeat (first | (refine bcase_f rfl ?_; conv => whnf) | (refine bcase_t rfl ?_; conv => whnf) | (refine condK_of rfl ?_; conv => whnf) | (refine condK_of (by decide) ?_; conv => whnf) | (refine condK_of (by omega) ?_; conv => whnf) | (refine wrapK_in (w64 (by omega) (by omega)) ?_; conv => whnf))
      by_cases he : e = 0
      rotate_left
      · rw [show nextW w a e = w from if_pos he] at hP
        refine callX_pure hdo ?_
        conv => whnf
        repeat (first | (refine bcase_f rfl ?_; conv => whnf) | (refine bcase_t rfl ?_; conv => whnf) | (refine condK_of rfl ?_; conv => whnf) | (refine condK_of (by decide) ?_; conv => whnf) | (refine condK_of (by omega) ?_; conv => whnf) | (refine wrapK_in (w64 (by omega) (by omega)) ?_; conv => whnf))
        refine bcase_f (by simpa using he) ?_
        conv => whnf
        repeat (first | (refine bcase_f rfl ?_; conv => whnf) | (refine bcase_t rfl ?_; conv => whnf) | (refine condK_of rfl ?_; conv => whnf) | (refine condK_of (by decide) ?_; conv => whnf) | (refine condK_of (by omega) ?_; conv => whnf) | (refine wrapK_in (w64 (by omega) (by omega)) ?_; conv => whnf))
        refine bcase_f (by simpa using he) ?_
        conv => whnf
        repeat (first | (refine bcase_f rfl ?_; conv => whnf) | (refine bcase_t rfl ?_; conv => whnf) | (refine condK_of rfl ?_; conv => whnf) | (refine condK_of (by decide) ?_; conv => whnf) | (refine condK_of (by omega) ?_; conv => whnf) | (refine wrapK_in (w64 (by omega) (by omega)) ?_; conv => whnf))
        refine callX_pure (fmRight_ok hG) ?_
        conv => whnf
        repeat (first | (refine bcase_f rfl ?_; conv => whnf) | (refine bcase_t rfl ?_; conv => whnf) | (refine condK_of rfl ?_; conv => whnf) | (refine condK_of (by decide) ?_; conv => whnf) | (refine condK_of (by omega) ?_; conv => whnf) | (refine wrapK_in (w64 (by omega) (by omega)) ?_; conv => whnf))
        refine aloop (ι := Nat) (fun q => [(1, .d (.lst (acts.map encA))), (5, .ptr 5 0 0), (7, .ptr 7 0 0), (8, .d (.int .i64 k)), (12, .d (.int .i64 ((q : Int) + 1)))]) (fun q => [(5, .box g.box false), (7, .box (pinA w) false)])
          (fun q => q ≤ 16) (fun q => 16 - q) 0 (Nat.zero_le _) (le0 (le_of_cov ⟨rfl, rfl, rfl, rfl, rfl, trivial⟩ ⟨rfl, rfl, trivial⟩ ⟨rfl, rfl, rfl, rfl⟩)) ?_
        intro q hq
        conv => whnf
        refine bcase_p (fun hq2 => ?_) (fun hq2 => ?_) <;> conv => whnf
        · have hq3 : q + 1 ≤ 16 := by omega
          have hfind := Find_ok g ((q : Int) + 1) hG.tl hG.dl
          rcases hP (q + 1) (by omega) hq3 with ⟨i, hi, e1, e2⟩ | ⟨e1, e2⟩
          · have hA := atF_of hG (p := (q : Int) + 1) (by omega) hi (by rw [e1]; omega)
            have hip := hA.hp
            have hpg := hA.pg
            rw [findF_at hA] at hfind
            repeat (first | (refine bcase_f rfl ?_; conv => whnf) | (refine bcase_t rfl ?_; conv => whnf) | (refine condK_of rfl ?_; conv => whnf) | (refine condK_of (by decide) ?_; conv => whnf) | (refine condK_of (by omega) ?_; conv => whnf) | (refine wrapK_in (w64 (by omega) (by omega)) ?_; conv => whnf))
            refine callX_pure (d := .tup [.int .i64 i, .bool true]) hfind ?_
            conv => whnf
            repeat (first | (refine bcase_f rfl ?_; conv => whnf) | (refine bcase_t rfl ?_; conv => whnf) | (refine condK_of rfl ?_; conv => whnf) | (refine condK_of (by decide) ?_; conv => whnf) | (refine condK_of (by omega) ?_; conv => whnf) | (refine wrapK_in (w64 (by omega) (by omega)) ?_; conv => whnf))
            refine idxK_nat (i := q + 1) (by omega) ?_
            conv => whnf
            refine condK_of rfl ?_
            refine getC_of (pinA_get (by omega)) ?_
            conv => whnf
            have hml : (g.pg.map encP).length = g.pg.length := List.length_map ..
            have hmf : (g.fr.map encF).length = g.fr.length := List.length_map ..
            refine bcase_p (fun hpos => ?_) (fun hpos => ?_) <;> conv => whnf
            · repeat (first | (refine bcase_f rfl ?_; conv => whnf) | (refine bcase_t rfl ?_; conv => whnf) | (refine condK_of rfl ?_; conv => whnf) | (refine condK_of (by decide) ?_; conv => whnf) | (refine condK_of (by omega) ?_; conv => whnf) | (refine wrapK_in (w64 (by omega) (by omega)) ?_; conv => whnf))
              refine bcase_f (by rw [decide_eq_false_iff_not]; omega) ?_
              conv => whnf
              repeat (first | (refine bcase_f rfl ?_; conv => whnf) | (refine bcase_t rfl ?_; conv => whnf) | (refine condK_of rfl ?_; conv => whnf) | (refine condK_of (by decide) ?_; conv => whnf) | (refine condK_of (by omega) ?_; conv => whnf) | (refine wrapK_in (w64 (by omega) (by omega)) ?_; conv => whnf))
              refine idxK_nat (by omega) ?_
              conv => whnf
              refine getRow_of (x := encP g.pg[i]) (by simp [hip]) ?_
              conv => whnf
              repeat (first | (refine bcase_f rfl ?_; conv => whnf) | (refine bcase_t rfl ?_; conv => whnf) | (refine condK_of rfl ?_; conv => whnf) | (refine condK_of (by decide) ?_; conv => whnf) | (refine condK_of (by omega) ?_; conv => whnf) | (refine wrapK_in (w64 (by omega) (by omega)) ?_; conv => whnf))
              refine bcase_f (by rw [hpg]; simp) ?_
              conv => whnf
              repeat (first | (refine bcase_f rfl ?_; conv => whnf) | (refine bcase_t rfl ?_; conv => whnf) | (refine condK_of rfl ?_; conv => whnf) | (refine condK_of (by decide) ?_; conv => whnf) | (refine condK_of (by omega) ?_; conv => whnf) | (refine wrapK_in (w64 (by omega) (by omega)) ?_; conv => whnf))
              refine idxK_nat (by omega) ?_
              conv => whnf
              refine getRow_of (x := encF g.fr[i]) (by simp [hi]) ?_
              conv => whnf
              repeat (first | (refine bcase_f rfl ?_; conv => whnf) | (refine bcase_t rfl ?_; conv => whnf) | (refine condK_of rfl ?_; conv => whnf) | (refine condK_of (by decide) ?_; conv => whnf) | (refine condK_of (by omega) ?_; conv => whnf) | (refine wrapK_in (w64 (by omega) (by omega)) ?_; conv => whnf))
              refine idxK_nat (i := q + 1) (by omega) ?_
              conv => whnf
              refine condK_of rfl ?_
              refine getC_of (pinA_get (by omega)) ?_
              conv => whnf
              repeat (first | (refine bcase_f rfl ?_; conv => whnf) | (refine bcase_t rfl ?_; conv => whnf) | (refine condK_of rfl ?_; conv => whnf) | (refine condK_of (by decide) ?_; conv => whnf) | (refine condK_of (by omega) ?_; conv => whnf) | (refine wrapK_in (w64 (by omega) (by omega)) ?_; conv => whnf))
              refine bcase_f (by rw [e2]; simp) ?_
              conv => whnf
              repeat (first | (refine bcase_f rfl ?_; conv => whnf) | (refine bcase_t rfl ?_; conv => whnf) | (refine condK_of rfl ?_; conv => whnf) | (refine condK_of (by decide) ?_; conv => whnf) | (refine condK_of (by omega) ?_; conv => whnf) | (refine wrapK_in (w64 (by omega) (by omega)) ?_; conv => whnf))
              exact ⟨q + 1, hq3, by omega, (le0 (le_of_cov ⟨rfl, rfl, rfl, rfl, rfl, trivial⟩ ⟨rfl, rfl, trivial⟩ ⟨rfl, rfl, rfl, rfl⟩))⟩
            · repeat (first | (refine bcase_f rfl ?_; conv => whnf) | (refine bcase_t rfl ?_; conv => whnf) | (refine condK_of rfl ?_; conv => whnf) | (refine condK_of (by decide) ?_; conv => whnf) | (refine condK_of (by omega) ?_; conv => whnf) | (refine wrapK_in (w64 (by omega) (by omega)) ?_; conv => whnf))
              refine bcase_f (by rw [decide_eq_false_iff_not]; omega) ?_
              conv => whnf
              repeat (first | (refine bcase_f rfl ?_; conv => whnf) | (refine bcase_t rfl ?_; conv => whnf) | (refine condK_of rfl ?_; conv => whnf) | (refine condK_of (by decide) ?_; conv => whnf) | (refine condK_of (by omega) ?_; conv => whnf) | (refine wrapK_in (w64 (by omega) (by omega)) ?_; conv => whnf))
              refine idxK_nat (by omega) ?_
              conv => whnf
              refine getRow_of (x := encP g.pg[i]) (by simp [hip]) ?_
              conv => whnf
              repeat (first | (refine bcase_f rfl ?_; conv => whnf) | (refine bcase_t rfl ?_; conv => whnf) | (refine condK_of rfl ?_; conv => whnf) | (refine condK_of (by decide) ?_; conv => whnf) | (refine condK_of (by omega) ?_; conv => whnf) | (refine wrapK_in (w64 (by omega) (by omega)) ?_; conv => whnf))
              refine bcase_f (by rw [hpg]; simp) ?_
              conv => whnf
              repeat (first | (refine bcase_f rfl ?_; conv => whnf) | (refine bcase_t rfl ?_; conv => whnf) | (refine condK_of rfl ?_; conv => whnf) | (refine condK_of (by decide) ?_; conv => whnf) | (refine condK_of (by omega) ?_; conv => whnf) | (refine wrapK_in (w64 (by omega) (by omega)) ?_; conv => whnf))
              refine idxK_nat (by omega) ?_
              conv => whnf
              refine getRow_of (x := encF g.fr[i]) (by simp [hi]) ?_
              conv => whnf
              repeat (first | (refine bcase_f rfl ?_; conv => whnf) | (refine bcase_t rfl ?_; conv => whnf) | (refine condK_of rfl ?_; conv => whnf) | (refine condK_of (by decide) ?_; conv => whnf) | (refine condK_of (by omega) ?_; conv => whnf) | (refine wrapK_in (w64 (by omega) (by omega)) ?_; conv => whnf))
              refine idxK_nat (i := q + 1) (by omega) ?_
              conv => whnf
              refine condK_of rfl ?_
              refine getC_of (pinA_get (by omega)) ?_
              conv => whnf
              repeat (first | (refine bcase_f rfl ?_; conv => whnf) | (refine bcase_t rfl ?_; conv => whnf) | (refine condK_of rfl ?_; conv => whnf) | (refine condK_of (by decide) ?_; conv => whnf) | (refine condK_of (by omega) ?_; conv => whnf) | (refine wrapK_in (w64 (by omega) (by omega)) ?_; conv => whnf))
              refine bcase_f (by rw [e2]; simp) ?_
              conv => whnf
              repeat (first | (refine bcase_f rfl ?_; conv => whnf) | (refine bcase_t rfl ?_; conv => whnf) | (refine condK_of rfl ?_; conv => whnf) | (refine condK_of (by decide) ?_; conv => whnf) | (refine condK_of (by omega) ?_; conv => whnf) | (refine wrapK_in (w64 (by omega) (by omega)) ?_; conv => whnf))
              exact ⟨q + 1, hq3, by omega, (le0 (le_of_cov ⟨rfl, rfl, rfl, rfl, rfl, trivial⟩ ⟨rfl, rfl, trivial⟩ ⟨rfl, rfl, rfl, rfl⟩))⟩
          · rw [findF_no (p := (q : Int) + 1) hG (fun i hi e3 => e1 i hi (by rw [e3]; omega)) (by omega)] at hfind
            repeat (first | (refine bcase_f rfl ?_; conv => whnf) | (refine bcase_t rfl ?_; conv => whnf) | (refine condK_of rfl ?_; conv => whnf) | (refine condK_of (by decide) ?_; conv => whnf) | (refine condK_of (by omega) ?_; conv => whnf) | (refine wrapK_in (w64 (by omega) (by omega)) ?_; conv => whnf))
            refine callX_pure (d := .tup [.int .i64 0, .bool false]) hfind ?_
            conv => whnf
            repeat (first | (refine bcase_f rfl ?_; conv => whnf) | (refine bcase_t rfl ?_; conv => whnf) | (refine condK_of rfl ?_; conv => whnf) | (refine condK_of (by decide) ?_; conv => whnf) | (refine condK_of (by omega) ?_; conv => whnf) | (refine wrapK_in (w64 (by omega) (by omega)) ?_; conv => whnf))
            refine idxK_nat (i := q + 1) (by omega) ?_
            conv => whnf
            refine condK_of rfl ?_
            refine getC_of (pinA_get (by omega)) ?_
            conv => whnf
            refine bcase_f (by rw [e2]; decide) ?_
            conv => whnf
            repeat (first | (refine bcase_f rfl ?_; conv => whnf) | (refine bcase_t rfl ?_; conv => whnf) | (refine condK_of rfl ?_; conv => whnf) | (refine condK_of (by decide) ?_; conv => whnf) | (refine condK_of (by omega) ?_; conv => whnf) | (refine wrapK_in (w64 (by omega) (by omega)) ?_; conv => whnf))
            exact ⟨q + 1, hq3, by omega, (le0 (le_of_cov ⟨rfl, rfl, rfl, rfl, rfl, trivial⟩ ⟨rfl, rfl, trivial⟩ ⟨rfl, rfl, rfl, rfl⟩))⟩
        repeat (first | (refine bcase_f rfl ?_; conv => whnf) | (refine bcase_t rfl ?_; conv => whnf) | (refine condK_of rfl ?_; conv => whnf) | (refine condK_of (by decide) ?_; conv => whnf) | (refine condK_of (by omega) ?_; conv => whnf) | (refine wrapK_in (w64 (by omega) (by omega)) ?_; conv => whnf))
        exact ⟨(k + 1, g, w), ⟨by simp only []; omega, hG, hP⟩, by simp only []; omega, (le0 (le_of_cov ⟨rfl, rfl, rfl, rfl, trivial⟩ ⟨rfl, rfl, trivial⟩ ⟨rfl, rfl, rfl, rfl⟩))⟩
      subst he
      refine callX_pure hdo ?_
      conv => whnf
      repeat (first | (refine bcase_f rfl ?_; conv => whnf) | (refine bcase_t rfl ?_; conv => whnf) | (refine condK_of rfl ?_; conv => whnf) | (refine condK_of (by decide) ?_; conv => whnf) | (refine condK_of (by omega) ?_; conv => whnf) | (refine wrapK_in (w64 (by omega) (by omega)) ?_; conv => whnf))
      by_cases k1 : a.kind = 1
      · obtain ⟨d1, d2, d3, d4⟩ := hid rfl (.inl k1)
        rw [show nextW w a 0 = setW w a.id (w a.id.toNat + 1) from by rw [nextW, if_neg (by decide), if_pos k1]] at hP
        refine bcase_t (by simpa using d1) ?_
        conv => whnf
        repeat (first | (refine bcase_f rfl ?_; conv => whnf) | (refine bcase_t rfl ?_; conv => whnf) | (refine condK_of rfl ?_; conv => whnf) | (refine condK_of (by decide) ?_; conv => whnf) | (refine condK_of (by omega) ?_; conv => whnf) | (refine wrapK_in (w64 (by omega) (by omega)) ?_; conv => whnf))
        refine bcase_t (by simpa using d2) ?_
        conv => whnf
        repeat (first | (refine bcase_f rfl ?_; conv => whnf) | (refine bcase_t rfl ?_; conv => whnf) | (refine condK_of rfl ?_; conv => whnf) | (refine condK_of (by decide) ?_; conv => whnf) | (refine condK_of (by omega) ?_; conv => whnf) | (refine wrapK_in (w64 (by omega) (by omega)) ?_; conv => whnf))
        refine bcase_t (by simpa using k1) ?_
        conv => whnf
        repeat (first | (refine bcase_f rfl ?_; conv => whnf) | (refine bcase_t rfl ?_; conv => whnf) | (refine condK_of rfl ?_; conv => whnf) | (refine condK_of (by decide) ?_; conv => whnf) | (refine condK_of (by omega) ?_; conv => whnf) | (refine wrapK_in (w64 (by omega) (by omega)) ?_; conv => whnf))
        have hz : a.id = (a.id.toNat : Int) := by omega
        refine idxK_int (by omega) (by omega) ?_
        conv => whnf
        refine condK_of rfl ?_
        simp only [killC_pinA]
        refine getC_of (pinA_get (by omega)) ?_
        conv => whnf
        repeat (first | (refine bcase_f rfl ?_; conv => whnf) | (refine bcase_t rfl ?_; conv => whnf) | (refine condK_of rfl ?_; conv => whnf) | (refine condK_of (by decide) ?_; conv => whnf) | (refine condK_of (by omega) ?_; conv => whnf) | (refine wrapK_in (w64 (by omega) (by omega)) ?_; conv => whnf))
        refine idxK_int (by omega) (by omega) ?_
        conv => whnf
        refine condK_of rfl ?_
        simp only [killC_pinA]
        refine bif_of rfl (bif_of rfl (bif_of (by rw [Nat.ble_eq, pinA_len, show (T 3).size = 1 from rfl]; omega) ?_))
        rw [show 0 + a.id.toNat * (T 3).size = a.id.toNat from by rw [show (T 3).size = 1 from rfl]; omega]
        conv => whnf
        repeat (first | (refine bcase_f rfl ?_; conv => whnf) | (refine bcase_t rfl ?_; conv => whnf) | (refine condK_of rfl ?_; conv => whnf) | (refine condK_of (by decide) ?_; conv => whnf) | (refine condK_of (by omega) ?_; conv => whnf) | (refine wrapK_in (w64 (by omega) (by omega)) ?_; conv => whnf))
        refine bcase_f (by simp; omega) ?_
        conv => whnf
        repeat (first | (refine bcase_f rfl ?_; conv => whnf) | (refine bcase_t rfl ?_; conv => whnf) | (refine condK_of rfl ?_; conv => whnf) | (refine condK_of (by decide) ?_; conv => whnf) | (refine condK_of (by omega) ?_; conv => whnf) | (refine wrapK_in (w64 (by omega) (by omega)) ?_; conv => whnf))
        refine callX_pure (fmRight_ok hG) ?_
        conv => whnf
        repeat (first | (refine bcase_f rfl ?_; conv => whnf) | (refine bcase_t rfl ?_; conv => whnf) | (refine condK_of rfl ?_; conv => whnf) | (refine condK_of (by decide) ?_; conv => whnf) | (refine condK_of (by omega) ?_; conv => whnf) | (refine wrapK_in (w64 (by omega) (by omega)) ?_; conv => whnf))
        refine aloop (ι := Nat) (fun q => [(1, .d (.lst (acts.map encA))), (5, .ptr 5 0 0), (7, .ptr 7 0 0), (8, .d (.int .i64 k)), (12, .d (.int .i64 ((q : Int) + 1)))]) (fun q => [(5, .box g.box false), (7, .box (pinA (setW w a.id (w a.id.toNat + 1))) false)])
          (fun q => q ≤ 16) (fun q => 16 - q) 0 (Nat.zero_le _) (le0 (le_of_cov ⟨rfl, rfl, rfl, rfl, rfl, trivial⟩ ⟨rfl, (by rw [← pinA_set hz]; rfl), trivial⟩ ⟨rfl, rfl, rfl, rfl⟩)) ?_
        intro q hq
        conv => whnf
        refine bcase_p (fun hq2 => ?_) (fun hq2 => ?_) <;> conv => whnf
        · have hq3 : q + 1 ≤ 16 := by omega
          have hfind := Find_ok g ((q : Int) + 1) hG.tl hG.dl
          rcases hP (q + 1) (by omega) hq3 with ⟨i, hi, e1, e2⟩ | ⟨e1, e2⟩
          · have hA := atF_of hG (p := (q : Int) + 1) (by omega) hi (by rw [e1]; omega)
            have hip := hA.hp
            have hpg := hA.pg
            rw [findF_at hA] at hfind
            repeat (first | (refine bcase_f rfl ?_; conv => whnf) | (refine bcase_t rfl ?_; conv => whnf) | (refine condK_of rfl ?_; conv => whnf) | (refine condK_of (by decide) ?_; conv => whnf) | (refine condK_of (by omega) ?_; conv => whnf) | (refine wrapK_in (w64 (by omega) (by omega)) ?_; conv => whnf))
            refine callX_pure (d := .tup [.int .i64 i, .bool true]) hfind ?_
            conv => whnf
            repeat (first | (refine bcase_f rfl ?_; conv => whnf) | (refine bcase_t rfl ?_; conv => whnf) | (refine condK_of rfl ?_; conv => whnf) | (refine condK_of (by decide) ?_; conv => whnf) | (refine condK_of (by omega) ?_; conv => whnf) | (refine wrapK_in (w64 (by omega) (by omega)) ?_; conv => whnf))
            refine idxK_nat (i := q + 1) (by omega) ?_
            conv => whnf
            refine condK_of rfl ?_
            refine getC_of (pinA_get (by omega)) ?_
            conv => whnf
            have hml : (g.pg.map encP).length = g.pg.length := List.length_map ..
            have hmf : (g.fr.map encF).length = g.fr.length := List.length_map ..
            refine bcase_p (fun hpos => ?_) (fun hpos => ?_) <;> conv => whnf
            · repeat (first | (refine bcase_f rfl ?_; conv => whnf) | (refine bcase_t rfl ?_; conv => whnf) | (refine condK_of rfl ?_; conv => whnf) | (refine condK_of (by decide) ?_; conv => whnf) | (refine condK_of (by omega) ?_; conv => whnf) | (refine wrapK_in (w64 (by omega) (by omega)) ?_; conv => whnf))
              refine bcase_f (by rw [decide_eq_false_iff_not]; omega) ?_
              conv => whnf
              repeat (first | (refine bcase_f rfl ?_; conv => whnf) | (refine bcase_t rfl ?_; conv => whnf) | (refine condK_of rfl ?_; conv => whnf) | (refine condK_of (by decide) ?_; conv => whnf) | (refine condK_of (by omega) ?_; conv => whnf) | (refine wrapK_in (w64 (by omega) (by omega)) ?_; conv => whnf))
              refine idxK_nat (by omega) ?_
              conv => whnf
              refine getRow_of (x := encP g.pg[i]) (by simp [hip]) ?_
              conv => whnf
              repeat (first | (refine bcase_f rfl ?_; conv => whnf) | (refine bcase_t rfl ?_; conv => whnf) | (refine condK_of rfl ?_; conv => whnf) | (refine condK_of (by decide) ?_; conv => whnf) | (refine condK_of (by omega) ?_; conv => whnf) | (refine wrapK_in (w64 (by omega) (by omega)) ?_; conv => whnf))
              refine bcase_f (by rw [hpg]; simp) ?_
              conv => whnf
              repeat (first | (refine bcase_f rfl ?_; conv => whnf) | (refine bcase_t rfl ?_; conv => whnf) | (refine condK_of rfl ?_; conv => whnf) | (refine condK_of (by decide) ?_; conv => whnf) | (refine condK_of (by omega) ?_; conv => whnf) | (refine wrapK_in (w64 (by omega) (by omega)) ?_; conv => whnf))
              refine idxK_nat (by omega) ?_
              conv => whnf
              refine getRow_of (x := encF g.fr[i]) (by simp [hi]) ?_
              conv => whnf
              repeat (first | (refine bcase_f rfl ?_; conv => whnf) | (refine bcase_t rfl ?_; conv => whnf) | (refine condK_of rfl ?_; conv => whnf) | (refine condK_of (by decide) ?_; conv => whnf) | (refine condK_of (by omega) ?_; conv => whnf) | (refine wrapK_in (w64 (by omega) (by omega)) ?_; conv => whnf))
              refine idxK_nat (i := q + 1) (by omega) ?_
              conv => whnf
              refine condK_of rfl ?_
              refine getC_of (pinA_get (by omega)) ?_
              conv => whnf
              repeat (first | (refine bcase_f rfl ?_; conv => whnf) | (refine bcase_t rfl ?_; conv => whnf) | (refine condK_of rfl ?_; conv => whnf) | (refine condK_of (by decide) ?_; conv => whnf) | (refine condK_of (by omega) ?_; conv => whnf) | (refine wrapK_in (w64 (by omega) (by omega)) ?_; conv => whnf))
              refine bcase_f (by rw [e2]; simp) ?_
              conv => whnf
              repeat (first | (refine bcase_f rfl ?_; conv => whnf) | (refine bcase_t rfl ?_; conv => whnf) | (refine condK_of rfl ?_; conv => whnf) | (refine condK_of (by decide) ?_; conv => whnf) | (refine condK_of (by omega) ?_; conv => whnf) | (refine wrapK_in (w64 (by omega) (by omega)) ?_; conv => whnf))
              exact ⟨q + 1, hq3, by omega, (le0 (le_of_cov ⟨rfl, rfl, rfl, rfl, rfl, trivial⟩ ⟨rfl, rfl, trivial⟩ ⟨rfl, rfl, rfl, rfl⟩))⟩
            · repeat (first | (refine bcase_f rfl ?_; conv => whnf) | (refine bcase_t rfl ?_; conv => whnf) | (refine condK_of rfl ?_; conv => whnf) | (refine condK_of (by decide) ?_; conv => whnf) | (refine condK_of (by omega) ?_; conv => whnf) | (refine wrapK_in (w64 (by omega) (by omega)) ?_; conv => whnf))
              refine bcase_f (by rw [decide_eq_false_iff_not]; omega) ?_
              conv => whnf
              repeat (first | (refine bcase_f rfl ?_; conv => whnf) | (refine bcase_t rfl ?_; conv => whnf) | (refine condK_of rfl ?_; conv => whnf) | (refine condK_of (by decide) ?_; conv => whnf) | (refine condK_of (by omega) ?_; conv => whnf) | (refine wrapK_in (w64 (by omega) (by omega)) ?_; conv => whnf))
              refine idxK_nat (by omega) ?_
              conv => whnf
              refine getRow_of (x := encP g.pg[i]) (by simp [hip]) ?_
              conv => whnf
              repeat (first | (refine bcase_f rfl ?_; conv => whnf) | (refine bcase_t rfl ?_; conv => whnf) | (refine condK_of rfl ?_; conv => whnf) | (refine condK_of (by decide) ?_; conv => whnf) | (refine condK_of (by omega) ?_; conv => whnf) | (refine wrapK_in (w64 (by omega) (by omega)) ?_; conv => whnf))
              refine bcase_f (by rw [hpg]; simp) ?_
              conv => whnf
              repeat (first | (refine bcase_f rfl ?_; conv => whnf) | (refine bcase_t rfl ?_; conv => whnf) | (refine condK_of rfl ?_; conv => whnf) | (refine condK_of (by decide) ?_; conv => whnf) | (refine condK_of (by omega) ?_; conv => whnf) | (refine wrapK_in (w64 (by omega) (by omega)) ?_; conv => whnf))
              refine idxK_nat (by omega) ?_
              conv => whnf
              refine getRow_of (x := encF g.fr[i]) (by simp [hi]) ?_
              conv => whnf
              repeat (first | (refine bcase_f rfl ?_; conv => whnf) | (refine bcase_t rfl ?_; conv => whnf) | (refine condK_of rfl ?_; conv => whnf) | (refine condK_of (by decide) ?_; conv => whnf) | (refine condK_of (by omega) ?_; conv => whnf) | (refine wrapK_in (w64 (by omega) (by omega)) ?_; conv => whnf))
              refine idxK_nat (i := q + 1) (by omega) ?_
              conv => whnf
              refine condK_of rfl ?_
              refine getC_of (pinA_get (by omega)) ?_
              conv => whnf
              repeat (first | (refine bcase_f rfl ?_; conv => whnf) | (refine bcase_t rfl ?_; conv => whnf) | (refine condK_of rfl ?_; conv => whnf) | (refine condK_of (by decide) ?_; conv => whnf) | (refine condK_of (by omega) ?_; conv => whnf) | (refine wrapK_in (w64 (by omega) (by omega)) ?_; conv => whnf))
              refine bcase_f (by rw [e2]; simp) ?_
              conv => whnf
              repeat (first | (refine bcase_f rfl ?_; conv => whnf) | (refine bcase_t rfl ?_; conv => whnf) | (refine condK_of rfl ?_; conv => whnf) | (refine condK_of (by decide) ?_; conv => whnf) | (refine condK_of (by omega) ?_; conv => whnf) | (refine wrapK_in (w64 (by omega) (by omega)) ?_; conv => whnf))
              exact ⟨q + 1, hq3, by omega, (le0 (le_of_cov ⟨rfl, rfl, rfl, rfl, rfl, trivial⟩ ⟨rfl, rfl, trivial⟩ ⟨rfl, rfl, rfl, rfl⟩))⟩
          · rw [findF_no (p := (q : Int) + 1) hG (fun i hi e3 => e1 i hi (by rw [e3]; omega)) (by omega)] at hfind
            repeat (first | (refine bcase_f rfl ?_; conv => whnf) | (refine bcase_t rfl ?_; conv => whnf) | (refine condK_of rfl ?_; conv => whnf) | (refine condK_of (by decide) ?_; conv => whnf) | (refine condK_of (by omega) ?_; conv => whnf) | (refine wrapK_in (w64 (by omega) (by omega)) ?_; conv => whnf))
            refine callX_pure (d := .tup [.int .i64 0, .bool false]) hfind ?_
            conv => whnf
            repeat (first | (refine bcase_f rfl ?_; conv => whnf) | (refine bcase_t rfl ?_; conv => whnf) | (refine condK_of rfl ?_; conv => whnf) | (refine condK_of (by decide) ?_; conv => whnf) | (refine condK_of (by omega) ?_; conv => whnf) | (refine wrapK_in (w64 (by omega) (by omega)) ?_; conv => whnf))
            refine idxK_nat (i := q + 1) (by omega) ?_
            conv => whnf
            refine condK_of rfl ?_
            refine getC_of (pinA_get (by omega)) ?_
            conv => whnf
            refine bcase_f (by rw [e2]; decide) ?_
            conv => whnf
            repeat (first | (refine bcase_f rfl ?_; conv => whnf) | (refine bcase_t rfl ?_; conv => whnf) | (refine condK_of rfl ?_; conv => whnf) | (refine condK_of (by decide) ?_; conv => whnf) | (refine condK_of (by omega) ?_; conv => whnf) | (refine wrapK_in (w64 (by omega) (by omega)) ?_; conv => whnf))
            exact ⟨q + 1, hq3, by omega, (le0 (le_of_cov ⟨rfl, rfl, rfl, rfl, rfl, trivial⟩ ⟨rfl, rfl, trivial⟩ ⟨rfl, rfl, rfl, rfl⟩))⟩
        repeat (first | (refine bcase_f rfl ?_; conv => whnf) | (refine bcase_t rfl ?_; conv => whnf) | (refine condK_of rfl ?_; conv => whnf) | (refine condK_of (by decide) ?_; conv => whnf) | (refine condK_of (by omega) ?_; conv => whnf) | (refine wrapK_in (w64 (by omega) (by omega)) ?_; conv => whnf))
        exact ⟨(k + 1, g, (setW w a.id (w a.id.toNat + 1))), ⟨by simp only []; omega, hG, hP⟩, by simp only []; omega, (le0 (le_of_cov ⟨rfl, rfl, rfl, rfl, trivial⟩ ⟨rfl, rfl, trivial⟩ ⟨rfl, rfl, rfl, rfl⟩))⟩
      by_cases k2 : a.kind = 2
      · obtain ⟨d1, d2, d3, d4⟩ := hid rfl (.inr k2)
        rw [show nextW w a 0 = setW w a.id (w a.id.toNat - 1) from by rw [nextW, if_neg (by decide), if_neg k1, if_pos k2]] at hP
        refine bcase_t (by simpa using d1) ?_
        conv => whnf
        repeat (first | (refine bcase_f rfl ?_; conv => whnf) | (refine bcase_t rfl ?_; conv => whnf) | (refine condK_of rfl ?_; conv => whnf) | (refine condK_of (by decide) ?_; conv => whnf) | (refine condK_of (by omega) ?_; conv => whnf) | (refine wrapK_in (w64 (by omega) (by omega)) ?_; conv => whnf))
        refine bcase_t (by simpa using d2) ?_
        conv => whnf
        repeat (first | (refine bcase_f rfl ?_; conv => whnf) | (refine bcase_t rfl ?_; conv => whnf) | (refine condK_of rfl ?_; conv => whnf) | (refine condK_of (by decide) ?_; conv => whnf) | (refine condK_of (by omega) ?_; conv => whnf) | (refine wrapK_in (w64 (by omega) (by omega)) ?_; conv => whnf))
        refine bcase_f (by simpa using k1) ?_
        conv => whnf
        repeat (first | (refine bcase_f rfl ?_; conv => whnf) | (refine bcase_t rfl ?_; conv => whnf) | (refine condK_of rfl ?_; conv => whnf) | (refine condK_of (by decide) ?_; conv => whnf) | (refine condK_of (by omega) ?_; conv => whnf) | (refine wrapK_in (w64 (by omega) (by omega)) ?_; conv => whnf))
        refine bcase_t (by simpa using k2) ?_
        conv => whnf
        repeat (first | (refine bcase_f rfl ?_; conv => whnf) | (refine bcase_t rfl ?_; conv => whnf) | (refine condK_of rfl ?_; conv => whnf) | (refine condK_of (by decide) ?_; conv => whnf) | (refine condK_of (by omega) ?_; conv => whnf) | (refine wrapK_in (w64 (by omega) (by omega)) ?_; conv => whnf))
        have hz : a.id = (a.id.toNat : Int) := by omega
        refine idxK_int (by omega) (by omega) ?_
        conv => whnf
        refine condK_of rfl ?_
        simp only [killC_pinA]
        refine getC_of (pinA_get (by omega)) ?_
        conv => whnf
        repeat (first | (refine bcase_f rfl ?_; conv => whnf) | (refine bcase_t rfl ?_; conv => whnf) | (refine condK_of rfl ?_; conv => whnf) | (refine condK_of (by decide) ?_; conv => whnf) | (refine condK_of (by omega) ?_; conv => whnf) | (refine wrapK_in (w64 (by omega) (by omega)) ?_; conv => whnf))
        refine idxK_int (by omega) (by omega) ?_
        conv => whnf
        refine condK_of rfl ?_
        simp only [killC_pinA]
        refine bif_of rfl (bif_of rfl (bif_of (by rw [Nat.ble_eq, pinA_len, show (T 3).size = 1 from rfl]; omega) ?_))
        rw [show 0 + a.id.toNat * (T 3).size = a.id.toNat from by rw [show (T 3).size = 1 from rfl]; omega]
        conv => whnf
        repeat (first | (refine bcase_f rfl ?_; conv => whnf) | (refine bcase_t rfl ?_; conv => whnf) | (refine condK_of rfl ?_; conv => whnf) | (refine condK_of (by decide) ?_; conv => whnf) | (refine condK_of (by omega) ?_; conv => whnf) | (refine wrapK_in (w64 (by omega) (by omega)) ?_; conv => whnf))
        refine bcase_f (by simp; omega) ?_
        conv => whnf
        repeat (first | (refine bcase_f rfl ?_; conv => whnf) | (refine bcase_t rfl ?_; conv => whnf) | (refine condK_of rfl ?_; conv => whnf) | (refine condK_of (by decide) ?_; conv => whnf) | (refine condK_of (by omega) ?_; conv => whnf) | (refine wrapK_in (w64 (by omega) (by omega)) ?_; conv => whnf))
        refine callX_pure (fmRight_ok hG) ?_
        conv => whnf
        repeat (first | (refine bcase_f rfl ?_; conv => whnf) | (refine bcase_t rfl ?_; conv => whnf) | (refine condK_of rfl ?_; conv => whnf) | (refine condK_of (by decide) ?_; conv => whnf) | (refine condK_of (by omega) ?_; conv => whnf) | (refine wrapK_in (w64 (by omega) (by omega)) ?_; conv => whnf))
        refine aloop (ι := Nat) (fun q => [(1, .d (.lst (acts.map encA))), (5, .ptr 5 0 0), (7, .ptr 7 0 0), (8, .d (.int .i64 k)), (12, .d (.int .i64 ((q : Int) + 1)))]) (fun q => [(5, .box g.box false), (7, .box (pinA (setW w a.id (w a.id.toNat - 1))) false)])
          (fun q => q ≤ 16) (fun q => 16 - q) 0 (Nat.zero_le _) (le0 (le_of_cov ⟨rfl, rfl, rfl, rfl, rfl, trivial⟩ ⟨rfl, (by rw [← pinA_set hz]; rfl), trivial⟩ ⟨rfl, rfl, rfl, rfl⟩)) ?_
        intro q hq
        conv => whnf
        refine bcase_p (fun hq2 => ?_) (fun hq2 => ?_) <;> conv => whnf
        · have hq3 : q + 1 ≤ 16 := by omega
          have hfind := Find_ok g ((q : Int) + 1) hG.tl hG.dl
          rcases hP (q + 1) (by omega) hq3 with ⟨i, hi, e1, e2⟩ | ⟨e1, e2⟩
          · have hA := atF_of hG (p := (q : Int) + 1) (by omega) hi (by rw [e1]; omega)
            have hip := hA.hp
            have hpg := hA.pg
            rw [findF_at hA] at hfind
            repeat (first | (refine bcase_f rfl ?_; conv => whnf) | (refine bcase_t rfl ?_; conv => whnf) | (refine condK_of rfl ?_; conv => whnf) | (refine condK_of (by decide) ?_; conv => whnf) | (refine condK_of (by omega) ?_; conv => whnf) | (refine wrapK_in (w64 (by omega) (by omega)) ?_; conv => whnf))
            refine callX_pure (d := .tup [.int .i64 i, .bool true]) hfind ?_
            conv => whnf
            repeat (first | (refine bcase_f rfl ?_; conv => whnf) | (refine bcase_t rfl ?_; conv => whnf) | (refine condK_of rfl ?_; conv => whnf) | (refine condK_of (by decide) ?_; conv => whnf) | (refine condK_of (by omega) ?_; conv => whnf) | (refine wrapK_in (w64 (by omega) (by omega)) ?_; conv => whnf))
            refine idxK_nat (i := q + 1) (by omega) ?_
            conv => whnf
            refine condK_of rfl ?_
            refine getC_of (pinA_get (by omega)) ?_
            conv => whnf
            have hml : (g.pg.map encP).length = g.pg.length := List.length_map ..
            have hmf : (g.fr.map encF).length = g.fr.length := List.length_map ..
            refine bcase_p (fun hpos => ?_) (fun hpos => ?_) <;> conv => whnf
            · repeat (first | (refine bcase_f rfl ?_; conv => whnf) | (refine bcase_t rfl ?_; conv => whnf) | (refine condK_of rfl ?_; conv => whnf) | (refine condK_of (by decide) ?_; conv => whnf) | (refine condK_of (by omega) ?_; conv => whnf) | (refine wrapK_in (w64 (by omega) (by omega)) ?_; conv => whnf))
              refine bcase_f (by rw [decide_eq_false_iff_not]; omega) ?_
              conv => whnf
              repeat (first | (refine bcase_f rfl ?_; conv => whnf) | (refine bcase_t rfl ?_; conv => whnf) | (refine condK_of rfl ?_; conv => whnf) | (refine condK_of (by decide) ?_; conv => whnf) | (refine condK_of (by omega) ?_; conv => whnf) | (refine wrapK_in (w64 (by omega) (by omega)) ?_; conv => whnf))
              refine idxK_nat (by omega) ?_
              conv => whnf
              refine getRow_of (x := encP g.pg[i]) (by simp [hip]) ?_
              conv => whnf
              repeat (first | (refine bcase_f rfl ?_; conv => whnf) | (refine bcase_t rfl ?_; conv => whnf) | (refine condK_of rfl ?_; conv => whnf) | (refine condK_of (by decide) ?_; conv => whnf) | (refine condK_of (by omega) ?_; conv => whnf) | (refine wrapK_in (w64 (by omega) (by omega)) ?_; conv => whnf))
              refine bcase_f (by rw [hpg]; simp) ?_
              conv => whnf
              repeat (first | (refine bcase_f rfl ?_; conv => whnf) | (refine bcase_t rfl ?_; conv => whnf) | (refine condK_of rfl ?_; conv => whnf) | (refine condK_of (by decide) ?_; conv => whnf) | (refine condK_of (by omega) ?_; conv => whnf) | (refine wrapK_in (w64 (by omega) (by omega)) ?_; conv => whnf))
              refine idxK_nat (by omega) ?_
              conv => whnf
              refine getRow_of (x := encF g.fr[i]) (by simp [hi]) ?_
              conv => whnf
              repeat (first | (refine bcase_f rfl ?_; conv => whnf) | (refine bcase_t rfl ?_; conv => whnf) | (refine condK_of rfl ?_; conv => whnf) | (refine condK_of (by decide) ?_; conv => whnf) | (refine condK_of (by omega) ?_; conv => whnf) | (refine wrapK_in (w64 (by omega) (by omega)) ?_; conv => whnf))
              refine idxK_nat (i := q + 1) (by omega) ?_
              conv => whnf
              refine condK_of rfl ?_
              refine getC_of (pinA_get (by omega)) ?_
              conv => whnf
              repeat (first | (refine bcase_f rfl ?_; conv => whnf) | (refine bcase_t rfl ?_; conv => whnf) | (refine condK_of rfl ?_; conv => whnf) | (refine condK_of (by decide) ?_; conv => whnf) | (refine condK_of (by omega) ?_; conv => whnf) | (refine wrapK_in (w64 (by omega) (by omega)) ?_; conv => whnf))
              refine bcase_f (by rw [e2]; simp) ?_
              conv => whnf
              repeat (first | (refine bcase_f rfl ?_; conv => whnf) | (refine bcase_t rfl ?_; conv => whnf) | (refine condK_of rfl ?_; conv => whnf) | (refine condK_of (by decide) ?_; conv => whnf) | (refine condK_of (by omega) ?_; conv => whnf) | (refine wrapK_in (w64 (by omega) (by omega)) ?_; conv => whnf))
              exact ⟨q + 1, hq3, by omega, (le0 (le_of_cov ⟨rfl, rfl, rfl, rfl, rfl, trivial⟩ ⟨rfl, rfl, trivial⟩ ⟨rfl, rfl, rfl, rfl⟩))⟩
            · repeat (first | (refine bcase_f rfl ?_; conv => whnf) | (refine bcase_t rfl ?_; conv => whnf) | (refine condK_of rfl ?_; conv => whnf) | (refine condK_of (by decide) ?_; conv => whnf) | (refine condK_of (by omega) ?_; conv => whnf) | (refine wrapK_in (w64 (by omega) (by omega)) ?_; conv => whnf))
              refine bcase_f (by rw [decide_eq_false_iff_not]; omega) ?_
              conv => whnf
              repeat (first | (refine bcase_f rfl ?_; conv => whnf) | (refine bcase_t rfl ?_; conv => whnf) | (refine condK_of rfl ?_; conv => whnf) | (refine condK_of (by decide) ?_; conv => whnf) | (refine condK_of (by omega) ?_; conv => whnf) | (refine wrapK_in (w64 (by omega) (by omega)) ?_; conv => whnf))
              refine idxK_nat (by omega) ?_
              conv => whnf
              refine getRow_of (x := encP g.pg[i]) (by simp [hip]) ?_
              conv => whnf
              repeat (first | (refine bcase_f rfl ?_; conv => whnf) | (refine bcase_t rfl ?_; conv => whnf) | (refine condK_of rfl ?_; conv => whnf) | (refine condK_of (by decide) ?_; conv => whnf) | (refine condK_of (by omega) ?_; conv => whnf) | (refine wrapK_in (w64 (by omega) (by omega)) ?_; conv => whnf))
              refine bcase_f (by rw [hpg]; simp) ?_
              conv => whnf
              repeat (first | (refine bcase_f rfl ?_; conv => whnf) | (refine bcase_t rfl ?_; conv => whnf) | (refine condK_of rfl ?_; conv => whnf) | (refine condK_of (by decide) ?_; conv => whnf) | (refine condK_of (by omega) ?_; conv => whnf) | (refine wrapK_in (w64 (by omega) (by omega)) ?_; conv => whnf))
              refine idxK_nat (by omega) ?_
              conv => whnf
              refine getRow_of (x := encF g.fr[i]) (by simp [hi]) ?_
              conv => whnf
              repeat (first | (refine bcase_f rfl ?_; conv => whnf) | (refine bcase_t rfl ?_; conv => whnf) | (refine condK_of rfl ?_; conv => whnf) | (refine condK_of (by decide) ?_; conv => whnf) | (refine condK_of (by omega) ?_; conv => whnf) | (refine wrapK_in (w64 (by omega) (by omega)) ?_; conv => whnf))
              refine idxK_nat (i := q + 1) (by omega) ?_
              conv => whnf
              refine condK_of rfl ?_
              refine getC_of (pinA_get (by omega)) ?_
              conv => whnf
              repeat (first | (refine bcase_f rfl ?_; conv => whnf) | (refine bcase_t rfl ?_; conv => whnf) | (refine condK_of rfl ?_; conv => whnf) | (refine condK_of (by decide) ?_; conv => whnf) | (refine condK_of (by omega) ?_; conv => whnf) | (refine wrapK_in (w64 (by omega) (by omega)) ?_; conv => whnf))
              refine bcase_f (by rw [e2]; simp) ?_
              conv => whnf
              repeat (first | (refine bcase_f rfl ?_; conv => whnf) | (refine bcase_t rfl ?_; conv => whnf) | (refine condK_of rfl ?_; conv => whnf) | (refine condK_of (by decide) ?_; conv => whnf) | (refine condK_of (by omega) ?_; conv => whnf) | (refine wrapK_in (w64 (by omega) (by omega)) ?_; conv => whnf))
              exact ⟨q + 1, hq3, by omega, (le0 (le_of_cov ⟨rfl, rfl, rfl, rfl, rfl, trivial⟩ ⟨rfl, rfl, trivial⟩ ⟨rfl, rfl, rfl, rfl⟩))⟩
          · rw [findF_no (p := (q : Int) + 1) hG (fun i hi e3 => e1 i hi (by rw [e3]; omega)) (by omega)] at hfind
            repeat (first | (refine bcase_f rfl ?_; conv => whnf) | (refine bcase_t rfl ?_; conv => whnf) | (refine condK_of rfl ?_; conv => whnf) | (refine condK_of (by decide) ?_; conv => whnf) | (refine condK_of (by omega) ?_; conv => whnf) | (refine wrapK_in (w64 (by omega) (by omega)) ?_; conv => whnf))
            refine callX_pure (d := .tup [.int .i64 0, .bool false]) hfind ?_
            conv => whnf
            repeat (first | (refine bcase_f rfl ?_; conv => whnf) | (refine bcase_t rfl ?_; conv => whnf) | (refine condK_of rfl ?_; conv => whnf) | (refine condK_of (by decide) ?_; conv => whnf) | (refine condK_of (by omega) ?_; conv => whnf) | (refine wrapK_in (w64 (by omega) (by omega)) ?_; conv => whnf))
            refine idxK_nat (i := q + 1) (by omega) ?_
            conv => whnf
            refine condK_of rfl ?_
            refine getC_of (pinA_get (by omega)) ?_
            conv => whnf
            refine bcase_f (by rw [e2]; decide) ?_
            conv => whnf
            repeat (first | (refine bcase_f rfl ?_; conv => whnf) | (refine bcase_t rfl ?_; conv => whnf) | (refine condK_of rfl ?_; conv => whnf) | (refine condK_of (by decide) ?_; conv => whnf) | (refine condK_of (by omega) ?_; conv => whnf) | (refine wrapK_in (w64 (by omega) (by omega)) ?_; conv => whnf))
            exact ⟨q + 1, hq3, by omega, (le0 (le_of_cov ⟨rfl, rfl, rfl, rfl, rfl, trivial⟩ ⟨rfl, rfl, trivial⟩ ⟨rfl, rfl, rfl, rfl⟩))⟩
        repeat (first | (refine bcase_f rfl ?_; conv => whnf) | (refine bcase_t rfl ?_; conv => whnf) | (refine condK_of rfl ?_; conv => whnf) | (refine condK_of (by decide) ?_; conv => whnf) | (refine condK_of (by omega) ?_; conv => whnf) | (refine wrapK_in (w64 (by omega) (by omega)) ?_; conv => whnf))
        exact ⟨(k + 1, g, (setW w a.id (w a.id.toNat - 1))), ⟨by simp only []; omega, hG, hP⟩, by simp only []; omega, (le0 (le_of_cov ⟨rfl, rfl, rfl, rfl, trivial⟩ ⟨rfl, rfl, trivial⟩ ⟨rfl, rfl, rfl, rfl⟩))⟩
      by_cases k6 : a.kind = 6
      · obtain ⟨d1, d2⟩ := hpg rfl k6
        rw [show nextW w a 0 = setW w a.p.1 1 from by rw [nextW, if_neg (by decide), if_neg k1, if_neg k2, if_pos k6]] at hP
        have hz : a.p.1 = (a.p.1.toNat : Int) := by omega
        refine bcase_p (fun d3 => ?_) (fun d3 => ?_) <;> conv => whnf
        · repeat (first | (refine bcase_f rfl ?_; conv => whnf) | (refine bcase_t rfl ?_; conv => whnf) | (refine condK_of rfl ?_; conv => whnf) | (refine condK_of (by decide) ?_; conv => whnf) | (refine condK_of (by omega) ?_; conv => whnf) | (refine wrapK_in (w64 (by omega) (by omega)) ?_; conv => whnf))
          refine bcase_p (fun d4 => ?_) (fun d4 => ?_) <;> conv => whnf
          · repeat (first | (refine bcase_f rfl ?_; conv => whnf) | (refine bcase_t rfl ?_; conv => whnf) | (refine condK_of rfl ?_; conv => whnf) | (refine condK_of (by decide) ?_; conv => whnf) | (refine condK_of (by omega) ?_; conv => whnf) | (refine wrapK_in (w64 (by omega) (by omega)) ?_; conv => whnf))
            refine bcase_f (by simpa using k1) ?_
            conv => whnf
            repeat (first | (refine bcase_f rfl ?_; conv => whnf) | (refine bcase_t rfl ?_; conv => whnf) | (refine condK_of rfl ?_; conv => whnf) | (refine condK_of (by decide) ?_; conv => whnf) | (refine condK_of (by omega) ?_; conv => whnf) | (refine wrapK_in (w64 (by omega) (by omega)) ?_; conv => whnf))
            refine bcase_f (by simpa using k2) ?_
            conv => whnf
            repeat (first | (refine bcase_f rfl ?_; conv => whnf) | (refine bcase_t rfl ?_; conv => whnf) | (refine condK_of rfl ?_; conv => whnf) | (refine condK_of (by decide) ?_; conv => whnf) | (refine condK_of (by omega) ?_; conv => whnf) | (refine wrapK_in (w64 (by omega) (by omega)) ?_; conv => whnf))
            refine bcase_t (by simpa using k6) ?_
            conv => whnf
            repeat (first | (refine bcase_f rfl ?_; conv => whnf) | (refine bcase_t rfl ?_; conv => whnf) | (refine condK_of rfl ?_; conv => whnf) | (refine condK_of (by decide) ?_; conv => whnf) | (refine condK_of (by omega) ?_; conv => whnf) | (refine wrapK_in (w64 (by omega) (by omega)) ?_; conv => whnf))
            refine bcase_t (by simpa using d1) ?_
            conv => whnf
            repeat (first | (refine bcase_f rfl ?_; conv => whnf) | (refine bcase_t rfl ?_; conv => whnf) | (refine condK_of rfl ?_; conv => whnf) | (refine condK_of (by decide) ?_; conv => whnf) | (refine condK_of (by omega) ?_; conv => whnf) | (refine wrapK_in (w64 (by omega) (by omega)) ?_; conv => whnf))
            refine bcase_t (by simpa using d2) ?_
            conv => whnf
            repeat (first | (refine bcase_f rfl ?_; conv => whnf) | (refine bcase_t rfl ?_; conv => whnf) | (refine condK_of rfl ?_; conv => whnf) | (refine condK_of (by decide) ?_; conv => whnf) | (refine condK_of (by omega) ?_; conv => whnf) | (refine wrapK_in (w64 (by omega) (by omega)) ?_; conv => whnf))
            refine idxK_int (by omega) (by omega) ?_
            conv => whnf
            refine condK_of rfl ?_
            simp only [killC_pinA]
            refine bif_of rfl (bif_of rfl (bif_of (by rw [Nat.ble_eq, pinA_len, show (T 3).size = 1 from rfl]; omega) ?_))
            rw [show 0 + a.p.1.toNat * (T 3).size = a.p.1.toNat from by rw [show (T 3).size = 1 from rfl]; omega]
            conv => whnf
            repeat (first | (refine bcase_f rfl ?_; conv => whnf) | (refine bcase_t rfl ?_; conv => whnf) | (refine condK_of rfl ?_; conv => whnf) | (refine condK_of (by decide) ?_; conv => whnf) | (refine condK_of (by omega) ?_; conv => whnf) | (refine wrapK_in (w64 (by omega) (by omega)) ?_; conv => whnf))
            refine callX_pure (fmRight_ok hG) ?_
            conv => whnf
            repeat (first | (refine bcase_f rfl ?_; conv => whnf) | (refine bcase_t rfl ?_; conv => whnf) | (refine condK_of rfl ?_; conv => whnf) | (refine condK_of (by decide) ?_; conv => whnf) | (refine condK_of (by omega) ?_; conv => whnf) | (refine wrapK_in (w64 (by omega) (by omega)) ?_; conv => whnf))
            refine aloop (ι := Nat) (fun q => [(1, .d (.lst (acts.map encA))), (5, .ptr 5 0 0), (7, .ptr 7 0 0), (8, .d (.int .i64 k)), (12, .d (.int .i64 ((q : Int) + 1)))]) (fun q => [(5, .box g.box false), (7, .box (pinA (setW w a.p.1 1)) false)])
              (fun q => q ≤ 16) (fun q => 16 - q) 0 (Nat.zero_le _) (le0 (le_of_cov ⟨rfl, rfl, rfl, rfl, rfl, trivial⟩ ⟨rfl, (by rw [← pinA_set hz]; rfl), trivial⟩ ⟨rfl, rfl, rfl, rfl⟩)) ?_
            intro q hq
            conv => whnf
            refine bcase_p (fun hq2 => ?_) (fun hq2 => ?_) <;> conv => whnf
            · have hq3 : q + 1 ≤ 16 := by omega
              have hfind := Find_ok g ((q : Int) + 1) hG.tl hG.dl
              rcases hP (q + 1) (by omega) hq3 with ⟨i, hi, e1, e2⟩ | ⟨e1, e2⟩
              · have hA := atF_of hG (p := (q : Int) + 1) (by omega) hi (by rw [e1]; omega)
                have hip := hA.hp
                have hpg := hA.pg
                rw [findF_at hA] at hfind
                repeat (first | (refine bcase_f rfl ?_; conv => whnf) | (refine bcase_t rfl ?_; conv => whnf) | (refine condK_of rfl ?_; conv => whnf) | (refine condK_of (by decide) ?_; conv => whnf) | (refine condK_of (by omega) ?_; conv => whnf) | (refine wrapK_in (w64 (by omega) (by omega)) ?_; conv => whnf))
                refine callX_pure (d := .tup [.int .i64 i, .bool true]) hfind ?_
                conv => whnf
                repeat (first | (refine bcase_f rfl ?_; conv => whnf) | (refine bcase_t rfl ?_; conv => whnf) | (refine condK_of rfl ?_; conv => whnf) | (refine condK_of (by decide) ?_; conv => whnf) | (refine condK_of (by omega) ?_; conv => whnf) | (refine wrapK_in (w64 (by omega) (by omega)) ?_; conv => whnf))
                refine idxK_nat (i := q + 1) (by omega) ?_
                conv => whnf
                refine condK_of rfl ?_
                refine getC_of (pinA_get (by omega)) ?_
                conv => whnf
                have hml : (g.pg.map encP).length = g.pg.length := List.length_map ..
                have hmf : (g.fr.map encF).length = g.fr.length := List.length_map ..
                refine bcase_p (fun hpos => ?_) (fun hpos => ?_) <;> conv => whnf
                · repeat (first | (refine bcase_f rfl ?_; conv => whnf) | (refine bcase_t rfl ?_; conv => whnf) | (refine condK_of rfl ?_; conv => whnf) | (refine condK_of (by decide) ?_; conv => whnf) | (refine condK_of (by omega) ?_; conv => whnf) | (refine wrapK_in (w64 (by omega) (by omega)) ?_; conv => whnf))
                  refine bcase_f (by rw [decide_eq_false_iff_not]; omega) ?_
                  conv => whnf
                  repeat (first | (refine bcase_f rfl ?_; conv => whnf) | (refine bcase_t rfl ?_; conv => whnf) | (refine condK_of rfl ?_; conv => whnf) | (refine condK_of (by decide) ?_; conv => whnf) | (refine condK_of (by omega) ?_; conv => whnf) | (refine wrapK_in (w64 (by omega) (by omega)) ?_; conv => whnf))
                  refine idxK_nat (by omega) ?_
                  conv => whnf
                  refine getRow_of (x := encP g.pg[i]) (by simp [hip]) ?_
                  conv => whnf
                  repeat (first | (refine bcase_f rfl ?_; conv => whnf) | (refine bcase_t rfl ?_; conv => whnf) | (refine condK_of rfl ?_; conv => whnf) | (refine condK_of (by decide) ?_; conv => whnf) | (refine condK_of (by omega) ?_; conv => whnf) | (refine wrapK_in (w64 (by omega) (by omega)) ?_; conv => whnf))
                  refine bcase_f (by rw [hpg]; simp) ?_
                  conv => whnf
                  repeat (first | (refine bcase_f rfl ?_; conv => whnf) | (refine bcase_t rfl ?_; conv => whnf) | (refine condK_of rfl ?_; conv => whnf) | (refine condK_of (by decide) ?_; conv => whnf) | (refine condK_of (by omega) ?_; conv => whnf) | (refine wrapK_in (w64 (by omega) (by omega)) ?_; conv => whnf))
                  refine idxK_nat (by omega) ?_
                  conv => whnf
                  refine getRow_of (x := encF g.fr[i]) (by simp [hi]) ?_
                  conv => whnf
                  repeat (first | (refine bcase_f rfl ?_; conv => whnf) | (refine bcase_t rfl ?_; conv => whnf) | (refine condK_of rfl ?_; conv => whnf) | (refine condK_of (by decide) ?_; conv => whnf) | (refine condK_of (by omega) ?_; conv => whnf) | (refine wrapK_in (w64 (by omega) (by omega)) ?_; conv => whnf))
                  refine idxK_nat (i := q + 1) (by omega) ?_
                  conv => whnf
                  refine condK_of rfl ?_
                  refine getC_of (pinA_get (by omega)) ?_
                  conv => whnf
                  repeat (first | (refine bcase_f rfl ?_; conv => whnf) | (refine bcase_t rfl ?_; conv => whnf) | (refine condK_of rfl ?_; conv => whnf) | (refine condK_of (by decide) ?_; conv => whnf) | (refine condK_of (by omega) ?_; conv => whnf) | (refine wrapK_in (w64 (by omega) (by omega)) ?_; conv => whnf))
                  refine bcase_f (by rw [e2]; simp) ?_
                  conv => whnf
                  repeat (first | (refine bcase_f rfl ?_; conv => whnf) | (refine bcase_t rfl ?_; conv => whnf) | (refine condK_of rfl ?_; conv => whnf) | (refine condK_of (by decide) ?_; conv => whnf) | (refine condK_of (by omega) ?_; conv => whnf) | (refine wrapK_in (w64 (by omega) (by omega)) ?_; conv => whnf))
                  exact ⟨q + 1, hq3, by omega, (le0 (le_of_cov ⟨rfl, rfl, rfl, rfl, rfl, trivial⟩ ⟨rfl, rfl, trivial⟩ ⟨rfl, rfl, rfl, rfl⟩))⟩
                · repeat (first | (refine bcase_f rfl ?_; conv => whnf) | (refine bcase_t rfl ?_; conv => whnf) | (refine condK_of rfl ?_; conv => whnf) | (refine condK_of (by decide) ?_; conv => whnf) | (refine condK_of (by omega) ?_; conv => whnf) | (refine wrapK_in (w64 (by omega) (by omega)) ?_; conv => whnf))
                  refine bcase_f (by rw [decide_eq_false_iff_not]; omega) ?_
                  conv => whnf
                  repeat (first | (refine bcase_f rfl ?_; conv => whnf) | (refine bcase_t rfl ?_; conv => whnf) | (refine condK_of rfl ?_; conv => whnf) | (refine condK_of (by decide) ?_; conv => whnf) | (refine condK_of (by omega) ?_; conv => whnf) | (refine wrapK_in (w64 (by omega) (by omega)) ?_; conv => whnf))
                  refine idxK_nat (by omega) ?_
                  conv => whnf
                  refine getRow_of (x := encP g.pg[i]) (by simp [hip]) ?_
                  conv => whnf
                  repeat (first | (refine bcase_f rfl ?_; conv => whnf) | (refine bcase_t rfl ?_; conv => whnf) | (refine condK_of rfl ?_; conv => whnf) | (refine condK_of (by decide) ?_; conv => whnf) | (refine condK_of (by omega) ?_; conv => whnf) | (refine wrapK_in (w64 (by omega) (by omega)) ?_; conv => whnf))
                  refine bcase_f (by rw [hpg]; simp) ?_
                  conv => whnf
                  repeat (first | (refine bcase_f rfl ?_; conv => whnf) | (refine bcase_t rfl ?_; conv => whnf) | (refine condK_of rfl ?_; conv => whnf) | (refine condK_of (by decide) ?_; conv => whnf) | (refine condK_of (by omega) ?_; conv => whnf) | (refine wrapK_in (w64 (by omega) (by omega)) ?_; conv => whnf))
                  refine idxK_nat (by omega) ?_
                  conv => whnf
                  refine getRow_of (x := encF g.fr[i]) (by simp [hi]) ?_
                  conv => whnf
                  repeat (first | (refine bcase_f rfl ?_; conv => whnf) | (refine bcase_t rfl ?_; conv => whnf) | (refine condK_of rfl ?_; conv => whnf) | (refine condK_of (by decide) ?_; conv => whnf) | (refine condK_of (by omega) ?_; conv => whnf) | (refine wrapK_in (w64 (by omega) (by omega)) ?_; conv => whnf))
                  refine idxK_nat (i := q + 1) (by omega) ?_
                  conv => whnf
                  refine condK_of rfl ?_
                  refine getC_of (pinA_get (by omega)) ?_
                  conv => whnf
                  repeat (first | (refine bcase_f rfl ?_; conv => whnf) | (refine bcase_t rfl ?_; conv => whnf) | (refine condK_of rfl ?_; conv => whnf) | (refine condK_of (by decide) ?_; conv => whnf) | (refine condK_of (by omega) ?_; conv => whnf) | (refine wrapK_in (w64 (by omega) (by omega)) ?_; conv => whnf))
                  refine bcase_f (by rw [e2]; simp) ?_
                  conv => whnf
                  repeat (first | (refine bcase_f rfl ?_; conv => whnf) | (refine bcase_t rfl ?_; conv => whnf) | (refine condK_of rfl ?_; conv => whnf) | (refine condK_of (by decide) ?_; conv => whnf) | (refine condK_of (by omega) ?_; conv => whnf) | (refine wrapK_in (w64 (by omega) (by omega)) ?_; conv => whnf))
                  exact ⟨q + 1, hq3, by omega, (le0 (le_of_cov ⟨rfl, rfl, rfl, rfl, rfl, trivial⟩ ⟨rfl, rfl, trivial⟩ ⟨rfl, rfl, rfl, rfl⟩))⟩
              · rw [findF_no (p := (q : Int) + 1) hG (fun i hi e3 => e1 i hi (by rw [e3]; omega)) (by omega)] at hfind
                repeat (first | (refine bcase_f rfl ?_; conv => whnf) | (refine bcase_t rfl ?_; conv => whnf) | (refine condK_of rfl ?_; conv => whnf) | (refine condK_of (by decide) ?_; conv => whnf) | (refine condK_of (by omega) ?_; conv => whnf) | (refine wrapK_in (w64 (by omega) (by omega)) ?_; conv => whnf))
                refine callX_pure (d := .tup [.int .i64 0, .bool false]) hfind ?_
                conv => whnf
                repeat (first | (refine bcase_f rfl ?_; conv => whnf) | (refine bcase_t rfl ?_; conv => whnf) | (refine condK_of rfl ?_; conv => whnf) | (refine condK_of (by decide) ?_; conv => whnf) | (refine condK_of (by omega) ?_; conv => whnf) | (refine wrapK_in (w64 (by omega) (by omega)) ?_; conv => whnf))
                refine idxK_nat (i := q + 1) (by omega) ?_
                conv => whnf
                refine condK_of rfl ?_
                refine getC_of (pinA_get (by omega)) ?_
                conv => whnf
                refine bcase_f (by rw [e2]; decide) ?_
                conv => whnf
                repeat (first | (refine bcase_f rfl ?_; conv => whnf) | (refine bcase_t rfl ?_; conv => whnf) | (refine condK_of rfl ?_; conv => whnf) | (refine condK_of (by decide) ?_; conv => whnf) | (refine condK_of (by omega) ?_; conv => whnf) | (refine wrapK_in (w64 (by omega) (by omega)) ?_; conv => whnf))
                exact ⟨q + 1, hq3, by omega, (le0 (le_of_cov ⟨rfl, rfl, rfl, rfl, rfl, trivial⟩ ⟨rfl, rfl, trivial⟩ ⟨rfl, rfl, rfl, rfl⟩))⟩
            repeat (first | (refine bcase_f rfl ?_; conv => whnf) | (refine bcase_t rfl ?_; conv => whnf) | (refine condK_of rfl ?_; conv => whnf) | (refine condK_of (by decide) ?_; conv => whnf) | (refine condK_of (by omega) ?_; conv => whnf) | (refine wrapK_in (w64 (by omega) (by omega)) ?_; conv => whnf))
            exact ⟨(k + 1, g, (setW w a.p.1 1)), ⟨by simp only []; omega, hG, hP⟩, by simp only []; omega, (le0 (le_of_cov ⟨rfl, rfl, rfl, rfl, trivial⟩ ⟨rfl, rfl, trivial⟩ ⟨rfl, rfl, rfl, rfl⟩))⟩
          · repeat (first | (refine bcase_f rfl ?_; conv => whnf) | (refine bcase_t rfl ?_; conv => whnf) | (refine condK_of rfl ?_; conv => whnf) | (refine condK_of (by decide) ?_; conv => whnf) | (refine condK_of (by omega) ?_; conv => whnf) | (refine wrapK_in (w64 (by omega) (by omega)) ?_; conv => whnf))
            refine bcase_t (by simpa using k6) ?_
            conv => whnf
            repeat (first | (refine bcase_f rfl ?_; conv => whnf) | (refine bcase_t rfl ?_; conv => whnf) | (refine condK_of rfl ?_; conv => whnf) | (refine condK_of (by decide) ?_; conv => whnf) | (refine condK_of (by omega) ?_; conv => whnf) | (refine wrapK_in (w64 (by omega) (by omega)) ?_; conv => whnf))
            refine bcase_t (by simpa using d1) ?_
            conv => whnf
            repeat (first | (refine bcase_f rfl ?_; conv => whnf) | (refine bcase_t rfl ?_; conv => whnf) | (refine condK_of rfl ?_; conv => whnf) | (refine condK_of (by decide) ?_; conv => whnf) | (refine condK_of (by omega) ?_; conv => whnf) | (refine wrapK_in (w64 (by omega) (by omega)) ?_; conv => whnf))
            refine bcase_t (by simpa using d2) ?_
            conv => whnf
            repeat (first | (refine bcase_f rfl ?_; conv => whnf) | (refine bcase_t rfl ?_; conv => whnf) | (refine condK_of rfl ?_; conv => whnf) | (refine condK_of (by decide) ?_; conv => whnf) | (refine condK_of (by omega) ?_; conv => whnf) | (refine wrapK_in (w64 (by omega) (by omega)) ?_; conv => whnf))
            refine idxK_int (by omega) (by omega) ?_
            conv => whnf
            refine condK_of rfl ?_
            simp only [killC_pinA]
            refine bif_of rfl (bif_of rfl (bif_of (by rw [Nat.ble_eq, pinA_len, show (T 3).size = 1 from rfl]; omega) ?_))
            rw [show 0 + a.p.1.toNat * (T 3).size = a.p.1.toNat from by rw [show (T 3).size = 1 from rfl]; omega]
            conv => whnf
            repeat (first | (refine bcase_f rfl ?_; conv => whnf) | (refine bcase_t rfl ?_; conv => whnf) | (refine condK_of rfl ?_; conv => whnf) | (refine condK_of (by decide) ?_; conv => whnf) | (refine condK_of (by omega) ?_; conv => whnf) | (refine wrapK_in (w64 (by omega) (by omega)) ?_; conv => whnf))
            refine callX_pure (fmRight_ok hG) ?_
            conv => whnf
            repeat (first | (refine bcase_f rfl ?_; conv => whnf) | (refine bcase_t rfl ?_; conv => whnf) | (refine condK_of rfl ?_; conv => whnf) | (refine condK_of (by decide) ?_; conv => whnf) | (refine condK_of (by omega) ?_; conv => whnf) | (refine wrapK_in (w64 (by omega) (by omega)) ?_; conv => whnf))
            refine aloop (ι := Nat) (fun q => [(1, .d (.lst (acts.map encA))), (5, .ptr 5 0 0), (7, .ptr 7 0 0), (8, .d (.int .i64 k)), (12, .d (.int .i64 ((q : Int) + 1)))]) (fun q => [(5, .box g.box false), (7, .box (pinA (setW w a.p.1 1)) false)])
              (fun q => q ≤ 16) (fun q => 16 - q) 0 (Nat.zero_le _) (le0 (le_of_cov ⟨rfl, rfl, rfl, rfl, rfl, trivial⟩ ⟨rfl, (by rw [← pinA_set hz]; rfl), trivial⟩ ⟨rfl, rfl, rfl, rfl⟩)) ?_
            intro q hq
            conv => whnf
            refine bcase_p (fun hq2 => ?_) (fun hq2 => ?_) <;> conv => whnf
            · have hq3 : q + 1 ≤ 16 := by omega
              have hfind := Find_ok g ((q : Int) + 1) hG.tl hG.dl
              rcases hP (q + 1) (by omega) hq3 with ⟨i, hi, e1, e2⟩ | ⟨e1, e2⟩
              · have hA := atF_of hG (p := (q : Int) + 1) (by omega) hi (by rw [e1]; omega)
                have hip := hA.hp
                have hpg := hA.pg
                rw [findF_at hA] at hfind
                repeat (first | (refine bcase_f rfl ?_; conv => whnf) | (refine bcase_t rfl ?_; conv => whnf) | (refine condK_of rfl ?_; conv => whnf) | (refine condK_of (by decide) ?_; conv => whnf) | (refine condK_of (by omega) ?_; conv => whnf) | (refine wrapK_in (w64 (by omega) (by omega)) ?_; conv => whnf))
                refine callX_pure (d := .tup [.int .i64 i, .bool true]) hfind ?_
                conv => whnf
                repeat (first | (refine bcase_f rfl ?_; conv => whnf) | (refine bcase_t rfl ?_; conv => whnf) | (refine condK_of rfl ?_; conv => whnf) | (refine condK_of (by decide) ?_; conv => whnf) | (refine condK_of (by omega) ?_; conv => whnf) | (refine wrapK_in (w64 (by omega) (by omega)) ?_; conv => whnf))
                refine idxK_nat (i := q + 1) (by omega) ?_
                conv => whnf
                refine condK_of rfl ?_
                refine getC_of (pinA_get (by omega)) ?_
                conv => whnf
                have hml : (g.pg.map encP).length = g.pg.length := List.length_map ..
                have hmf : (g.fr.map encF).length = g.fr.length := List.length_map ..
                refine bcase_p (fun hpos => ?_) (fun hpos => ?_) <;> conv => whnf
                · repeat (first | (refine bcase_f rfl ?_; conv => whnf) | (refine bcase_t rfl ?_; conv => whnf) | (refine condK_of rfl ?_; conv => whnf) | (refine condK_of (by decide) ?_; conv => whnf) | (refine condK_of (by omega) ?_; conv => whnf) | (refine wrapK_in (w64 (by omega) (by omega)) ?_; conv => whnf))
                  refine bcase_f (by rw [decide_eq_false_iff_not]; omega) ?_
                  conv => whnf
                  repeat (first | (refine bcase_f rfl ?_; conv => whnf) | (refine bcase_t rfl ?_; conv => whnf) | (refine condK_of rfl ?_; conv => whnf) | (refine condK_of (by decide) ?_; conv => whnf) | (refine condK_of (by omega) ?_; conv => whnf) | (refine wrapK_in (w64 (by omega) (by omega)) ?_; conv => whnf))
                  refine idxK_nat (by omega) ?_
                  conv => whnf
                  refine getRow_of (x := encP g.pg[i]) (by simp [hip]) ?_
                  conv => whnf
                  repeat (first | (refine bcase_f rfl ?_; conv => whnf) | (refine bcase_t rfl ?_; conv => whnf) | (refine condK_of rfl ?_; conv => whnf) | (refine condK_of (by decide) ?_; conv => whnf) | (refine condK_of (by omega) ?_; conv => whnf) | (refine wrapK_in (w64 (by omega) (by omega)) ?_; conv => whnf))
                  refine bcase_f (by rw [hpg]; simp) ?_
                  conv => whnf
                  repeat (first | (refine bcase_f rfl ?_; conv => whnf) | (refine bcase_t rfl ?_; conv => whnf) | (refine condK_of rfl ?_; conv => whnf) | (refine condK_of (by decide) ?_; conv => whnf) | (refine condK_of (by omega) ?_; conv => whnf) | (refine wrapK_in (w64 (by omega) (by omega)) ?_; conv => whnf))
                  refine idxK_nat (by omega) ?_
                  conv => whnf
                  refine getRow_of (x := encF g.fr[i]) (by simp [hi]) ?_
                  conv => whnf
                  repeat (first | (refine bcase_f rfl ?_; conv => whnf) | (refine bcase_t rfl ?_; conv => whnf) | (refine condK_of rfl ?_; conv => whnf) | (refine condK_of (by decide) ?_; conv => whnf) | (refine condK_of (by omega) ?_; conv => whnf) | (refine wrapK_in (w64 (by omega) (by omega)) ?_; conv => whnf))
                  refine idxK_nat (i := q + 1) (by omega) ?_
                  conv => whnf
                  refine condK_of rfl ?_
                  refine getC_of (pinA_get (by omega)) ?_
                  conv => whnf
                  repeat (first | (refine bcase_f rfl ?_; conv => whnf) | (refine bcase_t rfl ?_; conv => whnf) | (refine condK_of rfl ?_; conv => whnf) | (refine condK_of (by decide) ?_; conv => whnf) | (refine condK_of (by omega) ?_; conv => whnf) | (refine wrapK_in (w64 (by omega) (by omega)) ?_; conv => whnf))
                  refine bcase_f (by rw [e2]; simp) ?_
                  conv => whnf
                  repeat (first | (refine bcase_f rfl ?_; conv => whnf) | (refine bcase_t rfl ?_; conv => whnf) | (refine condK_of rfl ?_; conv => whnf) | (refine condK_of (by decide) ?_; conv => whnf) | (refine condK_of (by omega) ?_; conv => whnf) | (refine wrapK_in (w64 (by omega) (by omega)) ?_; conv => whnf))
                  exact ⟨q + 1, hq3, by omega, (le0 (le_of_cov ⟨rfl, rfl, rfl, rfl, rfl, trivial⟩ ⟨rfl, rfl, trivial⟩ ⟨rfl, rfl, rfl, rfl⟩))⟩
                · repeat (first | (refine bcase_f rfl ?_; conv => whnf) | (refine bcase_t rfl ?_; conv => whnf) | (refine condK_of rfl ?_; conv => whnf) | (refine condK_of (by decide) ?_; conv => whnf) | (refine condK_of (by omega) ?_; conv => whnf) | (refine wrapK_in (w64 (by omega) (by omega)) ?_; conv => whnf))
                  refine bcase_f (by rw [decide_eq_false_iff_not]; omega) ?_
                  conv => whnf
                  repeat (first | (refine bcase_f rfl ?_; conv => whnf) | (refine bcase_t rfl ?_; conv => whnf) | (refine condK_of rfl ?_; conv => whnf) | (refine condK_of (by decide) ?_; conv => whnf) | (refine condK_of (by omega) ?_; conv => whnf) | (refine wrapK_in (w64 (by omega) (by omega)) ?_; conv => whnf))
                  refine idxK_nat (by omega) ?_
                  conv => whnf
                  refine getRow_of (x := encP g.pg[i]) (by simp [hip]) ?_
                  conv => whnf
                  repeat (first | (refine bcase_f rfl ?_; conv => whnf) | (refine bcase_t rfl ?_; conv => whnf) | (refine condK_of rfl ?_; conv => whnf) | (refine condK_of (by decide) ?_; conv => whnf) | (refine condK_of (by omega) ?_; conv => whnf) | (refine wrapK_in (w64 (by omega) (by omega)) ?_; conv => whnf))
                  refine bcase_f (by rw [hpg]; simp) ?_
                  conv => whnf
                  repeat (first | (refine bcase_f rfl ?_; conv => whnf) | (refine bcase_t rfl ?_; conv => whnf) | (refine condK_of rfl ?_; conv => whnf) | (refine condK_of (by decide) ?_; conv => whnf) | (refine condK_of (by omega) ?_; conv => whnf) | (refine wrapK_in (w64 (by omega) (by omega)) ?_; conv => whnf))
                  refine idxK_nat (by omega) ?_
                  conv => whnf
                  refine getRow_of (x := encF g.fr[i]) (by simp [hi]) ?_
                  conv => whnf
                  repeat (first | (refine bcase_f rfl ?_; conv => whnf) | (refine bcase_t rfl ?_; conv => whnf) | (refine condK_of rfl ?_; conv => whnf) | (refine condK_of (by decide) ?_; conv => whnf) | (refine condK_of (by omega) ?_; conv => whnf) | (refine wrapK_in (w64 (by omega) (by omega)) ?_; conv => whnf))
                  refine idxK_nat (i := q + 1) (by omega) ?_
                  conv => whnf
                  refine condK_of rfl ?_
                  refine getC_of (pinA_get (by omega)) ?_
                  conv => whnf
                  repeat (first | (refine bcase_f rfl ?_; conv => whnf) | (refine bcase_t rfl ?_; conv => whnf) | (refine condK_of rfl ?_; conv => whnf) | (refine condK_of (by decide) ?_; conv => whnf) | (refine condK_of (by omega) ?_; conv => whnf) | (refine wrapK_in (w64 (by omega) (by omega)) ?_; conv => whnf))
                  refine bcase_f (by rw [e2]; simp) ?_
                  conv => whnf
                  repeat (first | (refine bcase_f rfl ?_; conv => whnf) | (refine bcase_t rfl ?_; conv => whnf) | (refine condK_of rfl ?_; conv => whnf) | (refine condK_of (by decide) ?_; conv => whnf) | (refine condK_of (by omega) ?_; conv => whnf) | (refine wrapK_in (w64 (by omega) (by omega)) ?_; conv => whnf))
                  exact ⟨q + 1, hq3, by omega, (le0 (le_of_cov ⟨rfl, rfl, rfl, rfl, rfl, trivial⟩ ⟨rfl, rfl, trivial⟩ ⟨rfl, rfl, rfl, rfl⟩))⟩
              · rw [findF_no (p := (q : Int) + 1) hG (fun i hi e3 => e1 i hi (by rw [e3]; omega)) (by omega)] at hfind
                repeat (first | (refine bcase_f rfl ?_; conv => whnf) | (refine bcase_t rfl ?_; conv => whnf) | (refine condK_of rfl ?_; conv => whnf) | (refine condK_of (by decide) ?_; conv => whnf) | (refine condK_of (by omega) ?_; conv => whnf) | (refine wrapK_in (w64 (by omega) (by omega)) ?_; conv => whnf))
                refine callX_pure (d := .tup [.int .i64 0, .bool false]) hfind ?_
                conv => whnf
                repeat (first | (refine bcase_f rfl ?_; conv => whnf) | (refine bcase_t rfl ?_; conv => whnf) | (refine condK_of rfl ?_; conv => whnf) | (refine condK_of (by decide) ?_; conv => whnf) | (refine condK_of (by omega) ?_; conv => whnf) | (refine wrapK_in (w64 (by omega) (by omega)) ?_; conv => whnf))
                refine idxK_nat (i := q + 1) (by omega) ?_
                conv => whnf
                refine condK_of rfl ?_
                refine getC_of (pinA_get (by omega)) ?_
                conv => whnf
                refine bcase_f (by rw [e2]; decide) ?_
                conv => whnf
                repeat (first | (refine bcase_f rfl ?_; conv => whnf) | (refine bcase_t rfl ?_; conv => whnf) | (refine condK_of rfl ?_; conv => whnf) | (refine condK_of (by decide) ?_; conv => whnf) | (refine condK_of (by omega) ?_; conv => whnf) | (refine wrapK_in (w64 (by omega) (by omega)) ?_; conv => whnf))
                exact ⟨q + 1, hq3, by omega, (le0 (le_of_cov ⟨rfl, rfl, rfl, rfl, rfl, trivial⟩ ⟨rfl, rfl, trivial⟩ ⟨rfl, rfl, rfl, rfl⟩))⟩
            repeat (first | (refine bcase_f rfl ?_; conv => whnf) | (refine bcase_t rfl ?_; conv => whnf) | (refine condK_of rfl ?_; conv => whnf) | (refine condK_of (by decide) ?_; conv => whnf) | (refine condK_of (by omega) ?_; conv => whnf) | (refine wrapK_in (w64 (by omega) (by omega)) ?_; conv => whnf))
            exact ⟨(k + 1, g, (setW w a.p.1 1)), ⟨by simp only []; omega, hG, hP⟩, by simp only []; omega, (le0 (le_of_cov ⟨rfl, rfl, rfl, rfl, trivial⟩ ⟨rfl, rfl, trivial⟩ ⟨rfl, rfl, rfl, rfl⟩))⟩
        · repeat (first | (refine bcase_f rfl ?_; conv => whnf) | (refine bcase_t rfl ?_; conv => whnf) | (refine condK_of rfl ?_; conv => whnf) | (refine condK_of (by decide) ?_; conv => whnf) | (refine condK_of (by omega) ?_; conv => whnf) | (refine wrapK_in (w64 (by omega) (by omega)) ?_; conv => whnf))
          refine bcase_t (by simpa using k6) ?_
          conv => whnf
          repeat (first | (refine bcase_f rfl ?_; conv => whnf) | (refine bcase_t rfl ?_; conv => whnf) | (refine condK_of rfl ?_; conv => whnf) | (refine condK_of (by decide) ?_; conv => whnf) | (refine condK_of (by omega) ?_; conv => whnf) | (refine wrapK_in (w64 (by omega) (by omega)) ?_; conv => whnf))
          refine bcase_t (by simpa using d1) ?_
          conv => whnf
          repeat (first | (refine bcase_f rfl ?_; conv => whnf) | (refine bcase_t rfl ?_; conv => whnf) | (refine condK_of rfl ?_; conv => whnf) | (refine condK_of (by decide) ?_; conv => whnf) | (refine condK_of (by omega) ?_; conv => whnf) | (refine wrapK_in (w64 (by omega) (by omega)) ?_; conv => whnf))
          refine bcase_t (by simpa using d2) ?_
          conv => whnf
          repeat (first | (refine bcase_f rfl ?_; conv => whnf) | (refine bcase_t rfl ?_; conv => whnf) | (refine condK_of rfl ?_; conv => whnf) | (refine condK_of (by decide) ?_; conv => whnf) | (refine condK_of (by omega) ?_; conv => whnf) | (refine wrapK_in (w64 (by omega) (by omega)) ?_; conv => whnf))
          refine idxK_int (by omega) (by omega) ?_
          conv => whnf
          refine condK_of rfl ?_
          simp only [killC_pinA]
          refine bif_of rfl (bif_of rfl (bif_of (by rw [Nat.ble_eq, pinA_len, show (T 3).size = 1 from rfl]; omega) ?_))
          rw [show 0 + a.p.1.toNat * (T 3).size = a.p.1.toNat from by rw [show (T 3).size = 1 from rfl]; omega]
          conv => whnf
          repeat (first | (refine bcase_f rfl ?_; conv => whnf) | (refine bcase_t rfl ?_; conv => whnf) | (refine condK_of rfl ?_; conv => whnf) | (refine condK_of (by decide) ?_; conv => whnf) | (refine condK_of (by omega) ?_; conv => whnf) | (refine wrapK_in (w64 (by omega) (by omega)) ?_; conv => whnf))
          refine callX_pure (fmRight_ok hG) ?_
          conv => whnf
          repeat (first | (refine bcase_f rfl ?_; conv => whnf) | (refine bcase_t rfl ?_; conv => whnf) | (refine condK_of rfl ?_; conv => whnf) | (refine condK_of (by decide) ?_; conv => whnf) | (refine condK_of (by omega) ?_; conv => whnf) | (refine wrapK_in (w64 (by omega) (by omega)) ?_; conv => whnf))
          refine aloop (ι := Nat) (fun q => [(1, .d (.lst (acts.map encA))), (5, .ptr 5 0 0), (7, .ptr 7 0 0), (8, .d (.int .i64 k)), (12, .d (.int .i64 ((q : Int) + 1)))]) (fun q => [(5, .box g.box false), (7, .box (pinA (setW w a.p.1 1)) false)])
            (fun q => q ≤ 16) (fun q => 16 - q) 0 (Nat.zero_le _) (le0 (le_of_cov ⟨rfl, rfl, rfl, rfl, rfl, trivial⟩ ⟨rfl, (by rw [← pinA_set hz]; rfl), trivial⟩ ⟨rfl, rfl, rfl, rfl⟩)) ?_
          intro q hq
          conv => whnf
          refine bcase_p (fun hq2 => ?_) (fun hq2 => ?_) <;> conv => whnf
          · have hq3 : q + 1 ≤ 16 := by omega
            have hfind := Find_ok g ((q : Int) + 1) hG.tl hG.dl
            rcases hP (q + 1) (by omega) hq3 with ⟨i, hi, e1, e2⟩ | ⟨e1, e2⟩
            · have hA := atF_of hG (p := (q : Int) + 1) (by omega) hi (by rw [e1]; omega)
              have hip := hA.hp
              have hpg := hA.pg
              rw [findF_at hA] at hfind
              repeat (first | (refine bcase_f rfl ?_; conv => whnf) | (refine bcase_t rfl ?_; conv => whnf) | (refine condK_of rfl ?_; conv => whnf) | (refine condK_of (by decide) ?_; conv => whnf) | (refine condK_of (by omega) ?_; conv => whnf) | (refine wrapK_in (w64 (by omega) (by omega)) ?_; conv => whnf))
              refine callX_pure (d := .tup [.int .i64 i, .bool true]) hfind ?_
              conv => whnf
              repeat (first | (refine bcase_f rfl ?_; conv => whnf) | (refine bcase_t rfl ?_; conv => whnf) | (refine condK_of rfl ?_; conv => whnf) | (refine condK_of (by decide) ?_; conv => whnf) | (refine condK_of (by omega) ?_; conv => whnf) | (refine wrapK_in (w64 (by omega) (by omega)) ?_; conv => whnf))
              refine idxK_nat (i := q + 1) (by omega) ?_
              conv => whnf
              refine condK_of rfl ?_
              refine getC_of (pinA_get (by omega)) ?_
              conv => whnf
              have hml : (g.pg.map encP).length = g.pg.length := List.length_map ..
              have hmf : (g.fr.map encF).length = g.fr.length := List.length_map ..
              refine bcase_p (fun hpos => ?_) (fun hpos => ?_) <;> conv => whnf
              · repeat (first | (refine bcase_f rfl ?_; conv => whnf) | (refine bcase_t rfl ?_; conv => whnf) | (refine condK_of rfl ?_; conv => whnf) | (refine condK_of (by decide) ?_; conv => whnf) | (refine condK_of (by omega) ?_; conv => whnf) | (refine wrapK_in (w64 (by omega) (by omega)) ?_; conv => whnf))
                refine bcase_f (by rw [decide_eq_false_iff_not]; omega) ?_
                conv => whnf
                repeat (first | (refine bcase_f rfl ?_; conv => whnf) | (refine bcase_t rfl ?_; conv => whnf) | (refine condK_of rfl ?_; conv => whnf) | (refine condK_of (by decide) ?_; conv => whnf) | (refine condK_of (by omega) ?_; conv => whnf) | (refine wrapK_in (w64 (by omega) (by omega)) ?_; conv => whnf))
                refine idxK_nat (by omega) ?_
                conv => whnf
                refine getRow_of (x := encP g.pg[i]) (by simp [hip]) ?_
                conv => whnf
                repeat (first | (refine bcase_f rfl ?_; conv => whnf) | (refine bcase_t rfl ?_; conv => whnf) | (refine condK_of rfl ?_; conv => whnf) | (refine condK_of (by decide) ?_; conv => whnf) | (refine condK_of (by omega) ?_; conv => whnf) | (refine wrapK_in (w64 (by omega) (by omega)) ?_; conv => whnf))
                refine bcase_f (by rw [hpg]; simp) ?_
                conv => whnf
                repeat (first | (refine bcase_f rfl ?_; conv => whnf) | (refine bcase_t rfl ?_; conv => whnf) | (refine condK_of rfl ?_; conv => whnf) | (refine condK_of (by decide) ?_; conv => whnf) | (refine condK_of (by omega) ?_; conv => whnf) | (refine wrapK_in (w64 (by omega) (by omega)) ?_; conv => whnf))
                refine idxK_nat (by omega) ?_
                conv => whnf
                refine getRow_of (x := encF g.fr[i]) (by simp [hi]) ?_
                conv => whnf
                repeat (first | (refine bcase_f rfl ?_; conv => whnf) | (refine bcase_t rfl ?_; conv => whnf) | (refine condK_of rfl ?_; conv => whnf) | (refine condK_of (by decide) ?_; conv => whnf) | (refine condK_of (by omega) ?_; conv => whnf) | (refine wrapK_in (w64 (by omega) (by omega)) ?_; conv => whnf))
                refine idxK_nat (i := q + 1) (by omega) ?_
                conv => whnf
                refine condK_of rfl ?_
                refine getC_of (pinA_get (by omega)) ?_
                conv => whnf
                repeat (first | (refine bcase_f rfl ?_; conv => whnf) | (refine bcase_t rfl ?_; conv => whnf) | (refine condK_of rfl ?_; conv => whnf) | (refine condK_of (by decide) ?_; conv => whnf) | (refine condK_of (by omega) ?_; conv => whnf) | (refine wrapK_in (w64 (by omega) (by omega)) ?_; conv => whnf))
                refine bcase_f (by rw [e2]; simp) ?_
                conv => whnf
                repeat (first | (refine bcase_f rfl ?_; conv => whnf) | (refine bcase_t rfl ?_; conv => whnf) | (refine condK_of rfl ?_; conv => whnf) | (refine condK_of (by decide) ?_; conv => whnf) | (refine condK_of (by omega) ?_; conv => whnf) | (refine wrapK_in (w64 (by omega) (by omega)) ?_; conv => whnf))
                exact ⟨q + 1, hq3, by omega, (le0 (le_of_cov ⟨rfl, rfl, rfl, rfl, rfl, trivial⟩ ⟨rfl, rfl, trivial⟩ ⟨rfl, rfl, rfl, rfl⟩))⟩
              · repeat (first | (refine bcase_f rfl ?_; conv => whnf) | (refine bcase_t rfl ?_; conv => whnf) | (refine condK_of rfl ?_; conv => whnf) | (refine condK_of (by decide) ?_; conv => whnf) | (refine condK_of (by omega) ?_; conv => whnf) | (refine wrapK_in (w64 (by omega) (by omega)) ?_; conv => whnf))
                refine bcase_f (by rw [decide_eq_false_iff_not]; omega) ?_
                conv => whnf
                repeat (first | (refine bcase_f rfl ?_; conv => whnf) | (refine bcase_t rfl ?_; conv => whnf) | (refine condK_of rfl ?_; conv => whnf) | (refine condK_of (by decide) ?_; conv => whnf) | (refine condK_of (by omega) ?_; conv => whnf) | (refine wrapK_in (w64 (by omega) (by omega)) ?_; conv => whnf))
                refine idxK_nat (by omega) ?_
                conv => whnf
                refine getRow_of (x := encP g.pg[i]) (by simp [hip]) ?_
                conv => whnf
                repeat (first | (refine bcase_f rfl ?_; conv => whnf) | (refine bcase_t rfl ?_; conv => whnf) | (refine condK_of rfl ?_; conv => whnf) | (refine condK_of (by decide) ?_; conv => whnf) | (refine condK_of (by omega) ?_; conv => whnf) | (refine wrapK_in (w64 (by omega) (by omega)) ?_; conv => whnf))
                refine bcase_f (by rw [hpg]; simp) ?_
                conv => whnf
                repeat (first | (refine bcase_f rfl ?_; conv => whnf) | (refine bcase_t rfl ?_; conv => whnf) | (refine condK_of rfl ?_; conv => whnf) | (refine condK_of (by decide) ?_; conv => whnf) | (refine condK_of (by omega) ?_; conv => whnf) | (refine wrapK_in (w64 (by omega) (by omega)) ?_; conv => whnf))
                refine idxK_nat (by omega) ?_
                conv => whnf
                refine getRow_of (x := encF g.fr[i]) (by simp [hi]) ?_
                conv => whnf
                repeat (first | (refine bcase_f rfl ?_; conv => whnf) | (refine bcase_t rfl ?_; conv => whnf) | (refine condK_of rfl ?_; conv => whnf) | (refine condK_of (by decide) ?_; conv => whnf) | (refine condK_of (by omega) ?_; conv => whnf) | (refine wrapK_in (w64 (by omega) (by omega)) ?_; conv => whnf))
                refine idxK_nat (i := q + 1) (by omega) ?_
                conv => whnf
                refine condK_of rfl ?_
                refine getC_of (pinA_get (by omega)) ?_
                conv => whnf
                repeat (first | (refine bcase_f rfl ?_; conv => whnf) | (refine bcase_t rfl ?_; conv => whnf) | (refine condK_of rfl ?_; conv => whnf) | (refine condK_of (by decide) ?_; conv => whnf) | (refine condK_of (by omega) ?_; conv => whnf) | (refine wrapK_in (w64 (by omega) (by omega)) ?_; conv => whnf))
                refine bcase_f (by rw [e2]; simp) ?_
                conv => whnf
                repeat (first | (refine bcase_f rfl ?_; conv => whnf) | (refine bcase_t rfl ?_; conv => whnf) | (refine condK_of rfl ?_; conv => whnf) | (refine condK_of (by decide) ?_; conv => whnf) | (refine condK_of (by omega) ?_; conv => whnf) | (refine wrapK_in (w64 (by omega) (by omega)) ?_; conv => whnf))
                exact ⟨q + 1, hq3, by omega, (le0 (le_of_cov ⟨rfl, rfl, rfl, rfl, rfl, trivial⟩ ⟨rfl, rfl, trivial⟩ ⟨rfl, rfl, rfl, rfl⟩))⟩
            · rw [findF_no (p := (q : Int) + 1) hG (fun i hi e3 => e1 i hi (by rw [e3]; omega)) (by omega)] at hfind
              repeat (first | (refine bcase_f rfl ?_; conv => whnf) | (refine bcase_t rfl ?_; conv => whnf) | (refine condK_of rfl ?_; conv => whnf) | (refine condK_of (by decide) ?_; conv => whnf) | (refine condK_of (by omega) ?_; conv => whnf) | (refine wrapK_in (w64 (by omega) (by omega)) ?_; conv => whnf))
              refine callX_pure (d := .tup [.int .i64 0, .bool false]) hfind ?_
              conv => whnf
              repeat (first | (refine bcase_f rfl ?_; conv => whnf) | (refine bcase_t rfl ?_; conv => whnf) | (refine condK_of rfl ?_; conv => whnf) | (refine condK_of (by decide) ?_; conv => whnf) | (refine condK_of (by omega) ?_; conv => whnf) | (refine wrapK_in (w64 (by omega) (by omega)) ?_; conv => whnf))
              refine idxK_nat (i := q + 1) (by omega) ?_
              conv => whnf
              refine condK_of rfl ?_
              refine getC_of (pinA_get (by omega)) ?_
              conv => whnf
              refine bcase_f (by rw [e2]; decide) ?_
              conv => whnf
              repeat (first | (refine bcase_f rfl ?_; conv => whnf) | (refine bcase_t rfl ?_; conv => whnf) | (refine condK_of rfl ?_; conv => whnf) | (refine condK_of (by decide) ?_; conv => whnf) | (refine condK_of (by omega) ?_; conv => whnf) | (refine wrapK_in (w64 (by omega) (by omega)) ?_; conv => whnf))
              exact ⟨q + 1, hq3, by omega, (le0 (le_of_cov ⟨rfl, rfl, rfl, rfl, rfl, trivial⟩ ⟨rfl, rfl, trivial⟩ ⟨rfl, rfl, rfl, rfl⟩))⟩
          repeat (first | (refine bcase_f rfl ?_; conv => whnf) | (refine bcase_t rfl ?_; conv => whnf) | (refine condK_of rfl ?_; conv => whnf) | (refine condK_of (by decide) ?_; conv => whnf) | (refine condK_of (by omega) ?_; conv => whnf) | (refine wrapK_in (w64 (by omega) (by omega)) ?_; conv => whnf))
          exact ⟨(k + 1, g, (setW w a.p.1 1)), ⟨by simp only []; omega, hG, hP⟩, by simp only []; omega, (le0 (le_of_cov ⟨rfl, rfl, rfl, rfl, trivial⟩ ⟨rfl, rfl, trivial⟩ ⟨rfl, rfl, rfl, rfl⟩))⟩
      rw [show nextW w a 0 = w from by rw [nextW, if_neg (by decide), if_neg k1, if_neg k2, if_neg k6]] at hP
      refine bcase_p (fun d3 => ?_) (fun d3 => ?_) <;> conv => whnf
      · repeat (first | (refine bcase_f rfl ?_; conv => whnf) | (refine bcase_t rfl ?_; conv => whnf) | (refine condK_of rfl ?_; conv => whnf) | (refine condK_of (by decide) ?_; conv => whnf) | (refine condK_of (by omega) ?_; conv => whnf) | (refine wrapK_in (w64 (by omega) (by omega)) ?_; conv => whnf))
        refine bcase_p (fun d4 => ?_) (fun d4 => ?_) <;> conv => whnf
        · repeat (first | (refine bcase_f rfl ?_; conv => whnf) | (refine bcase_t rfl ?_; conv => whnf) | (refine condK_of rfl ?_; conv => whnf) | (refine condK_of (by decide) ?_; conv => whnf) | (refine condK_of (by omega) ?_; conv => whnf) | (refine wrapK_in (w64 (by omega) (by omega)) ?_; conv => whnf))
          refine bcase_f (by simpa using k1) ?_
          conv => whnf
          repeat (first | (refine bcase_f rfl ?_; conv => whnf) | (refine bcase_t rfl ?_; conv => whnf) | (refine condK_of rfl ?_; conv => whnf) | (refine condK_of (by decide) ?_; conv => whnf) | (refine condK_of (by omega) ?_; conv => whnf) | (refine wrapK_in (w64 (by omega) (by omega)) ?_; conv => whnf))
          refine bcase_f (by simpa using k2) ?_
          conv => whnf
          repeat (first | (refine bcase_f rfl ?_; conv => whnf) | (refine bcase_t rfl ?_; conv => whnf) | (refine condK_of rfl ?_; conv => whnf) | (refine condK_of (by decide) ?_; conv => whnf) | (refine condK_of (by omega) ?_; conv => whnf) | (refine wrapK_in (w64 (by omega) (by omega)) ?_; conv => whnf))
          refine bcase_f (by simpa using k6) ?_
          conv => whnf
          repeat (first | (refine bcase_f rfl ?_; conv => whnf) | (refine bcase_t rfl ?_; conv => whnf) | (refine condK_of rfl ?_; conv => whnf) | (refine condK_of (by decide) ?_; conv => whnf) | (refine condK_of (by omega) ?_; conv => whnf) | (refine wrapK_in (w64 (by omega) (by omega)) ?_; conv => whnf))
          refine callX_pure (fmRight_ok hG) ?_
          conv => whnf
          repeat (first | (refine bcase_f rfl ?_; conv => whnf) | (refine bcase_t rfl ?_; conv => whnf) | (refine condK_of rfl ?_; conv => whnf) | (refine condK_of (by decide) ?_; conv => whnf) | (refine condK_of (by omega) ?_; conv => whnf) | (refine wrapK_in (w64 (by omega) (by omega)) ?_; conv => whnf))
          refine aloop (ι := Nat) (fun q => [(1, .d (.lst (acts.map encA))), (5, .ptr 5 0 0), (7, .ptr 7 0 0), (8, .d (.int .i64 k)), (12, .d (.int .i64 ((q : Int) + 1)))]) (fun q => [(5, .box g.box false), (7, .box (pinA w) false)])
            (fun q => q ≤ 16) (fun q => 16 - q) 0 (Nat.zero_le _) (le0 (le_of_cov ⟨rfl, rfl, rfl, rfl, rfl, trivial⟩ ⟨rfl, rfl, trivial⟩ ⟨rfl, rfl, rfl, rfl⟩)) ?_
          intro q hq
          conv => whnf
          refine bcase_p (fun hq2 => ?_) (fun hq2 => ?_) <;> conv => whnf
          · have hq3 : q + 1 ≤ 16 := by omega
            have hfind := Find_ok g ((q : Int) + 1) hG.tl hG.dl
            rcases hP (q + 1) (by omega) hq3 with ⟨i, hi, e1, e2⟩ | ⟨e1, e2⟩
            · have hA := atF_of hG (p := (q : Int) + 1) (by omega) hi (by rw [e1]; omega)
              have hip := hA.hp
              have hpg := hA.pg
              rw [findF_at hA] at hfind
              repeat (first | (refine bcase_f rfl ?_; conv => whnf) | (refine bcase_t rfl ?_; conv => whnf) | (refine condK_of rfl ?_; conv => whnf) | (refine condK_of (by decide) ?_; conv => whnf) | (refine condK_of (by omega) ?_; conv => whnf) | (refine wrapK_in (w64 (by omega) (by omega)) ?_; conv => whnf))
              refine callX_pure (d := .tup [.int .i64 i, .bool true]) hfind ?_
              conv => whnf
              repeat (first | (refine bcase_f rfl ?_; conv => whnf) | (refine bcase_t rfl ?_; conv => whnf) | (refine condK_of rfl ?_; conv => whnf) | (refine condK_of (by decide) ?_; conv => whnf) | (refine condK_of (by omega) ?_; conv => whnf) | (refine wrapK_in (w64 (by omega) (by omega)) ?_; conv => whnf))
              refine idxK_nat (i := q + 1) (by omega) ?_
              conv => whnf
              refine condK_of rfl ?_
              refine getC_of (pinA_get (by omega)) ?_
              conv => whnf
              have hml : (g.pg.map encP).length = g.pg.length := List.length_map ..
              have hmf : (g.fr.map encF).length = g.fr.length := List.length_map ..
              refine bcase_p (fun hpos => ?_) (fun hpos => ?_) <;> conv => whnf
              · repeat (first | (refine bcase_f rfl ?_; conv => whnf) | (refine bcase_t rfl ?_; conv => whnf) | (refine condK_of rfl ?_; conv => whnf) | (refine condK_of (by decide) ?_; conv => whnf) | (refine condK_of (by omega) ?_; conv => whnf) | (refine wrapK_in (w64 (by omega) (by omega)) ?_; conv => whnf))
                refine bcase_f (by rw [decide_eq_false_iff_not]; omega) ?_
                conv => whnf
                repeat (first | (refine bcase_f rfl ?_; conv => whnf) | (refine bcase_t rfl ?_; conv => whnf) | (refine condK_of rfl ?_; conv => whnf) | (refine condK_of (by decide) ?_; conv => whnf) | (refine condK_of (by omega) ?_; conv => whnf) | (refine wrapK_in (w64 (by omega) (by omega)) ?_; conv => whnf))
                refine idxK_nat (by omega) ?_
                conv => whnf
                refine getRow_of (x := encP g.pg[i]) (by simp [hip]) ?_
                conv => whnf
                repeat (first | (refine bcase_f rfl ?_; conv => whnf) | (refine bcase_t rfl ?_; conv => whnf) | (refine condK_of rfl ?_; conv => whnf) | (refine condK_of (by decide) ?_; conv => whnf) | (refine condK_of (by omega) ?_; conv => whnf) | (refine wrapK_in (w64 (by omega) (by omega)) ?_; conv => whnf))
                refine bcase_f (by rw [hpg]; simp) ?_
                conv => whnf
                repeat (first | (refine bcase_f rfl ?_; conv => whnf) | (refine bcase_t rfl ?_; conv => whnf) | (refine condK_of rfl ?_; conv => whnf) | (refine condK_of (by decide) ?_; conv => whnf) | (refine condK_of (by omega) ?_; conv => whnf) | (refine wrapK_in (w64 (by omega) (by omega)) ?_; conv => whnf))
                refine idxK_nat (by omega) ?_
                conv => whnf
                refine getRow_of (x := encF g.fr[i]) (by simp [hi]) ?_
                conv => whnf
                repeat (first | (refine bcase_f rfl ?_; conv => whnf) | (refine bcase_t rfl ?_; conv => whnf) | (refine condK_of rfl ?_; conv => whnf) | (refine condK_of (by decide) ?_; conv => whnf) | (refine condK_of (by omega) ?_; conv => whnf) | (refine wrapK_in (w64 (by omega) (by omega)) ?_; conv => whnf))
                refine idxK_nat (i := q + 1) (by omega) ?_
                conv => whnf
                refine condK_of rfl ?_
                refine getC_of (pinA_get (by omega)) ?_
                conv => whnf
                repeat (first | (refine bcase_f rfl ?_; conv => whnf) | (refine bcase_t rfl ?_; conv => whnf) | (refine condK_of rfl ?_; conv => whnf) | (refine condK_of (by decide) ?_; conv => whnf) | (refine condK_of (by omega) ?_; conv => whnf) | (refine wrapK_in (w64 (by omega) (by omega)) ?_; conv => whnf))
                refine bcase_f (by rw [e2]; simp) ?_
                conv => whnf
                repeat (first | (refine bcase_f rfl ?_; conv => whnf) | (refine bcase_t rfl ?_; conv => whnf) | (refine condK_of rfl ?_; conv => whnf) | (refine condK_of (by decide) ?_; conv => whnf) | (refine condK_of (by omega) ?_; conv => whnf) | (refine wrapK_in (w64 (by omega) (by omega)) ?_; conv => whnf))
                exact ⟨q + 1, hq3, by omega, (le0 (le_of_cov ⟨rfl, rfl, rfl, rfl, rfl, trivial⟩ ⟨rfl, rfl, trivial⟩ ⟨rfl, rfl, rfl, rfl⟩))⟩
              · repeat (first | (refine bcase_f rfl ?_; conv => whnf) | (refine bcase_t rfl ?_; conv => whnf) | (refine condK_of rfl ?_; conv => whnf) | (refine condK_of (by decide) ?_; conv => whnf) | (refine condK_of (by omega) ?_; conv => whnf) | (refine wrapK_in (w64 (by omega) (by omega)) ?_; conv => whnf))
                refine bcase_f (by rw [decide_eq_false_iff_not]; omega) ?_
                conv => whnf
                repeat (first | (refine bcase_f rfl ?_; conv => whnf) | (refine bcase_t rfl ?_; conv => whnf) | (refine condK_of rfl ?_; conv => whnf) | (refine condK_of (by decide) ?_; conv => whnf) | (refine condK_of (by omega) ?_; conv => whnf) | (refine wrapK_in (w64 (by omega) (by omega)) ?_; conv => whnf))
                refine idxK_nat (by omega) ?_
                conv => whnf
                refine getRow_of (x := encP g.pg[i]) (by simp [hip]) ?_
                conv => whnf
                repeat (first | (refine bcase_f rfl ?_; conv => whnf) | (refine bcase_t rfl ?_; conv => whnf) | (refine condK_of rfl ?_; conv => whnf) | (refine condK_of (by decide) ?_; conv => whnf) | (refine condK_of (by omega) ?_; conv => whnf) | (refine wrapK_in (w64 (by omega) (by omega)) ?_; conv => whnf))
                refine bcase_f (by rw [hpg]; simp) ?_
                conv => whnf
                repeat (first | (refine bcase_f rfl ?_; conv => whnf) | (refine bcase_t rfl ?_; conv => whnf) | (refine condK_of rfl ?_; conv => whnf) | (refine condK_of (by decide) ?_; conv => whnf) | (refine condK_of (by omega) ?_; conv => whnf) | (refine wrapK_in (w64 (by omega) (by omega)) ?_; conv => whnf))
                refine idxK_nat (by omega) ?_
                conv => whnf
                refine getRow_of (x := encF g.fr[i]) (by simp [hi]) ?_
                conv => whnf
                repeat (first | (refine bcase_f rfl ?_; conv => whnf) | (refine bcase_t rfl ?_; conv => whnf) | (refine condK_of rfl ?_; conv => whnf) | (refine condK_of (by decide) ?_; conv => whnf) | (refine condK_of (by omega) ?_; conv => whnf) | (refine wrapK_in (w64 (by omega) (by omega)) ?_; conv => whnf))
                refine idxK_nat (i := q + 1) (by omega) ?_
                conv => whnf
                refine condK_of rfl ?_
                refine getC_of (pinA_get (by omega)) ?_
                conv => whnf
                repeat (first | (refine bcase_f rfl ?_; conv => whnf) | (refine bcase_t rfl ?_; conv => whnf) | (refine condK_of rfl ?_; conv => whnf) | (refine condK_of (by decide) ?_; conv => whnf) | (refine condK_of (by omega) ?_; conv => whnf) | (refine wrapK_in (w64 (by omega) (by omega)) ?_; conv => whnf))
                refine bcase_f (by rw [e2]; simp) ?_
                conv => whnf
                repeat (first | (refine bcase_f rfl ?_; conv => whnf) | (refine bcase_t rfl ?_; conv => whnf) | (refine condK_of rfl ?_; conv => whnf) | (refine condK_of (by decide) ?_; conv => whnf) | (refine condK_of (by omega) ?_; conv => whnf) | (refine wrapK_in (w64 (by omega) (by omega)) ?_; conv => whnf))
                exact ⟨q + 1, hq3, by omega, (le0 (le_of_cov ⟨rfl, rfl, rfl, rfl, rfl, trivial⟩ ⟨rfl, rfl, trivial⟩ ⟨rfl, rfl, rfl, rfl⟩))⟩
            · rw [findF_no (p := (q : Int) + 1) hG (fun i hi e3 => e1 i hi (by rw [e3]; omega)) (by omega)] at hfind
              repeat (first | (refine bcase_f rfl ?_; conv => whnf) | (refine bcase_t rfl ?_; conv => whnf) | (refine condK_of rfl ?_; conv => whnf) | (refine condK_of (by decide) ?_; conv => whnf) | (refine condK_of (by omega) ?_; conv => whnf) | (refine wrapK_in (w64 (by omega) (by omega)) ?_; conv => whnf))
              refine callX_pure (d := .tup [.int .i64 0, .bool false]) hfind ?_
              conv => whnf
              repeat (first | (refine bcase_f rfl ?_; conv => whnf) | (refine bcase_t rfl ?_; conv => whnf) | (refine condK_of rfl ?_; conv => whnf) | (refine condK_of (by decide) ?_; conv => whnf) | (refine condK_of (by omega) ?_; conv => whnf) | (refine wrapK_in (w64 (by omega) (by omega)) ?_; conv => whnf))
              refine idxK_nat (i := q + 1) (by omega) ?_
              conv => whnf
              refine condK_of rfl ?_
              refine getC_of (pinA_get (by omega)) ?_
              conv => whnf
              refine bcase_f (by rw [e2]; decide) ?_
              conv => whnf
              repeat (first | (refine bcase_f rfl ?_; conv => whnf) | (refine bcase_t rfl ?_; conv => whnf) | (refine condK_of rfl ?_; conv => whnf) | (refine condK_of (by decide) ?_; conv => whnf) | (refine condK_of (by omega) ?_; conv => whnf) | (refine wrapK_in (w64 (by omega) (by omega)) ?_; conv => whnf))
              exact ⟨q + 1, hq3, by omega, (le0 (le_of_cov ⟨rfl, rfl, rfl, rfl, rfl, trivial⟩ ⟨rfl, rfl, trivial⟩ ⟨rfl, rfl, rfl, rfl⟩))⟩
          repeat (first | (refine bcase_f rfl ?_; conv => whnf) | (refine bcase_t rfl ?_; conv => whnf) | (refine condK_of rfl ?_; conv => whnf) | (refine condK_of (by decide) ?_; conv => whnf) | (refine condK_of (by omega) ?_; conv => whnf) | (refine wrapK_in (w64 (by omega) (by omega)) ?_; conv => whnf))
          exact ⟨(k + 1, g, w), ⟨by simp only []; omega, hG, hP⟩, by simp only []; omega, (le0 (le_of_cov ⟨rfl, rfl, rfl, rfl, trivial⟩ ⟨rfl, rfl, trivial⟩ ⟨rfl, rfl, rfl, rfl⟩))⟩
        · repeat (first | (refine bcase_f rfl ?_; conv => whnf) | (refine bcase_t rfl ?_; conv => whnf) | (refine condK_of rfl ?_; conv => whnf) | (refine condK_of (by decide) ?_; conv => whnf) | (refine condK_of (by omega) ?_; conv => whnf) | (refine wrapK_in (w64 (by omega) (by omega)) ?_; conv => whnf))
          refine bcase_f (by simpa using k6) ?_
          conv => whnf
          repeat (first | (refine bcase_f rfl ?_; conv => whnf) | (refine bcase_t rfl ?_; conv => whnf) | (refine condK_of rfl ?_; conv => whnf) | (refine condK_of (by decide) ?_; conv => whnf) | (refine condK_of (by omega) ?_; conv => whnf) | (refine wrapK_in (w64 (by omega) (by omega)) ?_; conv => whnf))
          refine callX_pure (fmRight_ok hG) ?_
          conv => whnf
          repeat (first | (refine bcase_f rfl ?_; conv => whnf) | (refine bcase_t rfl ?_; conv => whnf) | (refine condK_of rfl ?_; conv => whnf) | (refine condK_of (by decide) ?_; conv => whnf) | (refine condK_of (by omega) ?_; conv => whnf) | (refine wrapK_in (w64 (by omega) (by omega)) ?_; conv => whnf))
          refine aloop (ι := Nat) (fun q => [(1, .d (.lst (acts.map encA))), (5, .ptr 5 0 0), (7, .ptr 7 0 0), (8, .d (.int .i64 k)), (12, .d (.int .i64 ((q : Int) + 1)))]) (fun q => [(5, .box g.box false), (7, .box (pinA w) false)])
            (fun q => q ≤ 16) (fun q => 16 - q) 0 (Nat.zero_le _) (le0 (le_of_cov ⟨rfl, rfl, rfl, rfl, rfl, trivial⟩ ⟨rfl, rfl, trivial⟩ ⟨rfl, rfl, rfl, rfl⟩)) ?_
          intro q hq
          conv => whnf
          refine bcase_p (fun hq2 => ?_) (fun hq2 => ?_) <;> conv => whnf
          · have hq3 : q + 1 ≤ 16 := by omega
            have hfind := Find_ok g ((q : Int) + 1) hG.tl hG.dl
            rcases hP (q + 1) (by omega) hq3 with ⟨i, hi, e1, e2⟩ | ⟨e1, e2⟩
            · have hA := atF_of hG (p := (q : Int) + 1) (by omega) hi (by rw [e1]; omega)
              have hip := hA.hp
              have hpg := hA.pg
              rw [findF_at hA] at hfind
              repeat (first | (refine bcase_f rfl ?_; conv => whnf) | (refine bcase_t rfl ?_; conv => whnf) | (refine condK_of rfl ?_; conv => whnf) | (refine condK_of (by decide) ?_; conv => whnf) | (refine condK_of (by omega) ?_; conv => whnf) | (refine wrapK_in (w64 (by omega) (by omega)) ?_; conv => whnf))
              refine callX_pure (d := .tup [.int .i64 i, .bool true]) hfind ?_
              conv => whnf
              repeat (first | (refine bcase_f rfl ?_; conv => whnf) | (refine bcase_t rfl ?_; conv => whnf) | (refine condK_of rfl ?_; conv => whnf) | (refine condK_of (by decide) ?_; conv => whnf) | (refine condK_of (by omega) ?_; conv => whnf) | (refine wrapK_in (w64 (by omega) (by omega)) ?_; conv => whnf))
              refine idxK_nat (i := q + 1) (by omega) ?_
              conv => whnf
              refine condK_of rfl ?_
              refine getC_of (pinA_get (by omega)) ?_
              conv => whnf
              have hml : (g.pg.map encP).length = g.pg.length := List.length_map ..
              have hmf : (g.fr.map encF).length = g.fr.length := List.length_map ..
              refine bcase_p (fun hpos => ?_) (fun hpos => ?_) <;> conv => whnf
              · repeat (first | (refine bcase_f rfl ?_; conv => whnf) | (refine bcase_t rfl ?_; conv => whnf) | (refine condK_of rfl ?_; conv => whnf) | (refine condK_of (by decide) ?_; conv => whnf) | (refine condK_of (by omega) ?_; conv => whnf) | (refine wrapK_in (w64 (by omega) (by omega)) ?_; conv => whnf))
                refine bcase_f (by rw [decide_eq_false_iff_not]; omega) ?_
                conv => whnf
                repeat (first | (refine bcase_f rfl ?_; conv => whnf) | (refine bcase_t rfl ?_; conv => whnf) | (refine condK_of rfl ?_; conv => whnf) | (refine condK_of (by decide) ?_; conv => whnf) | (refine condK_of (by omega) ?_; conv => whnf) | (refine wrapK_in (w64 (by omega) (by omega)) ?_; conv => whnf))
                refine idxK_nat (by omega) ?_
                conv => whnf
                refine getRow_of (x := encP g.pg[i]) (by simp [hip]) ?_
                conv => whnf
                repeat (first | (refine bcase_f rfl ?_; conv => whnf) | (refine bcase_t rfl ?_; conv => whnf) | (refine condK_of rfl ?_; conv => whnf) | (refine condK_of (by decide) ?_; conv => whnf) | (refine condK_of (by omega) ?_; conv => whnf) | (refine wrapK_in (w64 (by omega) (by omega)) ?_; conv => whnf))
                refine bcase_f (by rw [hpg]; simp) ?_
                conv => whnf
                repeat (first | (refine bcase_f rfl ?_; conv => whnf) | (refine bcase_t rfl ?_; conv => whnf) | (refine condK_of rfl ?_; conv => whnf) | (refine condK_of (by decide) ?_; conv => whnf) | (refine condK_of (by omega) ?_; conv => whnf) | (refine wrapK_in (w64 (by omega) (by omega)) ?_; conv => whnf))
                refine idxK_nat (by omega) ?_
                conv => whnf
                refine getRow_of (x := encF g.fr[i]) (by simp [hi]) ?_
                conv => whnf
                repeat (first | (refine bcase_f rfl ?_; conv => whnf) | (refine bcase_t rfl ?_; conv => whnf) | (refine condK_of rfl ?_; conv => whnf) | (refine condK_of (by decide) ?_; conv => whnf) | (refine condK_of (by omega) ?_; conv => whnf) | (refine wrapK_in (w64 (by omega) (by omega)) ?_; conv => whnf))
                refine idxK_nat (i := q + 1) (by omega) ?_
                conv => whnf
                refine condK_of rfl ?_
                refine getC_of (pinA_get (by omega)) ?_
                conv => whnf
                repeat (first | (refine bcase_f rfl ?_; conv => whnf) | (refine bcase_t rfl ?_; conv => whnf) | (refine condK_of rfl ?_; conv => whnf) | (refine condK_of (by decide) ?_; conv => whnf) | (refine condK_of (by omega) ?_; conv => whnf) | (refine wrapK_in (w64 (by omega) (by omega)) ?_; conv => whnf))
                refine bcase_f (by rw [e2]; simp) ?_
                conv => whnf
                repeat (first | (refine bcase_f rfl ?_; conv => whnf) | (refine bcase_t rfl ?_; conv => whnf) | (refine condK_of rfl ?_; conv => whnf) | (refine condK_of (by decide) ?_; conv => whnf) | (refine condK_of (by omega) ?_; conv => whnf) | (refine wrapK_in (w64 (by omega) (by omega)) ?_; conv => whnf))
                exact ⟨q + 1, hq3, by omega, (le0 (le_of_cov ⟨rfl, rfl, rfl, rfl, rfl, trivial⟩ ⟨rfl, rfl, trivial⟩ ⟨rfl, rfl, rfl, rfl⟩))⟩
              · repeat (first | (refine bcase_f rfl ?_; conv => whnf) | (refine bcase_t rfl ?_; conv => whnf) | (refine condK_of rfl ?_; conv => whnf) | (refine condK_of (by decide) ?_; conv => whnf) | (refine condK_of (by omega) ?_; conv => whnf) | (refine wrapK_in (w64 (by omega) (by omega)) ?_; conv => whnf))
                refine bcase_f (by rw [decide_eq_false_iff_not]; omega) ?_
                conv => whnf
                repeat (first | (refine bcase_f rfl ?_; conv => whnf) | (refine bcase_t rfl ?_; conv => whnf) | (refine condK_of rfl ?_; conv => whnf) | (refine condK_of (by decide) ?_; conv => whnf) | (refine condK_of (by omega) ?_; conv => whnf) | (refine wrapK_in (w64 (by omega) (by omega)) ?_; conv => whnf))
                refine idxK_nat (by omega) ?_
                conv => whnf
                refine getRow_of (x := encP g.pg[i]) (by simp [hip]) ?_
                conv => whnf
                repeat (first | (refine bcase_f rfl ?_; conv => whnf) | (refine bcase_t rfl ?_; conv => whnf) | (refine condK_of rfl ?_; conv => whnf) | (refine condK_of (by decide) ?_; conv => whnf) | (refine condK_of (by omega) ?_; conv => whnf) | (refine wrapK_in (w64 (by omega) (by omega)) ?_; conv => whnf))
                refine bcase_f (by rw [hpg]; simp) ?_
                conv => whnf
                repeat (first | (refine bcase_f rfl ?_; conv => whnf) | (refine bcase_t rfl ?_; conv => whnf) | (refine condK_of rfl ?_; conv => whnf) | (refine condK_of (by decide) ?_; conv => whnf) | (refine condK_of (by omega) ?_; conv => whnf) | (refine wrapK_in (w64 (by omega) (by omega)) ?_; conv => whnf))
                refine idxK_nat (by omega) ?_
                conv => whnf
                refine getRow_of (x := encF g.fr[i]) (by simp [hi]) ?_
                conv => whnf
                repeat (first | (refine bcase_f rfl ?_; conv => whnf) | (refine bcase_t rfl ?_; conv => whnf) | (refine condK_of rfl ?_; conv => whnf) | (refine condK_of (by decide) ?_; conv => whnf) | (refine condK_of (by omega) ?_; conv => whnf) | (refine wrapK_in (w64 (by omega) (by omega)) ?_; conv => whnf))
                refine idxK_nat (i := q + 1) (by omega) ?_
                conv => whnf
                refine condK_of rfl ?_
                refine getC_of (pinA_get (by omega)) ?_
                conv => whnf
                repeat (first | (refine bcase_f rfl ?_; conv => whnf) | (refine bcase_t rfl ?_; conv => whnf) | (refine condK_of rfl ?_; conv => whnf) | (refine condK_of (by decide) ?_; conv => whnf) | (refine condK_of (by omega) ?_; conv => whnf) | (refine wrapK_in (w64 (by omega) (by omega)) ?_; conv => whnf))
                refine bcase_f (by rw [e2]; simp) ?_
                conv => whnf
                repeat (first | (refine bcase_f rfl ?_; conv => whnf) | (refine bcase_t rfl ?_; conv => whnf) | (refine condK_of rfl ?_; conv => whnf) | (refine condK_of (by decide) ?_; conv => whnf) | (refine condK_of (by omega) ?_; conv => whnf) | (refine wrapK_in (w64 (by omega) (by omega)) ?_; conv => whnf))
                exact ⟨q + 1, hq3, by omega, (le0 (le_of_cov ⟨rfl, rfl, rfl, rfl, rfl, trivial⟩ ⟨rfl, rfl, trivial⟩ ⟨rfl, rfl, rfl, rfl⟩))⟩
            · rw [findF_no (p := (q : Int) + 1) hG (fun i hi e3 => e1 i hi (by rw [e3]; omega)) (by omega)] at hfind
              repeat (first | (refine bcase_f rfl ?_; conv => whnf) | (refine bcase_t rfl ?_; conv => whnf) | (refine condK_of rfl ?_; conv => whnf) | (refine condK_of (by decide) ?_; conv => whnf) | (refine condK_of (by omega) ?_; conv => whnf) | (refine wrapK_in (w64 (by omega) (by omega)) ?_; conv => whnf))
              refine callX_pure (d := .tup [.int .i64 0, .bool false]) hfind ?_
              conv => whnf
              repeat (first | (refine bcase_f rfl ?_; conv => whnf) | (refine bcase_t rfl ?_; conv => whnf) | (refine condK_of rfl ?_; conv => whnf) | (refine condK_of (by decide) ?_; conv => whnf) | (refine condK_of (by omega) ?_; conv => whnf) | (refine wrapK_in (w64 (by omega) (by omega)) ?_; conv => whnf))
              refine idxK_nat (i := q + 1) (by omega) ?_
              conv => whnf
              refine condK_of rfl ?_
              refine getC_of (pinA_get (by omega)) ?_
              conv => whnf
              refine bcase_f (by rw [e2]; decide) ?_
              conv => whnf
              repeat (first | (refine bcase_f rfl ?_; conv => whnf) | (refine bcase_t rfl ?_; conv => whnf) | (refine condK_of rfl ?_; conv => whnf) | (refine condK_of (by decide) ?_; conv => whnf) | (refine condK_of (by omega) ?_; conv => whnf) | (refine wrapK_in (w64 (by omega) (by omega)) ?_; conv => whnf))
              exact ⟨q + 1, hq3, by omega, (le0 (le_of_cov ⟨rfl, rfl, rfl, rfl, rfl, trivial⟩ ⟨rfl, rfl, trivial⟩ ⟨rfl, rfl, rfl, rfl⟩))⟩
          repeat (first | (refine bcase_f rfl ?_; conv => whnf) | (refine bcase_t rfl ?_; conv => whnf) | (refine condK_of rfl ?_; conv => whnf) | (refine condK_of (by decide) ?_; conv => whnf) | (refine condK_of (by omega) ?_; conv => whnf) | (refine wrapK_in (w64 (by omega) (by omega)) ?_; conv => whnf))
          exact ⟨(k + 1, g, w), ⟨by simp only []; omega, hG, hP⟩, by simp only []; omega, (le0 (le_of_cov ⟨rfl, rfl, rfl, rfl, trivial⟩ ⟨rfl, rfl, trivial⟩ ⟨rfl, rfl, rfl, rfl⟩))⟩
      · repeat (first | (refine bcase_f rfl ?_; conv => whnf) | (refine bcase_t rfl ?_; conv => whnf) | (refine condK_of rfl ?_; conv => whnf) | (refine condK_of (by decide) ?_; conv => whnf) | (refine condK_of (by omega) ?_; conv => whnf) | (refine wrapK_in (w64 (by omega) (by omega)) ?_; conv => whnf))
        refine bcase_f (by simpa using k6) ?_
        conv => whnf
        repeat (first | (refine bcase_f rfl ?_; conv => whnf) | (refine bcase_t rfl ?_; conv => whnf) | (refine condK_of rfl ?_; conv => whnf) | (refine condK_of (by decide) ?_; conv => whnf) | (refine condK_of (by omega) ?_; conv => whnf) | (refine wrapK_in (w64 (by omega) (by omega)) ?_; conv => whnf))
        refine callX_pure (fmRight_ok hG) ?_
        conv => whnf
        repeat (first | (refine bcase_f rfl ?_; conv => whnf) | (refine bcase_t rfl ?_; conv => whnf) | (refine condK_of rfl ?_; conv => whnf) | (refine condK_of (by decide) ?_; conv => whnf) | (refine condK_of (by omega) ?_; conv => whnf) | (refine wrapK_in (w64 (by omega) (by omega)) ?_; conv => whnf))
        refine aloop (ι := Nat) (fun q => [(1, .d (.lst (acts.map encA))), (5, .ptr 5 0 0), (7, .ptr 7 0 0), (8, .d (.int .i64 k)), (12, .d (.int .i64 ((q : Int) + 1)))]) (fun q => [(5, .box g.box false), (7, .box (pinA w) false)])
          (fun q => q ≤ 16) (fun q => 16 - q) 0 (Nat.zero_le _) (le0 (le_of_cov ⟨rfl, rfl, rfl, rfl, rfl, trivial⟩ ⟨rfl, rfl, trivial⟩ ⟨rfl, rfl, rfl, rfl⟩)) ?_
        intro q hq
        conv => whnf
        refine bcase_p (fun hq2 => ?_) (fun hq2 => ?_) <;> conv => whnf
        · have hq3 : q + 1 ≤ 16 := by omega
          have hfind := Find_ok g ((q : Int) + 1) hG.tl hG.dl
          rcases hP (q + 1) (by omega) hq3 with ⟨i, hi, e1, e2⟩ | ⟨e1, e2⟩
          · have hA := atF_of hG (p := (q : Int) + 1) (by omega) hi (by rw [e1]; omega)
            have hip := hA.hp
            have hpg := hA.pg
            rw [findF_at hA] at hfind
            repeat (first | (refine bcase_f rfl ?_; conv => whnf) | (refine bcase_t rfl ?_; conv => whnf) | (refine condK_of rfl ?_; conv => whnf) | (refine condK_of (by decide) ?_; conv => whnf) | (refine condK_of (by omega) ?_; conv => whnf) | (refine wrapK_in (w64 (by omega) (by omega)) ?_; conv => whnf))
            refine callX_pure (d := .tup [.int .i64 i, .bool true]) hfind ?_
            conv => whnf
            repeat (first | (refine bcase_f rfl ?_; conv => whnf) | (refine bcase_t rfl ?_; conv => whnf) | (refine condK_of rfl ?_; conv => whnf) | (refine condK_of (by decide) ?_; conv => whnf) | (refine condK_of (by omega) ?_; conv => whnf) | (refine wrapK_in (w64 (by omega) (by omega)) ?_; conv => whnf))
            refine idxK_nat (i := q + 1) (by omega) ?_
            conv => whnf
            refine condK_of rfl ?_
            refine getC_of (pinA_get (by omega)) ?_
            conv => whnf
            have hml : (g.pg.map encP).length = g.pg.length := List.length_map ..
            have hmf : (g.fr.map encF).length = g.fr.length := List.length_map ..
            refine bcase_p (fun hpos => ?_) (fun hpos => ?_) <;> conv => whnf
            · repeat (first | (refine bcase_f rfl ?_; conv => whnf) | (refine bcase_t rfl ?_; conv => whnf) | (refine condK_of rfl ?_; conv => whnf) | (refine condK_of (by decide) ?_; conv => whnf) | (refine condK_of (by omega) ?_; conv => whnf) | (refine wrapK_in (w64 (by omega) (by omega)) ?_; conv => whnf))
              refine bcase_f (by rw [decide_eq_false_iff_not]; omega) ?_
              conv => whnf
              repeat (first | (refine bcase_f rfl ?_; conv => whnf) | (refine bcase_t rfl ?_; conv => whnf) | (refine condK_of rfl ?_; conv => whnf) | (refine condK_of (by decide) ?_; conv => whnf) | (refine condK_of (by omega) ?_; conv => whnf) | (refine wrapK_in (w64 (by omega) (by omega)) ?_; conv => whnf))
              refine idxK_nat (by omega) ?_
              conv => whnf
              refine getRow_of (x := encP g.pg[i]) (by simp [hip]) ?_
              conv => whnf
              repeat (first | (refine bcase_f rfl ?_; conv => whnf) | (refine bcase_t rfl ?_; conv => whnf) | (refine condK_of rfl ?_; conv => whnf) | (refine condK_of (by decide) ?_; conv => whnf) | (refine condK_of (by omega) ?_; conv => whnf) | (refine wrapK_in (w64 (by omega) (by omega)) ?_; conv => whnf))
              refine bcase_f (by rw [hpg]; simp) ?_
              conv => whnf
              repeat (first | (refine bcase_f rfl ?_; conv => whnf) | (refine bcase_t rfl ?_; conv => whnf) | (refine condK_of rfl ?_; conv => whnf) | (refine condK_of (by decide) ?_; conv => whnf) | (refine condK_of (by omega) ?_; conv => whnf) | (refine wrapK_in (w64 (by omega) (by omega)) ?_; conv => whnf))
              refine idxK_nat (by omega) ?_
              conv => whnf
              refine getRow_of (x := encF g.fr[i]) (by simp [hi]) ?_
              conv => whnf
              repeat (first | (refine bcase_f rfl ?_; conv => whnf) | (refine bcase_t rfl ?_; conv => whnf) | (refine condK_of rfl ?_; conv => whnf) | (refine condK_of (by decide) ?_; conv => whnf) | (refine condK_of (by omega) ?_; conv => whnf) | (refine wrapK_in (w64 (by omega) (by omega)) ?_; conv => whnf))
              refine idxK_nat (i := q + 1) (by omega) ?_
              conv => whnf
              refine condK_of rfl ?_
              refine getC_of (pinA_get (by omega)) ?_
              conv => whnf
              repeat (first | (refine bcase_f rfl ?_; conv => whnf) | (refine bcase_t rfl ?_; conv => whnf) | (refine condK_of rfl ?_; conv => whnf) | (refine condK_of (by decide) ?_; conv => whnf) | (refine condK_of (by omega) ?_; conv => whnf) | (refine wrapK_in (w64 (by omega) (by omega)) ?_; conv => whnf))
              refine bcase_f (by rw [e2]; simp) ?_
              conv => whnf
              repeat (first | (refine bcase_f rfl ?_; conv => whnf) | (refine bcase_t rfl ?_; conv => whnf) | (refine condK_of rfl ?_; conv => whnf) | (refine condK_of (by decide) ?_; conv => whnf) | (refine condK_of (by omega) ?_; conv => whnf) | (refine wrapK_in (w64 (by omega) (by omega)) ?_; conv => whnf))
              exact ⟨q + 1, hq3, by omega, (le0 (le_of_cov ⟨rfl, rfl, rfl, rfl, rfl, trivial⟩ ⟨rfl, rfl, trivial⟩ ⟨rfl, rfl, rfl, rfl⟩))⟩
            · repeat (first | (refine bcase_f rfl ?_; conv => whnf) | (refine bcase_t rfl ?_; conv => whnf) | (refine condK_of rfl ?_; conv => whnf) | (refine condK_of (by decide) ?_; conv => whnf) | (refine condK_of (by omega) ?_; conv => whnf) | (refine wrapK_in (w64 (by omega) (by omega)) ?_; conv => whnf))
              refine bcase_f (by rw [decide_eq_false_iff_not]; omega) ?_
              conv => whnf
              repeat (first | (refine bcase_f rfl ?_; conv => whnf) | (refine bcase_t rfl ?_; conv => whnf) | (refine condK_of rfl ?_; conv => whnf) | (refine condK_of (by decide) ?_; conv => whnf) | (refine condK_of (by omega) ?_; conv => whnf) | (refine wrapK_in (w64 (by omega) (by omega)) ?_; conv => whnf))
              refine idxK_nat (by omega) ?_
              conv => whnf
              refine getRow_of (x := encP g.pg[i]) (by simp [hip]) ?_
              conv => whnf
              repeat (first | (refine bcase_f rfl ?_; conv => whnf) | (refine bcase_t rfl ?_; conv => whnf) | (refine condK_of rfl ?_; conv => whnf) | (refine condK_of (by decide) ?_; conv => whnf) | (refine condK_of (by omega) ?_; conv => whnf) | (refine wrapK_in (w64 (by omega) (by omega)) ?_; conv => whnf))
              refine bcase_f (by rw [hpg]; simp) ?_
              conv => whnf
              repeat (first | (refine bcase_f rfl ?_; conv => whnf) | (refine bcase_t rfl ?_; conv => whnf) | (refine condK_of rfl ?_; conv => whnf) | (refine condK_of (by decide) ?_; conv => whnf) | (refine condK_of (by omega) ?_; conv => whnf) | (refine wrapK_in (w64 (by omega) (by omega)) ?_; conv => whnf))
              refine idxK_nat (by omega) ?_
              conv => whnf
              refine getRow_of (x := encF g.fr[i]) (by simp [hi]) ?_
              conv => whnf
              repeat (first | (refine bcase_f rfl ?_; conv => whnf) | (refine bcase_t rfl ?_; conv => whnf) | (refine condK_of rfl ?_; conv => whnf) | (refine condK_of (by decide) ?_; conv => whnf) | (refine condK_of (by omega) ?_; conv => whnf) | (refine wrapK_in (w64 (by omega) (by omega)) ?_; conv => whnf))
              refine idxK_nat (i := q + 1) (by omega) ?_
              conv => whnf
              refine condK_of rfl ?_
              refine getC_of (pinA_get (by omega)) ?_
              conv => whnf
              repeat (first | (refine bcase_f rfl ?_; conv => whnf) | (refine bcase_t rfl ?_; conv => whnf) | (refine condK_of rfl ?_; conv => whnf) | (refine condK_of (by decide) ?_; conv => whnf) | (refine condK_of (by omega) ?_; conv => whnf) | (refine wrapK_in (w64 (by omega) (by omega)) ?_; conv => whnf))
              refine bcase_f (by rw [e2]; simp) ?_
              conv => whnf
              repeat (first | (refine bcase_f rfl ?_; conv => whnf) | (refine bcase_t rfl ?_; conv => whnf) | (refine condK_of rfl ?_; conv => whnf) | (refine condK_of (by decide) ?_; conv => whnf) | (refine condK_of (by omega) ?_; conv => whnf) | (refine wrapK_in (w64 (by omega) (by omega)) ?_; conv => whnf))
              exact ⟨q + 1, hq3, by omega, (le0 (le_of_cov ⟨rfl, rfl, rfl, rfl, rfl, trivial⟩ ⟨rfl, rfl, trivial⟩ ⟨rfl, rfl, rfl, rfl⟩))⟩
          · rw [findF_no (p := (q : Int) + 1) hG (fun i hi e3 => e1 i hi (by rw [e3]; omega)) (by omega)] at hfind
            repeat (first | (refine bcase_f rfl ?_; conv => whnf) | (refine bcase_t rfl ?_; conv => whnf) | (refine condK_of rfl ?_; conv => whnf) | (refine condK_of (by decide) ?_; conv => whnf) | (refine condK_of (by omega) ?_; conv => whnf) | (refine wrapK_in (w64 (by omega) (by omega)) ?_; conv => whnf))
            refine callX_pure (d := .tup [.int .i64 0, .bool false]) hfind ?_
            conv => whnf
            repeat (first | (refine bcase_f rfl ?_; conv => whnf) | (refine bcase_t rfl ?_; conv => whnf) | (refine condK_of rfl ?_; conv => whnf) | (refine condK_of (by decide) ?_; conv => whnf) | (refine condK_of (by omega) ?_; conv => whnf) | (refine wrapK_in (w64 (by omega) (by omega)) ?_; conv => whnf))
            refine idxK_nat (i := q + 1) (by omega) ?_
            conv => whnf
            refine condK_of rfl ?_
            refine getC_of (pinA_get (by omega)) ?_
            conv => whnf
            refine bcase_f (by rw [e2]; decide) ?_
            conv => whnf
            repeat (first | (refine bcase_f rfl ?_; conv => whnf) | (refine bcase_t rfl ?_; conv => whnf) | (refine condK_of rfl ?_; conv => whnf) | (refine condK_of (by decide) ?_; conv => whnf) | (refine condK_of (by omega) ?_; conv => whnf) | (refine wrapK_in (w64 (by omega) (by omega)) ?_; conv => whnf))
            exact ⟨q + 1, hq3, by omega, (le0 (le_of_cov ⟨rfl, rfl, rfl, rfl, rfl, trivial⟩ ⟨rfl, rfl, trivial⟩ ⟨rfl, rfl, rfl, rfl⟩))⟩
        repeat (first | (refine bcase_f rfl ?_; conv => whnf) | (refine bcase_t rfl ?_; conv => whnf) | (refine condK_of rfl ?_; conv => whnf) | (refine condK_of (by decide) ?_; conv => whnf) | (refine condK_of (by omega) ?_; conv => whnf) | (refine wrapK_in (w64 (by omega) (by omega)) ?_; conv => whnf))
        exact ⟨(k + 1, g, w), ⟨by simp only []; omega, hG, hP⟩, by simp only []; omega, (le0 (le_of_cov ⟨rfl, rfl, rfl, rfl, trivial⟩ ⟨rfl, rfl, trivial⟩ ⟨rfl, rfl, rfl, rfl⟩))⟩
    · repeat (first | (refine bcase_f rfl ?_; conv => whnf) | (refine bcase_t rfl ?_; conv => whnf) | (refine condK_of rfl ?_; conv => whnf) | (refine condK_of (by decide) ?_; conv => whnf) | (refine condK_of (by omega) ?_; conv => whnf) | (refine wrapK_in (w64 (by omega) (by omega)) ?_; conv => whnf))
      refine callX_pure awake_ok ?_
      conv => whnf
      repeat (first | (refine bcase_f rfl ?_; conv => whnf) | (refine bcase_t rfl ?_; conv => whnf) | (refine condK_of rfl ?_; conv => whnf) | (refine condK_of (by decide) ?_; conv => whnf) | (refine condK_of (by omega) ?_; conv => whnf) | (refine wrapK_in (w64 (by omega) (by omega)) ?_; conv => whnf))
      exact ret_of rfl rfl
  · repeat (first | (refine bcase_f rfl ?_; conv => whnf) | (refine bcase_t rfl ?_; conv => whnf) | (refine condK_of rfl ?_; conv => whnf) | (refine condK_of (by decide) ?_; conv => whnf) | (refine condK_of (by omega) ?_; conv => whnf) | (refine wrapK_in (w64 (by omega) (by omega)) ?_; conv => whnf))
    refine callX_pure awake_ok ?_
    conv => whnf
    repeat (first | (refine bcase_f rfl ?_; conv => whnf) | (refine bcase_t rfl ?_; conv => whnf) | (refine condK_of rfl ?_; conv => whnf) | (refine condK_of (by decide) ?_; conv => whnf) | (refine condK_of (by omega) ?_; conv => whnf) | (refine wrapK_in (w64 (by omega) (by omega)) ?_; conv => whnf))
    exact ret_of rfl rfl
end Go.Lk

set_option linter.unusedSimpArgs false
set_option linter.unusedVariables false
namespace Go.Lk
open Go Go.Proofs Go.RowKit

theorem kids : Kids Try.prog (· < Try.prog.types.size) := kids_rows (by kernel_rfl) (by kernel_rfl)
theorem sizes : ∀ t e, t < Try.prog.types.size → Try.prog.underlying t = some (.slice e) → 0 < Try.prog.cellsOf e := sliceSize_out (by kernel_rfl)
theorem own : ownKnob Try.prog.godebug = none := by kernel_rfl

theorem fit_fr {m : Nat} {ds : List D} (h : Fit T m 48 ds) : ∃ x : Fr, ds = encF x ∧ True := by
  obtain ⟨k, a, r, rfl, ha, b, r2, rfl, hb, c, r3, rfl, hc, rfl⟩ := fit_struct (fs := [(0, 3), (1, 3), (2, 4)]) rfl h
  obtain ⟨x, rfl, _⟩ := fit_int (k := .i64) rfl ha
  obtain ⟨y, rfl, _⟩ := fit_int (k := .i64) rfl hb
  obtain ⟨z, rfl⟩ := fit_bool rfl hc
  exact ⟨(x, y, z), rfl, trivial⟩
theorem fit_pg {m : Nat} {ds : List D} (h : Fit T m 46 ds) : ∃ x : Pg, ds = encP x ∧ True := by
  obtain ⟨k, a, r, rfl, ha, b, r2, rfl, hb, c, r3, rfl, hc, rfl⟩ := fit_struct (fs := [(0, 3), (1, 3), (2, 9)]) rfl h
  obtain ⟨x, rfl, _⟩ := fit_int (k := .i64) rfl ha
  obtain ⟨y, rfl, _⟩ := fit_int (k := .i64) rfl hb
  obtain ⟨z, rfl, _⟩ := fit_str rfl hc
  exact ⟨(x, y, z), rfl, trivial⟩
theorem fit_ii {m : Nat} {t : TypeId} {ds : List D} (ht : (T t).k = .struct [(0, 3), (1, 3)]) (h : Fit T m t ds) : ∃ x : Int × Int, ds = encI x ∧ True := by
  obtain ⟨a, b, e, _, _⟩ := fit_two (a := 3) (b := 3) ht rfl rfl h
  exact ⟨(a, b), e, trivial⟩
theorem fs_arg {n : Nat} {d : D} (h : FitV T n 31 d) : ∃ f : FX, d = encFS f := by
  obtain ⟨ds, e0, h'⟩ := fitV_agg (T := T) (t := 31) rfl h
  subst e0
  obtain ⟨m, c, r, rfl, hc, t, r2, rfl, ht, p, r3, rfl, hp, q, r4, rfl, hq, rfl⟩ := fit_struct (fs := [(0, 24), (2, 27), (3, 28), (4, 29)]) rfl h'
  obtain ⟨_, x, r, rfl, hx, y, r2, rfl, hy, rfl⟩ := fit_struct (fs := [(0, 22), (1, 3)]) rfl hc
  obtain ⟨_, z, r, rfl, hz, rfl⟩ := fit_struct (fs := [(0, 25)]) rfl ht
  obtain ⟨fr, rfl, _⟩ := fit_rows (f := encF) (Q := fun _ => True) (e := 48) rfl hx fun m x h => fit_fr h
  obtain ⟨hand, rfl, _⟩ := fit_int (k := .i64) rfl hy
  obtain ⟨tb, rfl, _⟩ := fit_rows (f := encI) (Q := fun _ => True) (e := 75) rfl hz fun m x h => fit_ii rfl h
  obtain ⟨pg, rfl, _⟩ := fit_rows (f := encP) (Q := fun _ => True) (e := 46) rfl hp fun m x h => fit_pg h
  obtain ⟨dt, rfl, _⟩ := fit_rows (f := encI) (Q := fun _ => True) (e := 78) rfl hq fun m x h => fit_ii rfl h
  exact ⟨⟨fr, hand, tb, pg, dt⟩, rfl⟩
theorem framesRoom_law : ∀ dds, FitAll T Try.f3.params.toList dds → ACall Try.prog 3 dds (.bool true) := by
  rintro dds ⟨n1, d1, r1, rfl, h1, rfl⟩
  obtain ⟨f, rfl⟩ := fs_arg h1
  exact framesRoom_ok f
theorem framesFull_law : ∀ dds, FitAll T Try.f4.params.toList dds → ACall Try.prog 4 dds (.bool true) := by
  rintro dds ⟨n1, d1, r1, rfl, h1, n2, d2, r2, rfl, h2, rfl⟩
  obtain ⟨a, rfl, w1⟩ := fitV_int (k := .u8) rfl h1
  obtain ⟨b, rfl, w2⟩ := fitV_int (k := .u8) rfl h2
  exact framesFull_ok a b (wf_u8 w1).1 (wf_u8 w1).2 (wf_u8 w2).1 (wf_u8 w2).2
theorem framesBack_law : ∀ dds, FitAll T Try.f5.params.toList dds → ACall Try.prog 5 dds (.bool true) := by
  rintro dds ⟨n1, d1, r1, rfl, h1, n2, d2, r2, rfl, h2, n3, d3, r3, rfl, h3, rfl⟩
  obtain ⟨f, rfl⟩ := fs_arg h1
  obtain ⟨id, rfl, _⟩ := fitV_int (k := .i64) rfl h2
  obtain ⟨ds, e0, h'⟩ := fitV_agg (T := T) (t := 46) rfl h3
  subst e0
  obtain ⟨p, rfl, _⟩ := fit_pg h'
  exact framesBack_ok f id p
theorem framesKeep_law : ∀ dds, FitAll T Try.f6.params.toList dds → ACall Try.prog 6 dds (.bool true) := by
  rintro dds ⟨n1, d1, r1, rfl, h1, n2, d2, r2, rfl, h2, rfl⟩
  obtain ⟨a, rfl, w1⟩ := fitV_int (k := .u8) rfl h1
  obtain ⟨l, rfl, hl, _⟩ := fitV_rows (f := encA) (Q := fun _ => True) (e := 71) rfl h2 fun m x hx => by
    obtain ⟨_, a, r, rfl, ha, b, r2, rfl, hb, c, r3, rfl, hc, s, r4, rfl, hs, p, r5, rfl, hp, rfl⟩ := fit_struct (fs := [(0, 3), (1, 3), (2, 3), (3, 9), (4, 46)]) rfl hx
    obtain ⟨a, rfl, _⟩ := fit_int (k := .i64) rfl ha
    obtain ⟨b, rfl, _⟩ := fit_int (k := .i64) rfl hb
    obtain ⟨c, rfl, _⟩ := fit_int (k := .i64) rfl hc
    obtain ⟨s, rfl, _⟩ := fit_str rfl hs
    obtain ⟨p, rfl, _⟩ := fit_pg hp
    exact ⟨⟨a, b, c, s, p⟩, rfl, trivial⟩
  exact framesKeep_ok a l (wf_u8 w1).1 (wf_u8 w1).2
end Go.Lk

