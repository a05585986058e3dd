/-
  ops.Do, ref18.Do.
-/
import Derived.Test.YtmkjebpdcclfdaaSd
set_option linter.unusedSectionVars false
set_option linter.unusedSimpArgs false
set_option linter.unusedVariables false
set_option linter.unnecessarySimpa false
namespace Go.Lk
open Go Go.Proofs Go.RowKit Go.Lk.St

def plN (l : List Pg) (id : Int) : Nat := l.findIdx fun p => decide (id ≤ p.1)
def plB (l : List Pg) (id : Int) : Bool := match l[plN l id]? with | some p => decide (p.1 = id) | none => false
theorem plN_le (l : List Pg) (id : Int) : plN l id ≤ l.length := List.findIdx_le_length
theorem plN_at {l : List Pg} {id : Int} {k : Nat} (hk : k < l.length) (h1 : id ≤ l[k].1) (h : ∀ i, i < k → (hi : i < l.length) → l[i].1 < id) : plN l id = k := by
  unfold plN
  rw [List.findIdx_eq hk]
  refine ⟨by simpa using h1, fun j hj => ?_⟩
  have := h j hj (by omega)
  simp; omega
theorem plN_end {l : List Pg} {id : Int} (h : ∀ i, i < l.length → (hi : i < l.length) → l[i].1 < id) : plN l id = l.length := by
  unfold plN
  rw [List.findIdx_eq_length]
  intro x hx
  obtain ⟨i, hi, rfl⟩ := List.mem_iff_getElem.1 hx
  have := h i hi hi
  simp; omega
theorem place_ok (l : List Pg) (id : Int) (hl : l.length ≤ 1000000) : ACall Try.prog 33 [.agg [.lst (l.map encP)], .int .i64 id] (.tup [.int .i64 (plN l id), .bool (plB l id)]) := by
  refine acall_of Try.func33 2 rfl (by kernel_rfl) ?_
  conv => whnf
  repeat (first | (refine bcase_f rfl ?_; conv => whnf) | (refine bcase_t rfl ?_; conv => whnf) | (refine condK_draw (by kernel_rfl) ?_; conv => whnf) | (refine condK_of rfl ?_; conv => whnf) | (refine condK_of (by decide) ?_; conv => whnf) | (refine condK_of (by omega) ?_; conv => whnf) | (refine wrapK_in (w64 (by omega) (by omega)) ?_; conv => whnf))
  have hm : (l.map encP).length = l.length := List.length_map ..
  refine aloop (ι := Nat) (fun k => [(1, .d (.int .i64 id)), (2, .ptr 2 0 0), (9, .d (.lst (l.map encP))), (10, .d (.int .i64 (l.map encP).length)), (11, .d (.int .i64 k))]) (fun _ => [(2, .box [.d (.lst (l.map encP))] false)])
    (fun k => k ≤ l.length ∧ ∀ i, i < k → (hi : i < l.length) → l[i].1 < id) (fun k => l.length - k) 0 ⟨by omega, by omega⟩ (le0 (le_of_cov ⟨rfl, rfl, rfl, rfl, rfl, trivial⟩ ⟨rfl, trivial⟩ ⟨rfl, rfl, rfl, rfl⟩)) ?_
  rintro k ⟨hk, hR⟩
  conv => whnf
  refine bcase_p (fun h5 => ?_) (fun h5 => ?_) <;> conv => whnf
  · have hk2 : k < l.length := by omega
    refine idxK_nat (by omega) ?_
    conv => whnf
    refine getRow_of (x := encP l[k]) (by simp [hk2]) ?_
    conv => whnf
    repeat (first | (refine bcase_f rfl ?_; conv => whnf) | (refine bcase_t rfl ?_; conv => whnf) | (refine condK_draw (by kernel_rfl) ?_; conv => whnf) | (refine condK_of rfl ?_; conv => whnf) | (refine condK_of (by decide) ?_; conv => whnf) | (refine condK_of (by omega) ?_; conv => whnf) | (refine wrapK_in (w64 (by omega) (by omega)) ?_; conv => whnf))
    refine bcase_p (fun g => ?_) (fun g => ?_) <;> conv => whnf
    · repeat (first | (refine bcase_f rfl ?_; conv => whnf) | (refine bcase_t rfl ?_; conv => whnf) | (refine condK_draw (by kernel_rfl) ?_; conv => whnf) | (refine condK_of rfl ?_; conv => whnf) | (refine condK_of (by decide) ?_; conv => whnf) | (refine condK_of (by omega) ?_; conv => whnf) | (refine wrapK_in (w64 (by omega) (by omega)) ?_; conv => whnf))
      have e : plN l id = k := plN_at hk2 g hR
      have e2 : plB l id = decide (l[k].1 = id) := by simp [plB, e, hk2]
      rw [e2, e]
      exact ret_of rfl rfl
    · repeat (first | (refine bcase_f rfl ?_; conv => whnf) | (refine bcase_t rfl ?_; conv => whnf) | (refine condK_draw (by kernel_rfl) ?_; conv => whnf) | (refine condK_of rfl ?_; conv => whnf) | (refine condK_of (by decide) ?_; conv => whnf) | (refine condK_of (by omega) ?_; conv => whnf) | (refine wrapK_in (w64 (by omega) (by omega)) ?_; conv => whnf))
      exact ⟨k + 1, ⟨by omega, fun i hi hi2 => by
        by_cases q : i = k
        · subst q; omega
        · exact hR i (by omega) hi2⟩, by omega, (le0 (le_of_cov ⟨rfl, rfl, rfl, rfl, rfl, trivial⟩ ⟨rfl, trivial⟩ ⟨rfl, rfl, rfl, rfl⟩))⟩
  · repeat (first | (refine bcase_f rfl ?_; conv => whnf) | (refine bcase_t rfl ?_; conv => whnf) | (refine condK_draw (by kernel_rfl) ?_; conv => whnf) | (refine condK_of rfl ?_; conv => whnf) | (refine condK_of (by decide) ?_; conv => whnf) | (refine condK_of (by omega) ?_; conv => whnf) | (refine wrapK_in (w64 (by omega) (by omega)) ?_; conv => whnf))
    have e : plN l id = l.length := plN_end fun i hi hi2 => hR i (by omega) hi2
    have e2 : plB l id = false := by simp [plB, e]
    rw [e2, e, ← hm]
    exact ret_of rfl rfl

abbrev Op := Int × Int × ByteArray
def encO (o : Op) : List D := [.int .i64 o.1, .int .i64 o.2.1, .str o.2.2]
abbrev Res := Int × Pg
def zP : Pg := (0, 0, ByteArray.empty)
def encR (r : Res) : List D := [.int .i64 r.1, .int .i64 r.2.1, .int .i64 r.2.2.1, .str r.2.2.2]
noncomputable def doM (l : List Pg) (o : Op) : List Pg × Res :=
  if mapB l = false ∨ o.1 < 1 ∨ 4 < o.1 ∨ o.2.1 < 1 ∨ 16 < o.2.1 then (l, (1, zP)) else
  if o.1 = 1 then (if plB l o.2.1 = true then (l, (4, zP)) else (l.take (plN l o.2.1) ++ (o.2.1, 1, ByteArray.empty) :: l.drop (plN l o.2.1), (0, (o.2.1, 1, ByteArray.empty)))) else
  if plB l o.2.1 = false then (l, (3, zP)) else
  match l[plN l o.2.1]? with
  | none => (l, (0, zP))
  | some p => if o.1 = 2 then (l, (0, p)) else
    if o.1 = 4 then (l.take (plN l o.2.1) ++ l.drop (plN l o.2.1 + 1), (0, zP)) else
    if 16 < o.2.2.size then (l, (5, zP)) else
    if 2147483647 ≤ p.2.1 then (l, (7, zP)) else (l.set (plN l o.2.1) (p.1, p.2.1 + 1, o.2.2), (0, (p.1, p.2.1 + 1, o.2.2)))

theorem opsDo_ok (l : List Pg) (o : Op) (hl : l.length ≤ 1000) : ACall Try.prog 23 [.agg [.lst (l.map encP)], .agg (encO o)] (.tup [.agg [.lst ((doM l o).1.map encP)], .agg (encR (doM l o).2)]) := by
  refine acall_of Try.func23 2 rfl (by kernel_rfl) ?_
  conv => whnf
  repeat (first | (refine bcase_f rfl ?_; conv => whnf) | (refine bcase_t rfl ?_; conv => whnf) | (refine condK_draw (by kernel_rfl) ?_; conv => whnf) | (refine condK_of rfl ?_; conv => whnf) | (refine condK_of (by decide) ?_; conv => whnf) | (refine condK_of (by omega) ?_; conv => whnf) | (refine wrapK_in (w64 (by omega) (by omega)) ?_; conv => whnf))
  refine callX_pure (opsRight_ok l (by omega)) ?_
  conv => whnf
  repeat (first | (refine bcase_f rfl ?_; conv => whnf) | (refine bcase_t rfl ?_; conv => whnf) | (refine condK_draw (by kernel_rfl) ?_; conv => whnf) | (refine condK_of rfl ?_; conv => whnf) | (refine condK_of (by decide) ?_; conv => whnf) | (refine condK_of (by omega) ?_; conv => whnf) | (refine wrapK_in (w64 (by omega) (by omega)) ?_; conv => whnf))
  refine bcase_intro (fun g0 => ?_) (fun g0 => ?_) <;> conv => whnf
  · repeat (first | (refine bcase_f rfl ?_; conv => whnf) | (refine bcase_t rfl ?_; conv => whnf) | (refine condK_draw (by kernel_rfl) ?_; conv => whnf) | (refine condK_of rfl ?_; conv => whnf) | (refine condK_of (by decide) ?_; conv => whnf) | (refine condK_of (by omega) ?_; conv => whnf) | (refine wrapK_in (w64 (by omega) (by omega)) ?_; conv => whnf))
    have e : doM l o = (l, (1, zP)) := if_pos (.inl (by simpa using g0))
    rw [e]
    exact ret_of rfl rfl
  have g0 : mapB l = true := by simpa using g0
  repeat (first | (refine bcase_f rfl ?_; conv => whnf) | (refine bcase_t rfl ?_; conv => whnf) | (refine condK_draw (by kernel_rfl) ?_; conv => whnf) | (refine condK_of rfl ?_; conv => whnf) | (refine condK_of (by decide) ?_; conv => whnf) | (refine condK_of (by omega) ?_; conv => whnf) | (refine wrapK_in (w64 (by omega) (by omega)) ?_; conv => whnf))
  refine bcase_p (fun g1 => ?_) (fun g1 => ?_) <;> conv => whnf
  · repeat (first | (refine bcase_f rfl ?_; conv => whnf) | (refine bcase_t rfl ?_; conv => whnf) | (refine condK_draw (by kernel_rfl) ?_; conv => whnf) | (refine condK_of rfl ?_; conv => whnf) | (refine condK_of (by decide) ?_; conv => whnf) | (refine condK_of (by omega) ?_; conv => whnf) | (refine wrapK_in (w64 (by omega) (by omega)) ?_; conv => whnf))
    have e : doM l o = (l, (1, zP)) := if_pos (.inr (.inl g1))
    rw [e]
    exact ret_of rfl rfl
  repeat (first | (refine bcase_f rfl ?_; conv => whnf) | (refine bcase_t rfl ?_; conv => whnf) | (refine condK_draw (by kernel_rfl) ?_; conv => whnf) | (refine condK_of rfl ?_; conv => whnf) | (refine condK_of (by decide) ?_; conv => whnf) | (refine condK_of (by omega) ?_; conv => whnf) | (refine wrapK_in (w64 (by omega) (by omega)) ?_; conv => whnf))
  refine bcase_p (fun g2 => ?_) (fun g2 => ?_) <;> conv => whnf
  · repeat (first | (refine bcase_f rfl ?_; conv => whnf) | (refine bcase_t rfl ?_; conv => whnf) | (refine condK_draw (by kernel_rfl) ?_; conv => whnf) | (refine condK_of rfl ?_; conv => whnf) | (refine condK_of (by decide) ?_; conv => whnf) | (refine condK_of (by omega) ?_; conv => whnf) | (refine wrapK_in (w64 (by omega) (by omega)) ?_; conv => whnf))
    have e : doM l o = (l, (1, zP)) := if_pos (.inr (.inr (.inl g2)))
    rw [e]
    exact ret_of rfl rfl
  repeat (first | (refine bcase_f rfl ?_; conv => whnf) | (refine bcase_t rfl ?_; conv => whnf) | (refine condK_draw (by kernel_rfl) ?_; conv => whnf) | (refine condK_of rfl ?_; conv => whnf) | (refine condK_of (by decide) ?_; conv => whnf) | (refine condK_of (by omega) ?_; conv => whnf) | (refine wrapK_in (w64 (by omega) (by omega)) ?_; conv => whnf))
  refine bcase_p (fun g3 => ?_) (fun g3 => ?_) <;> conv => whnf
  · repeat (first | (refine bcase_f rfl ?_; conv => whnf) | (refine bcase_t rfl ?_; conv => whnf) | (refine condK_draw (by kernel_rfl) ?_; conv => whnf) | (refine condK_of rfl ?_; conv => whnf) | (refine condK_of (by decide) ?_; conv => whnf) | (refine condK_of (by omega) ?_; conv => whnf) | (refine wrapK_in (w64 (by omega) (by omega)) ?_; conv => whnf))
    have e : doM l o = (l, (1, zP)) := if_pos (.inr (.inr (.inr (.inl g3))))
    rw [e]
    exact ret_of rfl rfl
  repeat (first | (refine bcase_f rfl ?_; conv => whnf) | (refine bcase_t rfl ?_; conv => whnf) | (refine condK_draw (by kernel_rfl) ?_; conv => whnf) | (refine condK_of rfl ?_; conv => whnf) | (refine condK_of (by decide) ?_; conv => whnf) | (refine condK_of (by omega) ?_; conv => whnf) | (refine wrapK_in (w64 (by omega) (by omega)) ?_; conv => whnf))
  refine bcase_p (fun g4 => ?_) (fun g4 => ?_) <;> conv => whnf
  · repeat (first | (refine bcase_f rfl ?_; conv => whnf) | (refine bcase_t rfl ?_; conv => whnf) | (refine condK_draw (by kernel_rfl) ?_; conv => whnf) | (refine condK_of rfl ?_; conv => whnf) | (refine condK_of (by decide) ?_; conv => whnf) | (refine condK_of (by omega) ?_; conv => whnf) | (refine wrapK_in (w64 (by omega) (by omega)) ?_; conv => whnf))
    have e : doM l o = (l, (1, zP)) := if_pos (.inr (.inr (.inr (.inr g4))))
    rw [e]
    exact ret_of rfl rfl
  have e0 : ¬ (mapB l = false ∨ o.1 < 1 ∨ 4 < o.1 ∨ o.2.1 < 1 ∨ 16 < o.2.1) := by rw [g0]; simp; omega
  repeat (first | (refine bcase_f rfl ?_; conv => whnf) | (refine bcase_t rfl ?_; conv => whnf) | (refine condK_draw (by kernel_rfl) ?_; conv => whnf) | (refine condK_of rfl ?_; conv => whnf) | (refine condK_of (by decide) ?_; conv => whnf) | (refine condK_of (by omega) ?_; conv => whnf) | (refine wrapK_in (w64 (by omega) (by omega)) ?_; conv => whnf))
  refine callX_pure (place_ok l o.2.1 (by omega)) ?_
  conv => whnf
  repeat (first | (refine bcase_f rfl ?_; conv => whnf) | (refine bcase_t rfl ?_; conv => whnf) | (refine condK_draw (by kernel_rfl) ?_; conv => whnf) | (refine condK_of rfl ?_; conv => whnf) | (refine condK_of (by decide) ?_; conv => whnf) | (refine condK_of (by omega) ?_; conv => whnf) | (refine wrapK_in (w64 (by omega) (by omega)) ?_; conv => whnf))
  refine bcase_p (fun k1 => ?_) (fun k1 => ?_) <;> conv => whnf
  · repeat (first | (refine bcase_f rfl ?_; conv => whnf) | (refine bcase_t rfl ?_; conv => whnf) | (refine condK_draw (by kernel_rfl) ?_; conv => whnf) | (refine condK_of rfl ?_; conv => whnf) | (refine condK_of (by decide) ?_; conv => whnf) | (refine condK_of (by omega) ?_; conv => whnf) | (refine wrapK_in (w64 (by omega) (by omega)) ?_; conv => whnf))
    refine bcase_intro (fun b1 => ?_) (fun b1 => ?_) <;> conv => whnf
    · repeat (first | (refine bcase_f rfl ?_; conv => whnf) | (refine bcase_t rfl ?_; conv => whnf) | (refine condK_draw (by kernel_rfl) ?_; conv => whnf) | (refine condK_of rfl ?_; conv => whnf) | (refine condK_of (by decide) ?_; conv => whnf) | (refine condK_of (by omega) ?_; conv => whnf) | (refine wrapK_in (w64 (by omega) (by omega)) ?_; conv => whnf))
      have e : doM l o = (l, (4, zP)) := by rw [doM, if_neg e0, if_pos k1, if_pos b1]
      rw [e]
      exact ret_of rfl rfl
    repeat (first | (refine bcase_f rfl ?_; conv => whnf) | (refine bcase_t rfl ?_; conv => whnf) | (refine condK_draw (by kernel_rfl) ?_; conv => whnf) | (refine condK_of rfl ?_; conv => whnf) | (refine condK_of (by decide) ?_; conv => whnf) | (refine condK_of (by omega) ?_; conv => whnf) | (refine wrapK_in (w64 (by omega) (by omega)) ?_; conv => whnf))
    refine callX_own (cloneP_ok l (by omega)) ?_
    conv => whnf
    repeat (first | (refine bcase_f rfl ?_; conv => whnf) | (refine bcase_t rfl ?_; conv => whnf) | (refine condK_draw (by kernel_rfl) ?_; conv => whnf) | (refine condK_of rfl ?_; conv => whnf) | (refine condK_of (by decide) ?_; conv => whnf) | (refine condK_of (by omega) ?_; conv => whnf) | (refine wrapK_in (w64 (by omega) (by omega)) ?_; conv => whnf))
    have hm : (l.map encP).length = l.length := List.length_map ..
    refine callX_win (insert_ok (l := l.map encP) (vs := [encP (o.2.1, 1, ByteArray.empty)]) (i := plN l o.2.1) (by rw [hm]; exact plN_le l o.2.1) (by omega) (Nat.lt_succ_self 0) (by simp) (encP_ok l) rfl) [(1000000, 57)] rfl ⟨rfl, rfl, trivial⟩ rfl ?_
    conv => whnf
    repeat (first | (refine bcase_f rfl ?_; conv => whnf) | (refine bcase_t rfl ?_; conv => whnf) | (refine condK_draw (by kernel_rfl) ?_; conv => whnf) | (refine condK_of rfl ?_; conv => whnf) | (refine condK_of (by decide) ?_; conv => whnf) | (refine condK_of (by omega) ?_; conv => whnf) | (refine wrapK_in (w64 (by omega) (by omega)) ?_; conv => whnf))
    have e : doM l o = (l.take (plN l o.2.1) ++ (o.2.1, 1, ByteArray.empty) :: l.drop (plN l o.2.1), (0, (o.2.1, 1, ByteArray.empty))) := by rw [doM, if_neg e0, if_pos k1, if_neg (by rw [b1]; decide)]
    rw [e]
    have e2 : (l.take (plN l o.2.1) ++ (o.2.1, 1, ByteArray.empty) :: l.drop (plN l o.2.1)).map encP = (l.map encP).take (plN l o.2.1) ++ ([encP (o.2.1, 1, ByteArray.empty)] ++ (l.map encP).drop (plN l o.2.1)) := by simp [List.map_take, List.map_drop]
    show _ = _
    rw [e2]
    exact ret_of rfl rfl
  repeat (first | (refine bcase_f rfl ?_; conv => whnf) | (refine bcase_t rfl ?_; conv => whnf) | (refine condK_draw (by kernel_rfl) ?_; conv => whnf) | (refine condK_of rfl ?_; conv => whnf) | (refine condK_of (by decide) ?_; conv => whnf) | (refine condK_of (by omega) ?_; conv => whnf) | (refine wrapK_in (w64 (by omega) (by omega)) ?_; conv => whnf))
  refine bcase_intro (fun b1 => ?_) (fun b1 => ?_) <;> conv => whnf
  · repeat (first | (refine bcase_f rfl ?_; conv => whnf) | (refine bcase_t rfl ?_; conv => whnf) | (refine condK_draw (by kernel_rfl) ?_; conv => whnf) | (refine condK_of rfl ?_; conv => whnf) | (refine condK_of (by decide) ?_; conv => whnf) | (refine condK_of (by omega) ?_; conv => whnf) | (refine wrapK_in (w64 (by omega) (by omega)) ?_; conv => whnf))
    have e : doM l o = (l, (3, zP)) := by rw [doM, if_neg e0, if_neg k1, if_pos (by simpa using b1)]
    rw [e]
    exact ret_of rfl rfl
  have b1 : plB l o.2.1 = true := by simpa using b1
  obtain ⟨n, hn⟩ : ∃ n, plN l o.2.1 = n := ⟨_, rfl⟩
  rw [hn]
  have hm : (l.map encP).length = l.length := List.length_map ..
  obtain ⟨hnl, hnp⟩ : ∃ h : n < l.length, l[n].1 = o.2.1 := by
    have hb := b1
    unfold plB at hb
    rw [hn] at hb
    cases hq : l[n]? with
    | none => rw [hq] at hb; cases hb
    | some p =>
      rw [hq] at hb
      obtain ⟨h1, h2⟩ := List.getElem?_eq_some_iff.1 hq
      exact ⟨h1, by rw [h2]; simpa using hb⟩
  have hD : doM l o = (if o.1 = 2 then (l, (0, l[n])) else
    if o.1 = 4 then (l.take n ++ l.drop (n + 1), (0, zP)) else
    if 16 < o.2.2.size then (l, (5, zP)) else
    if 2147483647 ≤ l[n].2.1 then (l, (7, zP)) else (l.set n (l[n].1, l[n].2.1 + 1, o.2.2), (0, (l[n].1, l[n].2.1 + 1, o.2.2)))) := by
    rw [doM, if_neg e0, if_neg k1, if_neg (by rw [b1]; decide), hn, List.getElem?_eq_getElem hnl]
  rw [hD]
  clear hD
  repeat (first | (refine bcase_f rfl ?_; conv => whnf) | (refine bcase_t rfl ?_; conv => whnf) | (refine condK_draw (by kernel_rfl) ?_; conv => whnf) | (refine condK_of rfl ?_; conv => whnf) | (refine condK_of (by decide) ?_; conv => whnf) | (refine condK_of (by omega) ?_; conv => whnf) | (refine wrapK_in (w64 (by omega) (by omega)) ?_; conv => whnf))
  refine idxK_nat (by omega) ?_
  conv => whnf
  refine getRow_of (x := encP l[n]) (by simp [hnl]) ?_
  conv => whnf
  repeat (first | (refine bcase_f rfl ?_; conv => whnf) | (refine bcase_t rfl ?_; conv => whnf) | (refine condK_draw (by kernel_rfl) ?_; conv => whnf) | (refine condK_of rfl ?_; conv => whnf) | (refine condK_of (by decide) ?_; conv => whnf) | (refine condK_of (by omega) ?_; conv => whnf) | (refine wrapK_in (w64 (by omega) (by omega)) ?_; conv => whnf))
  refine bcase_p (fun k2 => ?_) (fun k2 => ?_) <;> conv => whnf
  · rw [if_pos k2]
    repeat (first | (refine bcase_f rfl ?_; conv => whnf) | (refine bcase_t rfl ?_; conv => whnf) | (refine condK_draw (by kernel_rfl) ?_; conv => whnf) | (refine condK_of rfl ?_; conv => whnf) | (refine condK_of (by decide) ?_; conv => whnf) | (refine condK_of (by omega) ?_; conv => whnf) | (refine wrapK_in (w64 (by omega) (by omega)) ?_; conv => whnf))
    exact ret_of rfl rfl
  rw [if_neg k2]
  repeat (first | (refine bcase_f rfl ?_; conv => whnf) | (refine bcase_t rfl ?_; conv => whnf) | (refine condK_draw (by kernel_rfl) ?_; conv => whnf) | (refine condK_of rfl ?_; conv => whnf) | (refine condK_of (by decide) ?_; conv => whnf) | (refine condK_of (by omega) ?_; conv => whnf) | (refine wrapK_in (w64 (by omega) (by omega)) ?_; conv => whnf))
  refine bcase_p (fun k3 => ?_) (fun k3 => ?_) <;> conv => whnf
  · rw [if_pos k3]
    repeat (first | (refine bcase_f rfl ?_; conv => whnf) | (refine bcase_t rfl ?_; conv => whnf) | (refine condK_draw (by kernel_rfl) ?_; conv => whnf) | (refine condK_of rfl ?_; conv => whnf) | (refine condK_of (by decide) ?_; conv => whnf) | (refine condK_of (by omega) ?_; conv => whnf) | (refine wrapK_in (w64 (by omega) (by omega)) ?_; conv => whnf))
    refine callX_own (cloneP_ok l (by omega)) ?_
    conv => whnf
    repeat (first | (refine bcase_f rfl ?_; conv => whnf) | (refine bcase_t rfl ?_; conv => whnf) | (refine condK_draw (by kernel_rfl) ?_; conv => whnf) | (refine condK_of rfl ?_; conv => whnf) | (refine condK_of (by decide) ?_; conv => whnf) | (refine condK_of (by omega) ?_; conv => whnf) | (refine wrapK_in (w64 (by omega) (by omega)) ?_; conv => whnf))
    refine callX_win (delete_ok (l := l.map encP) (i := n) (j := n + 1) (by omega) (by omega) (by omega) (encP_ok l)) [] rfl ⟨rfl, trivial⟩ rfl ?_
    conv => whnf
    repeat (first | (refine bcase_f rfl ?_; conv => whnf) | (refine bcase_t rfl ?_; conv => whnf) | (refine condK_draw (by kernel_rfl) ?_; conv => whnf) | (refine condK_of rfl ?_; conv => whnf) | (refine condK_of (by decide) ?_; conv => whnf) | (refine condK_of (by omega) ?_; conv => whnf) | (refine wrapK_in (w64 (by omega) (by omega)) ?_; conv => whnf))
    rw [List.map_append, List.map_take, List.map_drop]
    exact ret_of rfl rfl
  rw [if_neg k3]
  repeat (first | (refine bcase_f rfl ?_; conv => whnf) | (refine bcase_t rfl ?_; conv => whnf) | (refine condK_draw (by kernel_rfl) ?_; conv => whnf) | (refine condK_of rfl ?_; conv => whnf) | (refine condK_of (by decide) ?_; conv => whnf) | (refine condK_of (by omega) ?_; conv => whnf) | (refine wrapK_in (w64 (by omega) (by omega)) ?_; conv => whnf))
  refine bcase_p (fun k4 => ?_) (fun k4 => ?_) <;> conv => whnf
  · rw [if_pos (show 16 < o.2.2.size by omega)]
    repeat (first | (refine bcase_f rfl ?_; conv => whnf) | (refine bcase_t rfl ?_; conv => whnf) | (refine condK_draw (by kernel_rfl) ?_; conv => whnf) | (refine condK_of rfl ?_; conv => whnf) | (refine condK_of (by decide) ?_; conv => whnf) | (refine condK_of (by omega) ?_; conv => whnf) | (refine wrapK_in (w64 (by omega) (by omega)) ?_; conv => whnf))
    exact ret_of rfl rfl
  rw [if_neg (show ¬ 16 < o.2.2.size by omega)]
  repeat (first | (refine bcase_f rfl ?_; conv => whnf) | (refine bcase_t rfl ?_; conv => whnf) | (refine condK_draw (by kernel_rfl) ?_; conv => whnf) | (refine condK_of rfl ?_; conv => whnf) | (refine condK_of (by decide) ?_; conv => whnf) | (refine condK_of (by omega) ?_; conv => whnf) | (refine wrapK_in (w64 (by omega) (by omega)) ?_; conv => whnf))
  refine bcase_p (fun k5 => ?_) (fun k5 => ?_) <;> conv => whnf
  · rw [if_pos k5]
    repeat (first | (refine bcase_f rfl ?_; conv => whnf) | (refine bcase_t rfl ?_; conv => whnf) | (refine condK_draw (by kernel_rfl) ?_; conv => whnf) | (refine condK_of rfl ?_; conv => whnf) | (refine condK_of (by decide) ?_; conv => whnf) | (refine condK_of (by omega) ?_; conv => whnf) | (refine wrapK_in (w64 (by omega) (by omega)) ?_; conv => whnf))
    exact ret_of rfl rfl
  rw [if_neg k5]
  have hv := pgR_out.1 ((mapB_t.1 g0).one l[n] (List.getElem_mem hnl))
  repeat (first | (refine bcase_f rfl ?_; conv => whnf) | (refine bcase_t rfl ?_; conv => whnf) | (refine condK_draw (by kernel_rfl) ?_; conv => whnf) | (refine condK_of rfl ?_; conv => whnf) | (refine condK_of (by decide) ?_; conv => whnf) | (refine condK_of (by omega) ?_; conv => whnf) | (refine wrapK_in (w64 (by omega) (by omega)) ?_; conv => whnf))
  refine callX_own (cloneP_ok l (by omega)) ?_
  conv => whnf
  repeat (first | (refine bcase_f rfl ?_; conv => whnf) | (refine bcase_t rfl ?_; conv => whnf) | (refine condK_draw (by kernel_rfl) ?_; conv => whnf) | (refine condK_of rfl ?_; conv => whnf) | (refine condK_of (by decide) ?_; conv => whnf) | (refine condK_of (by omega) ?_; conv => whnf) | (refine wrapK_in (w64 (by omega) (by omega)) ?_; conv => whnf))
  refine idxK_nat (by omega) ?_
  conv => whnf
  refine getRow_of (x := encP l[n]) (by simp [hnl]) ?_
  conv => whnf
  repeat (first | (refine bcase_f rfl ?_; conv => whnf) | (refine bcase_t rfl ?_; conv => whnf) | (refine condK_draw (by kernel_rfl) ?_; conv => whnf) | (refine condK_of rfl ?_; conv => whnf) | (refine condK_of (by decide) ?_; conv => whnf) | (refine condK_of (by omega) ?_; conv => whnf) | (refine wrapK_in (w64 (by omega) (by omega)) ?_; conv => whnf))
  have e2 : (l.set n (l[n].1, l[n].2.1 + 1, o.2.2)).map encP = (l.map encP).set n (encP (l[n].1, l[n].2.1 + 1, o.2.2)) := List.map_set ..
  refine ret_of rfl ?_
  show D.tup [.agg [.lst ((l.map encP).set n (encP (l[n].1, l[n].2.1 + 1, o.2.2)))], .agg (encR (0, (l[n].1, l[n].2.1 + 1, o.2.2)))] = _
  rw [← e2]
end Go.Lk

set_option linter.unusedSimpArgs false
set_option linter.unusedVariables false
set_option linter.unnecessarySimpa false
namespace Go.Lk
open Go Go.Proofs Go.RowKit Go.Lk.St

theorem storeK_agg {c : List AV} {j : Nat} {l : List AV} {K : List AV → Prop} (h : Nat.beq l.length c.length = false) (k : K (splice c j l)) : storeK c j (.agg l) K := storeK_part h k
/-! ### an array of pages, cell by cell -/
def cellP (x : Pg) : List AV := [.d (.int .i64 x.1), .d (.int .i64 x.2.1), .d (.str x.2.2)]
def flatP : List Pg → List AV
  | [] => []
  | x :: r => cellP x ++ flatP r
theorem flatP_len : ∀ l : List Pg, (flatP l).length = l.length * 3
  | [] => rfl
  | x :: r => by simp [flatP, flatP_len r, cellP]; omega
theorem flatP_drop : ∀ (l : List Pg) (i : Nat), (flatP l).drop (i * 3) = flatP (l.drop i)
  | l, 0 => by simp
  | [], i + 1 => by simp [flatP]
  | x :: r, i + 1 => by
    rw [show (i + 1) * 3 = i * 3 + 1 + 1 + 1 by omega]
    exact flatP_drop r i
theorem flatP_part {l : List Pg} {i : Nat} (h : i < l.length) : ((flatP l).drop (i * 3)).take 3 = cellP l[i] := by
  rw [flatP_drop, List.drop_eq_getElem_cons h]; rfl
theorem flatP_get {l : List Pg} {i j : Nat} (h : i < l.length) (hj : j < 3) : (flatP l)[i * 3 + j]? = (cellP l[i])[j]? := by
  rw [← List.getElem?_drop, ← flatP_part h, List.getElem?_take, if_pos hj]
theorem flatP_set : ∀ (l : List Pg) (i : Nat) (x : Pg), i < l.length → splice (flatP l) (i * 3) (cellP x) = flatP (l.set i x)
  | [], i, x, h => by simp at h
  | y :: r, 0, x, h => rfl
  | y :: r, i + 1, x, h => by
    have ih := flatP_set r i x (by simpa using h)
    rw [show (i + 1) * 3 = i * 3 + 1 + 1 + 1 by omega]
    show splice (.d (.int .i64 y.1) :: .d (.int .i64 y.2.1) :: .d (.str y.2.2) :: flatP r) (i * 3 + 1 + 1 + 1) (cellP x) = cellP y ++ flatP (r.set i x)
    rw [← ih]
    rfl
theorem flatP_kill (b : Nat) : ∀ l : List Pg, killB.cells b (flatP l) = flatP l
  | [] => rfl
  | x :: r => by simp only [flatP, cellP, List.cons_append, List.nil_append, killB.cells, flatP_kill b r]; rfl

def findP (l : List Pg) (j : Nat) : Option Pg := l.find? fun p => decide (p.1 = (j : Int))
def tabOf (l : List Pg) : List Pg := (List.range 17).map fun j => (findP l j).getD zP
theorem tabOf_len (l : List Pg) : (tabOf l).length = 17 := by simp [tabOf]
theorem tabOf_get (l : List Pg) (j : Nat) (h : j < (tabOf l).length) : (tabOf l)[j] = (findP l j).getD zP := by simp [tabOf]
def colN (xs : List Pg) (k : Nat) : List Pg := ((xs.take k).drop 1).filter fun p => !decide (p.1 = 0)

/-- what the table tells -/
noncomputable def rdM (l : List Pg) (o : Op) : List Pg × Res :=
  if mapB l = false ∨ o.1 < 1 ∨ 4 < o.1 ∨ o.2.1 < 1 ∨ 16 < o.2.1 then (l, (1, zP)) else
  let p := (findP l o.2.1.toNat).getD zP
  if o.1 = 1 ∧ p.1 ≠ 0 then (l, (4, zP)) else
  if 1 < o.1 ∧ p.1 = 0 then (l, (3, zP)) else
  if o.1 = 3 ∧ 16 < o.2.2.size then (l, (5, zP)) else
  if o.1 = 3 ∧ p.2.1 = 2147483647 then (l, (7, zP)) else
  let q : Pg := if o.1 = 1 then (o.2.1, 1, ByteArray.empty) else if o.1 = 3 then (p.1, p.2.1 + 1, o.2.2) else if o.1 = 4 then zP else p
  (colN ((tabOf l).set o.2.1.toNat q) 17, (0, q))

theorem mright_lt {l : List Pg} (h : MRight l) : ∀ (j i : Nat), (hi : i < j) → (hj : j < l.length) → (l[i]'(Nat.lt_trans hi hj)).1 < l[j].1
  | j + 1, i, hi, hj => by
    have h1 := h.rise j hj
    by_cases e : i = j
    · subst e; exact h1
    · have := mright_lt h j i (by omega) (by omega)
      omega
theorem findP_none {l : List Pg} {j : Nat} (h : ∀ x ∈ l, x.1 ≠ (j : Int)) : findP l j = none := by
  unfold findP
  rw [List.find?_eq_none]
  intro x hx
  simpa using h x hx
/-- the table as far as k -/
theorem tab_step {l : List Pg} {k : Nat} (hM : MRight l) (hk : k < l.length) : (tabOf (l.take k)).set l[k].1.toNat l[k] = tabOf (l.take (k + 1)) := by
  have hp := pgR_out.1 (hM.one l[k] (List.getElem_mem hk))
  apply List.ext_getElem
  · rw [List.length_set, tabOf_len, tabOf_len]
  · intro j h1 h2
    rw [List.getElem_set, tabOf_get, tabOf_get]
    have hs : l.take (k + 1) = l.take k ++ [l[k]] := take_snoc hk
    split
    · rename_i e
      have hn : findP (l.take k) j = none := findP_none fun x hx => by
        obtain ⟨i, hi, rfl⟩ := List.mem_iff_getElem.1 hx
        rw [List.length_take] at hi
        rw [List.getElem_take]
        have := mright_lt hM k i (by omega) hk
        omega
      rw [hs, findP, List.find?_append]
      unfold findP at hn
      rw [hn]
      have : decide (l[k].1 = (j : Int)) = true := by simp; omega
      simp [this]
    · rename_i e
      rw [hs]
      unfold findP
      rw [List.find?_append]
      have : decide (l[k].1 = (j : Int)) = false := by simp; omega
      simp [this]

theorem col_one (xs : List Pg) : colN xs 1 = [] := by simp [colN]
theorem col_yes {xs : List Pg} {i : Nat} (h1 : 1 ≤ i) (h : i < xs.length) (h0 : ¬ xs[i].1 = 0) : colN xs (i + 1) = colN xs i ++ [xs[i]] := by
  rw [colN, take_snoc h, List.drop_append_of_le_length (by rw [List.length_take]; omega), List.filter_append]
  simp [h0, colN]
theorem col_no {xs : List Pg} {i : Nat} (h1 : 1 ≤ i) (h : i < xs.length) (h0 : xs[i].1 = 0) : colN xs (i + 1) = colN xs i := by
  rw [colN, take_snoc h, List.drop_append_of_le_length (by rw [List.length_take]; omega), List.filter_append]
  simp [h0, colN]
theorem col_len (xs : List Pg) (i : Nat) : (colN xs i).length ≤ i := Nat.le_trans (List.length_filter_le _ _) (by simp; omega)
theorem refDo_ok (l : List Pg) (o : Op) (hl : l.length ≤ 1000) : ACall Try.prog 24 [.lst (l.map encP), .agg (encO o)] (.tup [.lst ((rdM l o).1.map encP), .agg (encR (rdM l o).2)]) := by
  refine acall_of Try.func24 2 rfl (by kernel_rfl) ?_
  conv => whnf
  repeat (first | (refine bcase_f rfl ?_; conv => whnf) | (refine bcase_t rfl ?_; conv => whnf) | (refine condK_draw (by kernel_rfl) ?_; conv => whnf) | (refine condK_of rfl ?_; conv => whnf) | (refine condK_of (by decide) ?_; conv => whnf) | (refine condK_of (by omega) ?_; conv => whnf) | (refine wrapK_in (w64 (by omega) (by omega)) ?_; conv => whnf))
  refine callX_pure (refRight_ok l (by omega)) ?_
  conv => whnf
  repeat (first | (refine bcase_f rfl ?_; conv => whnf) | (refine bcase_t rfl ?_; conv => whnf) | (refine condK_draw (by kernel_rfl) ?_; conv => whnf) | (refine condK_of rfl ?_; conv => whnf) | (refine condK_of (by decide) ?_; conv => whnf) | (refine condK_of (by omega) ?_; conv => whnf) | (refine wrapK_in (w64 (by omega) (by omega)) ?_; conv => whnf))
  refine bcase_intro (fun g0 => ?_) (fun g0 => ?_) <;> conv => whnf
  · repeat (first | (refine bcase_f rfl ?_; conv => whnf) | (refine bcase_t rfl ?_; conv => whnf) | (refine condK_draw (by kernel_rfl) ?_; conv => whnf) | (refine condK_of rfl ?_; conv => whnf) | (refine condK_of (by decide) ?_; conv => whnf) | (refine condK_of (by omega) ?_; conv => whnf) | (refine wrapK_in (w64 (by omega) (by omega)) ?_; conv => whnf))
    have e : rdM l o = (l, (1, zP)) := if_pos (.inl (by simpa using g0))
    rw [e]
    exact ret_of rfl rfl
  have g0 : mapB l = true := by simpa using g0
  repeat (first | (refine bcase_f rfl ?_; conv => whnf) | (refine bcase_t rfl ?_; conv => whnf) | (refine condK_draw (by kernel_rfl) ?_; conv => whnf) | (refine condK_of rfl ?_; conv => whnf) | (refine condK_of (by decide) ?_; conv => whnf) | (refine condK_of (by omega) ?_; conv => whnf) | (refine wrapK_in (w64 (by omega) (by omega)) ?_; conv => whnf))
  refine bcase_p (fun g1 => ?_) (fun g1 => ?_) <;> conv => whnf
  · repeat (first | (refine bcase_f rfl ?_; conv => whnf) | (refine bcase_t rfl ?_; conv => whnf) | (refine condK_draw (by kernel_rfl) ?_; conv => whnf) | (refine condK_of rfl ?_; conv => whnf) | (refine condK_of (by decide) ?_; conv => whnf) | (refine condK_of (by omega) ?_; conv => whnf) | (refine wrapK_in (w64 (by omega) (by omega)) ?_; conv => whnf))
    have e : rdM l o = (l, (1, zP)) := if_pos (.inr (.inl g1))
    rw [e]
    exact ret_of rfl rfl
  repeat (first | (refine bcase_f rfl ?_; conv => whnf) | (refine bcase_t rfl ?_; conv => whnf) | (refine condK_draw (by kernel_rfl) ?_; conv => whnf) | (refine condK_of rfl ?_; conv => whnf) | (refine condK_of (by decide) ?_; conv => whnf) | (refine condK_of (by omega) ?_; conv => whnf) | (refine wrapK_in (w64 (by omega) (by omega)) ?_; conv => whnf))
  refine bcase_p (fun g2 => ?_) (fun g2 => ?_) <;> conv => whnf
  · repeat (first | (refine bcase_f rfl ?_; conv => whnf) | (refine bcase_t rfl ?_; conv => whnf) | (refine condK_draw (by kernel_rfl) ?_; conv => whnf) | (refine condK_of rfl ?_; conv => whnf) | (refine condK_of (by decide) ?_; conv => whnf) | (refine condK_of (by omega) ?_; conv => whnf) | (refine wrapK_in (w64 (by omega) (by omega)) ?_; conv => whnf))
    have e : rdM l o = (l, (1, zP)) := if_pos (.inr (.inr (.inl g2)))
    rw [e]
    exact ret_of rfl rfl
  repeat (first | (refine bcase_f rfl ?_; conv => whnf) | (refine bcase_t rfl ?_; conv => whnf) | (refine condK_draw (by kernel_rfl) ?_; conv => whnf) | (refine condK_of rfl ?_; conv => whnf) | (refine condK_of (by decide) ?_; conv => whnf) | (refine condK_of (by omega) ?_; conv => whnf) | (refine wrapK_in (w64 (by omega) (by omega)) ?_; conv => whnf))
  refine bcase_p (fun g3 => ?_) (fun g3 => ?_) <;> conv => whnf
  · repeat (first | (refine bcase_f rfl ?_; conv => whnf) | (refine bcase_t rfl ?_; conv => whnf) | (refine condK_draw (by kernel_rfl) ?_; conv => whnf) | (refine condK_of rfl ?_; conv => whnf) | (refine condK_of (by decide) ?_; conv => whnf) | (refine condK_of (by omega) ?_; conv => whnf) | (refine wrapK_in (w64 (by omega) (by omega)) ?_; conv => whnf))
    have e : rdM l o = (l, (1, zP)) := if_pos (.inr (.inr (.inr (.inl g3))))
    rw [e]
    exact ret_of rfl rfl
  repeat (first | (refine bcase_f rfl ?_; conv => whnf) | (refine bcase_t rfl ?_; conv => whnf) | (refine condK_draw (by kernel_rfl) ?_; conv => whnf) | (refine condK_of rfl ?_; conv => whnf) | (refine condK_of (by decide) ?_; conv => whnf) | (refine condK_of (by omega) ?_; conv => whnf) | (refine wrapK_in (w64 (by omega) (by omega)) ?_; conv => whnf))
  refine bcase_p (fun g4 => ?_) (fun g4 => ?_) <;> conv => whnf
  · repeat (first | (refine bcase_f rfl ?_; conv => whnf) | (refine bcase_t rfl ?_; conv => whnf) | (refine condK_draw (by kernel_rfl) ?_; conv => whnf) | (refine condK_of rfl ?_; conv => whnf) | (refine condK_of (by decide) ?_; conv => whnf) | (refine condK_of (by omega) ?_; conv => whnf) | (refine wrapK_in (w64 (by omega) (by omega)) ?_; conv => whnf))
    have e : rdM l o = (l, (1, zP)) := if_pos (.inr (.inr (.inr (.inr g4))))
    rw [e]
    exact ret_of rfl rfl
  have e0 : ¬ (mapB l = false ∨ o.1 < 1 ∨ 4 < o.1 ∨ o.2.1 < 1 ∨ 16 < o.2.1) := by rw [g0]; simp; omega
  have hM := mapB_t.1 g0
  repeat (first | (refine bcase_f rfl ?_; conv => whnf) | (refine bcase_t rfl ?_; conv => whnf) | (refine condK_draw (by kernel_rfl) ?_; conv => whnf) | (refine condK_of rfl ?_; conv => whnf) | (refine condK_of (by decide) ?_; conv => whnf) | (refine condK_of (by omega) ?_; conv => whnf) | (refine wrapK_in (w64 (by omega) (by omega)) ?_; conv => whnf))
  have hm : (l.map encP).length = l.length := List.length_map ..
  refine aloop (ι := Nat) (fun k => [(0, .d (.lst (l.map encP))), (3, .ptr 3 0 0), (5, .ptr 5 0 0), (6, .ptr 6 0 0), (7, .d (.int .i64 k))]) (fun k => [(3, .box [.d (.int .i64 o.1), .d (.int .i64 o.2.1), .d (.str o.2.2)] false), (5, .box [.d (.int .i64 0), .d (.int .i64 0), .d (.int .i64 0), .d (.str ByteArray.empty)] false), (6, .box (flatP (tabOf (l.take k))) false)])
    (fun k => k ≤ l.length) (fun k => l.length - k) 0 (Nat.zero_le _) (le0 (le_of_cov ⟨rfl, rfl, rfl, rfl, rfl, trivial⟩ ⟨rfl, rfl, rfl, trivial⟩ ⟨rfl, rfl, rfl, rfl⟩)) ?_
  intro k hk
  conv => whnf
  refine bcase_p (fun h5 => ?_) (fun h5 => ?_) <;> conv => whnf
  · have hk2 : k < l.length := by omega
    have hp := pgR_out.1 (hM.one l[k] (List.getElem_mem hk2))
    obtain ⟨n, hn⟩ : ∃ n : Nat, l[k].1 = n := ⟨l[k].1.toNat, by omega⟩
    refine idxK_nat (by omega) ?_
    conv => whnf
    refine getRow_of (x := encP l[k]) (by simp [hk2]) ?_
    conv => whnf
    repeat (first | (refine bcase_f rfl ?_; conv => whnf) | (refine bcase_t rfl ?_; conv => whnf) | (refine condK_draw (by kernel_rfl) ?_; conv => whnf) | (refine condK_of rfl ?_; conv => whnf) | (refine condK_of (by decide) ?_; conv => whnf) | (refine condK_of (by omega) ?_; conv => whnf) | (refine wrapK_in (w64 (by omega) (by omega)) ?_; conv => whnf))
    refine idxK_nat (by omega) ?_
    conv => whnf
    refine getRow_of (x := encP l[k]) (by simp [hk2]) ?_
    conv => whnf
    repeat (first | (refine bcase_f rfl ?_; conv => whnf) | (refine bcase_t rfl ?_; conv => whnf) | (refine condK_draw (by kernel_rfl) ?_; conv => whnf) | (refine condK_of rfl ?_; conv => whnf) | (refine condK_of (by decide) ?_; conv => whnf) | (refine condK_of (by omega) ?_; conv => whnf) | (refine wrapK_in (w64 (by omega) (by omega)) ?_; conv => whnf))
    rw [hn]
    refine idxK_nat (by omega) ?_
    conv => whnf
    refine condK_of rfl (bif_of rfl (bif_of rfl (bif_of (by rw [flatP_len, tabOf_len, Nat.ble_eq]; show 0 + n * 3 + 3 ≤ 51; omega) (storeK_agg (by rw [flatP_len, tabOf_len]; rfl) ?_))))
    have es : splice (flatP (tabOf (l.take k))) (0 + n * (T 41).size) [.d (.int .i64 n), .d (.int .i64 l[k].2.1), .d (.str l[k].2.2)] = flatP (tabOf (l.take (k + 1))) := by
      have e1 := flatP_set (tabOf (l.take k)) n l[k] (by rw [tabOf_len]; omega)
      have e2 := tab_step hM hk2
      rw [hn] at e2
      rw [← e2, Int.toNat_natCast, ← e1, Nat.zero_add, cellP, hn]
      rfl
    rw [es]
    conv => whnf
    repeat (first | (refine bcase_f rfl ?_; conv => whnf) | (refine bcase_t rfl ?_; conv => whnf) | (refine condK_draw (by kernel_rfl) ?_; conv => whnf) | (refine condK_of rfl ?_; conv => whnf) | (refine condK_of (by decide) ?_; conv => whnf) | (refine condK_of (by omega) ?_; conv => whnf) | (refine wrapK_in (w64 (by omega) (by omega)) ?_; conv => whnf))
    exact ⟨k + 1, by omega, by omega, (le0 (le_of_cov ⟨rfl, rfl, rfl, rfl, rfl, trivial⟩ ⟨rfl, rfl, rfl, trivial⟩ ⟨rfl, rfl, rfl, rfl⟩))⟩
  · repeat (first | (refine bcase_f rfl ?_; conv => whnf) | (refine bcase_t rfl ?_; conv => whnf) | (refine condK_draw (by kernel_rfl) ?_; conv => whnf) | (refine condK_of rfl ?_; conv => whnf) | (refine condK_of (by decide) ?_; conv => whnf) | (refine condK_of (by omega) ?_; conv => whnf) | (refine wrapK_in (w64 (by omega) (by omega)) ?_; conv => whnf))
    have ek : k = l.length := by omega
    obtain ⟨n, hn⟩ : ∃ n : Nat, o.2.1 = n := ⟨o.2.1.toNat, by omega⟩
    rw [hn]
    refine idxK_nat (by omega) ?_
    conv => whnf
    have el : l.take k = l := by rw [ek, List.take_length]
    rw [el]
    obtain ⟨p, hp⟩ : ∃ p, (findP l n).getD zP = p := ⟨_, rfl⟩
    have hpv : 0 ≤ p.2.1 ∧ p.2.1 ≤ 2147483647 := by
      unfold findP at hp
      cases hq : l.find? fun p => decide (p.1 = (n : Int)) with
      | none => rw [hq] at hp; subst hp; exact ⟨by decide, by decide⟩
      | some x =>
        rw [hq] at hp
        subst hp
        have := pgR_out.1 (hM.one x (List.mem_of_find?_eq_some hq))
        exact ⟨by simp only [Option.getD_some]; omega, by simp only [Option.getD_some]; omega⟩
    have ed : List.take (T 41).size (List.drop (0 + n * (T 41).size) (flatP (tabOf l))) = [.d (.int .i64 p.1), .d (.int .i64 p.2.1), .d (.str p.2.2)] := by
      have e1 := flatP_part (l := tabOf l) (i := n) (by rw [tabOf_len]; omega)
      rw [tabOf_get, hp] at e1
      rw [Nat.zero_add]
      exact e1
    refine condK_of rfl (bif_of (by rw [flatP_len, tabOf_len, Nat.ble_eq]; show 0 + n * 3 + 3 ≤ 51; omega) ?_)
    rw [ed]
    conv => whnf
    repeat (first | (refine bcase_f rfl ?_; conv => whnf) | (refine bcase_t rfl ?_; conv => whnf) | (refine condK_draw (by kernel_rfl) ?_; conv => whnf) | (refine condK_of rfl ?_; conv => whnf) | (refine condK_of (by decide) ?_; conv => whnf) | (refine condK_of (by omega) ?_; conv => whnf) | (refine wrapK_in (w64 (by omega) (by omega)) ?_; conv => whnf))
    have hrd : rdM l o = (if o.1 = 1 ∧ p.1 ≠ 0 then (l, (4, zP)) else
      if 1 < o.1 ∧ p.1 = 0 then (l, (3, zP)) else
      if o.1 = 3 ∧ 16 < o.2.2.size then (l, (5, zP)) else
      if o.1 = 3 ∧ p.2.1 = 2147483647 then (l, (7, zP)) else
      (colN ((tabOf l).set n (if o.1 = 1 then ((n : Int), 1, ByteArray.empty) else if o.1 = 3 then (p.1, p.2.1 + 1, o.2.2) else if o.1 = 4 then zP else p)) 17,
        (0, (if o.1 = 1 then ((n : Int), 1, ByteArray.empty) else if o.1 = 3 then (p.1, p.2.1 + 1, o.2.2) else if o.1 = 4 then zP else p)))) := by
      rw [rdM, if_neg e0, hn]
      simp only [Int.toNat_natCast, hp]
    rw [hrd]
    clear hrd
    refine bcase_p (fun k1 => ?_) (fun k1 => ?_) <;> conv => whnf
    · repeat (first | (refine bcase_f rfl ?_; conv => whnf) | (refine bcase_t rfl ?_; conv => whnf) | (refine condK_draw (by kernel_rfl) ?_; conv => whnf) | (refine condK_of rfl ?_; conv => whnf) | (refine condK_of (by decide) ?_; conv => whnf) | (refine condK_of (by omega) ?_; conv => whnf) | (refine wrapK_in (w64 (by omega) (by omega)) ?_; conv => whnf))
      refine bcase_n (fun q1 => ?_) (fun q1 => ?_) <;> conv => whnf
      · repeat (first | (refine bcase_f rfl ?_; conv => whnf) | (refine bcase_t rfl ?_; conv => whnf) | (refine condK_draw (by kernel_rfl) ?_; conv => whnf) | (refine condK_of rfl ?_; conv => whnf) | (refine condK_of (by decide) ?_; conv => whnf) | (refine condK_of (by omega) ?_; conv => whnf) | (refine wrapK_in (w64 (by omega) (by omega)) ?_; conv => whnf))
        rw [if_pos ⟨k1, q1⟩]
        exact ret_of rfl rfl
      rw [if_neg (fun h => h.2 q1), if_neg (show ¬ (1 < o.1 ∧ p.1 = 0) from fun h => by omega), if_neg (show ¬ (o.1 = 3 ∧ 16 < o.2.2.size) from fun h => by omega), if_neg (show ¬ (o.1 = 3 ∧ p.2.1 = 2147483647) from fun h => by omega), if_pos k1]
      repeat (first | (refine bcase_f rfl ?_; conv => whnf) | (refine bcase_t rfl ?_; conv => whnf) | (refine condK_draw (by kernel_rfl) ?_; conv => whnf) | (refine condK_of rfl ?_; conv => whnf) | (refine condK_of (by decide) ?_; conv => whnf) | (refine condK_of (by omega) ?_; conv => whnf) | (refine wrapK_in (w64 (by omega) (by omega)) ?_; conv => whnf))
      refine bcase_p (fun kk => ?_) (fun kk => ?_) <;> conv => whnf
      · omega
      repeat (first | (refine bcase_f rfl ?_; conv => whnf) | (refine bcase_t rfl ?_; conv => whnf) | (refine condK_draw (by kernel_rfl) ?_; conv => whnf) | (refine condK_of rfl ?_; conv => whnf) | (refine condK_of (by decide) ?_; conv => whnf) | (refine condK_of (by omega) ?_; conv => whnf) | (refine wrapK_in (w64 (by omega) (by omega)) ?_; conv => whnf))
      refine bcase_p (fun kx => ?_) (fun kx => ?_) <;> conv => whnf
      rotate_left
      · exact absurd k1 kx
      repeat (first | (refine bcase_f rfl ?_; conv => whnf) | (refine bcase_t rfl ?_; conv => whnf) | (refine condK_draw (by kernel_rfl) ?_; conv => whnf) | (refine condK_of rfl ?_; conv => whnf) | (refine condK_of (by decide) ?_; conv => whnf) | (refine condK_of (by omega) ?_; conv => whnf) | (refine wrapK_in (w64 (by omega) (by omega)) ?_; conv => whnf))
      refine idxK_nat (by omega) ?_
      conv => whnf
      have ez : splice (flatP (tabOf l)) (0 + n * (T 41).size) (cellP (((n:Int),1,ByteArray.empty))) = flatP ((tabOf l).set n (((n:Int),1,ByteArray.empty))) := by
        rw [Nat.zero_add]
        exact flatP_set (tabOf l) n (((n:Int),1,ByteArray.empty)) (by rw [tabOf_len]; omega)
      obtain ⟨xs, hxs⟩ : ∃ xs, (tabOf l).set n (((n:Int),1,ByteArray.empty)) = xs := ⟨_, rfl⟩
      rw [hxs] at ez ⊢
      simp only [cellP, zP] at ez
      rw [flatP_kill]
      refine condK_of rfl (bif_of rfl (bif_of rfl (bif_of (by rw [flatP_len, tabOf_len, Nat.ble_eq]; show 0 + n * 3 + 3 ≤ 51; omega) (storeK_agg (by rw [flatP_len, tabOf_len]; rfl) ?_))))
      rw [ez]
      conv => whnf
      repeat (first | (refine bcase_f rfl ?_; conv => whnf) | (refine bcase_t rfl ?_; conv => whnf) | (refine condK_draw (by kernel_rfl) ?_; conv => whnf) | (refine condK_of rfl ?_; conv => whnf) | (refine condK_of (by decide) ?_; conv => whnf) | (refine condK_of (by omega) ?_; conv => whnf) | (refine wrapK_in (w64 (by omega) (by omega)) ?_; conv => whnf))
      have hxl : xs.length = 17 := by rw [← hxs, List.length_set, tabOf_len]
      refine aloop (ι := Nat) (fun i => [(5, .ptr 5 0 0), (6, .ptr 6 0 0), (8, .ptr 8 0 0), (9, .own 124), (10, .d (.int .i64 i))]) (fun i => [(5, .box [.d (.int .i64 0), .d (.int .i64 0), .d (.int .i64 0), .d (.str ByteArray.empty)] false), (6, .box (flatP xs) false), (8, .box (cellP (((n:Int),1,ByteArray.empty))) false), (124, .row ((colN xs i).map encP) 3 false)])
        (fun i => 1 ≤ i ∧ i ≤ 17) (fun i => 17 - i) 1 ⟨by omega, by omega⟩ (le1 (.row 9 124 3) ⟨rfl, rfl⟩ (le_of_cov ⟨rfl, rfl, rfl, rfl, rfl, trivial⟩ ⟨rfl, by show some (Blk.box (killB.cells 124 (flatP xs)) false) = _; rw [flatP_kill], rfl, by rw [col_one]; rfl, trivial⟩ ⟨rfl, rfl, rfl, rfl⟩)) ?_
      rintro i ⟨hi1, hi2⟩
      conv => whnf
      refine bcase_p (fun h9 => ?_) (fun h9 => ?_) <;> conv => whnf
      · have hi3 : i < xs.length := by omega
        refine idxK_nat (by omega) ?_
        conv => whnf
        have hg : (flatP xs)[0 + i * (T 41).size + 0]? = some (.d (.int .i64 xs[i].1)) := by
          rw [Nat.zero_add]
          exact flatP_get (j := 0) hi3 (by decide)
        refine condK_of rfl (getC_of hg ?_)
        conv => whnf
        refine bcase_n (fun h0 => ?_) (fun h0 => ?_) <;> conv => whnf
        · refine idxK_nat (by omega) ?_
          conv => whnf
          have ed : List.take (T 41).size (List.drop (0 + i * (T 41).size) (flatP xs)) = cellP xs[i] := by
            rw [Nat.zero_add]
            exact flatP_part hi3
          refine condK_of rfl (bif_of (by rw [flatP_len, Nat.ble_eq, hxl]; show 0 + i * 3 + 3 ≤ 51; omega) ?_)
          rw [ed]
          conv => whnf
          repeat (first | (refine bcase_f rfl ?_; conv => whnf) | (refine bcase_t rfl ?_; conv => whnf) | (refine condK_draw (by kernel_rfl) ?_; conv => whnf) | (refine condK_of rfl ?_; conv => whnf) | (refine condK_of (by decide) ?_; conv => whnf) | (refine condK_of (by omega) ?_; conv => whnf) | (refine wrapK_in (w64 (by omega) (by omega)) ?_; conv => whnf))
          refine roomK_le 1000100 100 (by show List.length _ + 1 ≤ 1000100; rw [List.length_map]; have := col_len xs i; omega) (by decide) (by decide) (by decide) ?_
          conv => whnf
          repeat (first | (refine bcase_f rfl ?_; conv => whnf) | (refine bcase_t rfl ?_; conv => whnf) | (refine condK_draw (by kernel_rfl) ?_; conv => whnf) | (refine condK_of rfl ?_; conv => whnf) | (refine condK_of (by decide) ?_; conv => whnf) | (refine condK_of (by omega) ?_; conv => whnf) | (refine wrapK_in (w64 (by omega) (by omega)) ?_; conv => whnf))
          have er : (colN xs i).map encP ++ [encP xs[i]] = (colN xs (i + 1)).map encP := by rw [col_yes hi1 hi3 h0]; simp
          exact ⟨i + 1, ⟨by omega, by omega⟩, by omega, le0 (le_of_cov ⟨rfl, rfl, rfl, rfl, rfl, trivial⟩ ⟨rfl, by show some (Blk.box (killB.cells 124 (killB.cells 123 (flatP xs))) false) = _; rw [flatP_kill, flatP_kill], rfl, by rw [← er]; rfl, trivial⟩ ⟨rfl, rfl, rfl, rfl⟩)⟩
        · repeat (first | (refine bcase_f rfl ?_; conv => whnf) | (refine bcase_t rfl ?_; conv => whnf) | (refine condK_draw (by kernel_rfl) ?_; conv => whnf) | (refine condK_of rfl ?_; conv => whnf) | (refine condK_of (by decide) ?_; conv => whnf) | (refine condK_of (by omega) ?_; conv => whnf) | (refine wrapK_in (w64 (by omega) (by omega)) ?_; conv => whnf))
          exact ⟨i + 1, ⟨by omega, by omega⟩, by omega, le0 (le_of_cov ⟨rfl, rfl, rfl, rfl, rfl, trivial⟩ ⟨rfl, rfl, rfl, by rw [col_no hi1 hi3 h0]; rfl, trivial⟩ ⟨rfl, rfl, rfl, rfl⟩)⟩
      · repeat (first | (refine bcase_f rfl ?_; conv => whnf) | (refine bcase_t rfl ?_; conv => whnf) | (refine condK_draw (by kernel_rfl) ?_; conv => whnf) | (refine condK_of rfl ?_; conv => whnf) | (refine condK_of (by decide) ?_; conv => whnf) | (refine condK_of (by omega) ?_; conv => whnf) | (refine wrapK_in (w64 (by omega) (by omega)) ?_; conv => whnf))
        have ei : i = 17 := by omega
        subst ei
        exact ret_of rfl rfl
    · repeat (first | (refine bcase_f rfl ?_; conv => whnf) | (refine bcase_t rfl ?_; conv => whnf) | (refine condK_draw (by kernel_rfl) ?_; conv => whnf) | (refine condK_of rfl ?_; conv => whnf) | (refine condK_of (by decide) ?_; conv => whnf) | (refine condK_of (by omega) ?_; conv => whnf) | (refine wrapK_in (w64 (by omega) (by omega)) ?_; conv => whnf))
      have k1' : 1 < o.1 := by omega
      refine bcase_p (fun kk => ?_) (fun kk => ?_) <;> conv => whnf
      rotate_left
      · omega
      repeat (first | (refine bcase_f rfl ?_; conv => whnf) | (refine bcase_t rfl ?_; conv => whnf) | (refine condK_draw (by kernel_rfl) ?_; conv => whnf) | (refine condK_of rfl ?_; conv => whnf) | (refine condK_of (by decide) ?_; conv => whnf) | (refine condK_of (by omega) ?_; conv => whnf) | (refine wrapK_in (w64 (by omega) (by omega)) ?_; conv => whnf))
      refine bcase_p (fun q1 => ?_) (fun q1 => ?_) <;> conv => whnf
      · repeat (first | (refine bcase_f rfl ?_; conv => whnf) | (refine bcase_t rfl ?_; conv => whnf) | (refine condK_draw (by kernel_rfl) ?_; conv => whnf) | (refine condK_of rfl ?_; conv => whnf) | (refine condK_of (by decide) ?_; conv => whnf) | (refine condK_of (by omega) ?_; conv => whnf) | (refine wrapK_in (w64 (by omega) (by omega)) ?_; conv => whnf))
        rw [if_neg (fun h => k1 h.1), if_pos ⟨k1', q1⟩]
        exact ret_of rfl rfl
      rw [if_neg (fun h => k1 h.1), if_neg (fun h => q1 h.2)]
      repeat (first | (refine bcase_f rfl ?_; conv => whnf) | (refine bcase_t rfl ?_; conv => whnf) | (refine condK_draw (by kernel_rfl) ?_; conv => whnf) | (refine condK_of rfl ?_; conv => whnf) | (refine condK_of (by decide) ?_; conv => whnf) | (refine condK_of (by omega) ?_; conv => whnf) | (refine wrapK_in (w64 (by omega) (by omega)) ?_; conv => whnf))
      refine bcase_p (fun kx => ?_) (fun kx => ?_) <;> conv => whnf
      · exact absurd kx k1
      repeat (first | (refine bcase_f rfl ?_; conv => whnf) | (refine bcase_t rfl ?_; conv => whnf) | (refine condK_draw (by kernel_rfl) ?_; conv => whnf) | (refine condK_of rfl ?_; conv => whnf) | (refine condK_of (by decide) ?_; conv => whnf) | (refine condK_of (by omega) ?_; conv => whnf) | (refine wrapK_in (w64 (by omega) (by omega)) ?_; conv => whnf))
      refine bcase_p (fun k3 => ?_) (fun k3 => ?_) <;> conv => whnf
      · repeat (first | (refine bcase_f rfl ?_; conv => whnf) | (refine bcase_t rfl ?_; conv => whnf) | (refine condK_draw (by kernel_rfl) ?_; conv => whnf) | (refine condK_of rfl ?_; conv => whnf) | (refine condK_of (by decide) ?_; conv => whnf) | (refine condK_of (by omega) ?_; conv => whnf) | (refine wrapK_in (w64 (by omega) (by omega)) ?_; conv => whnf))
        refine bcase_p (fun q2 => ?_) (fun q2 => ?_) <;> conv => whnf
        · repeat (first | (refine bcase_f rfl ?_; conv => whnf) | (refine bcase_t rfl ?_; conv => whnf) | (refine condK_draw (by kernel_rfl) ?_; conv => whnf) | (refine condK_of rfl ?_; conv => whnf) | (refine condK_of (by decide) ?_; conv => whnf) | (refine condK_of (by omega) ?_; conv => whnf) | (refine wrapK_in (w64 (by omega) (by omega)) ?_; conv => whnf))
          rw [if_pos ⟨k3, by omega⟩]
          exact ret_of rfl rfl
        rw [if_neg (show ¬ (o.1 = 3 ∧ 16 < o.2.2.size) from fun h => by omega)]
        repeat (first | (refine bcase_f rfl ?_; conv => whnf) | (refine bcase_t rfl ?_; conv => whnf) | (refine condK_draw (by kernel_rfl) ?_; conv => whnf) | (refine condK_of rfl ?_; conv => whnf) | (refine condK_of (by decide) ?_; conv => whnf) | (refine condK_of (by omega) ?_; conv => whnf) | (refine wrapK_in (w64 (by omega) (by omega)) ?_; conv => whnf))
        refine bcase_p (fun q3 => ?_) (fun q3 => ?_) <;> conv => whnf
        · repeat (first | (refine bcase_f rfl ?_; conv => whnf) | (refine bcase_t rfl ?_; conv => whnf) | (refine condK_draw (by kernel_rfl) ?_; conv => whnf) | (refine condK_of rfl ?_; conv => whnf) | (refine condK_of (by decide) ?_; conv => whnf) | (refine condK_of (by omega) ?_; conv => whnf) | (refine wrapK_in (w64 (by omega) (by omega)) ?_; conv => whnf))
          rw [if_pos ⟨k3, q3⟩]
          exact ret_of rfl rfl
        rw [if_neg (fun h => q3 h.2), if_neg k1, if_pos k3]
        repeat (first | (refine bcase_f rfl ?_; conv => whnf) | (refine bcase_t rfl ?_; conv => whnf) | (refine condK_draw (by kernel_rfl) ?_; conv => whnf) | (refine condK_of rfl ?_; conv => whnf) | (refine condK_of (by decide) ?_; conv => whnf) | (refine condK_of (by omega) ?_; conv => whnf) | (refine wrapK_in (w64 (by omega) (by omega)) ?_; conv => whnf))
        refine idxK_nat (by omega) ?_
        conv => whnf
        have ez : splice (flatP (tabOf l)) (0 + n * (T 41).size) (cellP ((p.1,p.2.1+1,o.2.2))) = flatP ((tabOf l).set n ((p.1,p.2.1+1,o.2.2))) := by
          rw [Nat.zero_add]
          exact flatP_set (tabOf l) n ((p.1,p.2.1+1,o.2.2)) (by rw [tabOf_len]; omega)
        obtain ⟨xs, hxs⟩ : ∃ xs, (tabOf l).set n ((p.1,p.2.1+1,o.2.2)) = xs := ⟨_, rfl⟩
        rw [hxs] at ez ⊢
        simp only [cellP, zP] at ez
        rw [flatP_kill]
        refine condK_of rfl (bif_of rfl (bif_of rfl (bif_of (by rw [flatP_len, tabOf_len, Nat.ble_eq]; show 0 + n * 3 + 3 ≤ 51; omega) (storeK_agg (by rw [flatP_len, tabOf_len]; rfl) ?_))))
        rw [ez]
        conv => whnf
        repeat (first | (refine bcase_f rfl ?_; conv => whnf) | (refine bcase_t rfl ?_; conv => whnf) | (refine condK_draw (by kernel_rfl) ?_; conv => whnf) | (refine condK_of rfl ?_; conv => whnf) | (refine condK_of (by decide) ?_; conv => whnf) | (refine condK_of (by omega) ?_; conv => whnf) | (refine wrapK_in (w64 (by omega) (by omega)) ?_; conv => whnf))
        have hxl : xs.length = 17 := by rw [← hxs, List.length_set, tabOf_len]
        refine aloop (ι := Nat) (fun i => [(5, .ptr 5 0 0), (6, .ptr 6 0 0), (8, .ptr 8 0 0), (9, .own 124), (10, .d (.int .i64 i))]) (fun i => [(5, .box [.d (.int .i64 0), .d (.int .i64 0), .d (.int .i64 0), .d (.str ByteArray.empty)] false), (6, .box (flatP xs) false), (8, .box (cellP ((p.1,p.2.1+1,o.2.2))) false), (124, .row ((colN xs i).map encP) 3 false)])
          (fun i => 1 ≤ i ∧ i ≤ 17) (fun i => 17 - i) 1 ⟨by omega, by omega⟩ (le1 (.row 9 124 3) ⟨rfl, rfl⟩ (le_of_cov ⟨rfl, rfl, rfl, rfl, rfl, trivial⟩ ⟨rfl, by show some (Blk.box (killB.cells 124 (flatP xs)) false) = _; rw [flatP_kill], rfl, by rw [col_one]; rfl, trivial⟩ ⟨rfl, rfl, rfl, rfl⟩)) ?_
        rintro i ⟨hi1, hi2⟩
        conv => whnf
        refine bcase_p (fun h9 => ?_) (fun h9 => ?_) <;> conv => whnf
        · have hi3 : i < xs.length := by omega
          refine idxK_nat (by omega) ?_
          conv => whnf
          have hg : (flatP xs)[0 + i * (T 41).size + 0]? = some (.d (.int .i64 xs[i].1)) := by
            rw [Nat.zero_add]
            exact flatP_get (j := 0) hi3 (by decide)
          refine condK_of rfl (getC_of hg ?_)
          conv => whnf
          refine bcase_n (fun h0 => ?_) (fun h0 => ?_) <;> conv => whnf
          · refine idxK_nat (by omega) ?_
            conv => whnf
            have ed : List.take (T 41).size (List.drop (0 + i * (T 41).size) (flatP xs)) = cellP xs[i] := by
              rw [Nat.zero_add]
              exact flatP_part hi3
            refine condK_of rfl (bif_of (by rw [flatP_len, Nat.ble_eq, hxl]; show 0 + i * 3 + 3 ≤ 51; omega) ?_)
            rw [ed]
            conv => whnf
            repeat (first | (refine bcase_f rfl ?_; conv => whnf) | (refine bcase_t rfl ?_; conv => whnf) | (refine condK_draw (by kernel_rfl) ?_; conv => whnf) | (refine condK_of rfl ?_; conv => whnf) | (refine condK_of (by decide) ?_; conv => whnf) | (refine condK_of (by omega) ?_; conv => whnf) | (refine wrapK_in (w64 (by omega) (by omega)) ?_; conv => whnf))
            refine roomK_le 1000100 100 (by show List.length _ + 1 ≤ 1000100; rw [List.length_map]; have := col_len xs i; omega) (by decide) (by decide) (by decide) ?_
            conv => whnf
            repeat (first | (refine bcase_f rfl ?_; conv => whnf) | (refine bcase_t rfl ?_; conv => whnf) | (refine condK_draw (by kernel_rfl) ?_; conv => whnf) | (refine condK_of rfl ?_; conv => whnf) | (refine condK_of (by decide) ?_; conv => whnf) | (refine condK_of (by omega) ?_; conv => whnf) | (refine wrapK_in (w64 (by omega) (by omega)) ?_; conv => whnf))
            have er : (colN xs i).map encP ++ [encP xs[i]] = (colN xs (i + 1)).map encP := by rw [col_yes hi1 hi3 h0]; simp
            exact ⟨i + 1, ⟨by omega, by omega⟩, by omega, le0 (le_of_cov ⟨rfl, rfl, rfl, rfl, rfl, trivial⟩ ⟨rfl, by show some (Blk.box (killB.cells 124 (killB.cells 123 (flatP xs))) false) = _; rw [flatP_kill, flatP_kill], rfl, by rw [← er]; rfl, trivial⟩ ⟨rfl, rfl, rfl, rfl⟩)⟩
          · repeat (first | (refine bcase_f rfl ?_; conv => whnf) | (refine bcase_t rfl ?_; conv => whnf) | (refine condK_draw (by kernel_rfl) ?_; conv => whnf) | (refine condK_of rfl ?_; conv => whnf) | (refine condK_of (by decide) ?_; conv => whnf) | (refine condK_of (by omega) ?_; conv => whnf) | (refine wrapK_in (w64 (by omega) (by omega)) ?_; conv => whnf))
            exact ⟨i + 1, ⟨by omega, by omega⟩, by omega, le0 (le_of_cov ⟨rfl, rfl, rfl, rfl, rfl, trivial⟩ ⟨rfl, rfl, rfl, by rw [col_no hi1 hi3 h0]; rfl, trivial⟩ ⟨rfl, rfl, rfl, rfl⟩)⟩
        · repeat (first | (refine bcase_f rfl ?_; conv => whnf) | (refine bcase_t rfl ?_; conv => whnf) | (refine condK_draw (by kernel_rfl) ?_; conv => whnf) | (refine condK_of rfl ?_; conv => whnf) | (refine condK_of (by decide) ?_; conv => whnf) | (refine condK_of (by omega) ?_; conv => whnf) | (refine wrapK_in (w64 (by omega) (by omega)) ?_; conv => whnf))
          have ei : i = 17 := by omega
          subst ei
          exact ret_of rfl rfl
      · rw [if_neg (fun h => k3 h.1), if_neg (fun h => k3 h.1), if_neg k1, if_neg k3]
        repeat (first | (refine bcase_f rfl ?_; conv => whnf) | (refine bcase_t rfl ?_; conv => whnf) | (refine condK_draw (by kernel_rfl) ?_; conv => whnf) | (refine condK_of rfl ?_; conv => whnf) | (refine condK_of (by decide) ?_; conv => whnf) | (refine condK_of (by omega) ?_; conv => whnf) | (refine wrapK_in (w64 (by omega) (by omega)) ?_; conv => whnf))
        refine bcase_p (fun k4 => ?_) (fun k4 => ?_) <;> conv => whnf
        · rw [if_pos k4]
          repeat (first | (refine bcase_f rfl ?_; conv => whnf) | (refine bcase_t rfl ?_; conv => whnf) | (refine condK_draw (by kernel_rfl) ?_; conv => whnf) | (refine condK_of rfl ?_; conv => whnf) | (refine condK_of (by decide) ?_; conv => whnf) | (refine condK_of (by omega) ?_; conv => whnf) | (refine wrapK_in (w64 (by omega) (by omega)) ?_; conv => whnf))
          refine idxK_nat (by omega) ?_
          conv => whnf
          have ez : splice (flatP (tabOf l)) (0 + n * (T 41).size) (cellP (zP)) = flatP ((tabOf l).set n (zP)) := by
            rw [Nat.zero_add]
            exact flatP_set (tabOf l) n (zP) (by rw [tabOf_len]; omega)
          obtain ⟨xs, hxs⟩ : ∃ xs, (tabOf l).set n (zP) = xs := ⟨_, rfl⟩
          rw [hxs] at ez ⊢
          simp only [cellP, zP] at ez
          rw [flatP_kill]
          refine condK_of rfl (bif_of rfl (bif_of rfl (bif_of (by rw [flatP_len, tabOf_len, Nat.ble_eq]; show 0 + n * 3 + 3 ≤ 51; omega) (storeK_agg (by rw [flatP_len, tabOf_len]; rfl) ?_))))
          rw [ez]
          conv => whnf
          repeat (first | (refine bcase_f rfl ?_; conv => whnf) | (refine bcase_t rfl ?_; conv => whnf) | (refine condK_draw (by kernel_rfl) ?_; conv => whnf) | (refine condK_of rfl ?_; conv => whnf) | (refine condK_of (by decide) ?_; conv => whnf) | (refine condK_of (by omega) ?_; conv => whnf) | (refine wrapK_in (w64 (by omega) (by omega)) ?_; conv => whnf))
          have hxl : xs.length = 17 := by rw [← hxs, List.length_set, tabOf_len]
          refine aloop (ι := Nat) (fun i => [(5, .ptr 5 0 0), (6, .ptr 6 0 0), (8, .ptr 8 0 0), (9, .own 124), (10, .d (.int .i64 i))]) (fun i => [(5, .box [.d (.int .i64 0), .d (.int .i64 0), .d (.int .i64 0), .d (.str ByteArray.empty)] false), (6, .box (flatP xs) false), (8, .box (cellP (zP)) false), (124, .row ((colN xs i).map encP) 3 false)])
            (fun i => 1 ≤ i ∧ i ≤ 17) (fun i => 17 - i) 1 ⟨by omega, by omega⟩ (le1 (.row 9 124 3) ⟨rfl, rfl⟩ (le_of_cov ⟨rfl, rfl, rfl, rfl, rfl, trivial⟩ ⟨rfl, by show some (Blk.box (killB.cells 124 (flatP xs)) false) = _; rw [flatP_kill], rfl, by rw [col_one]; rfl, trivial⟩ ⟨rfl, rfl, rfl, rfl⟩)) ?_
          rintro i ⟨hi1, hi2⟩
          conv => whnf
          refine bcase_p (fun h9 => ?_) (fun h9 => ?_) <;> conv => whnf
          · have hi3 : i < xs.length := by omega
            refine idxK_nat (by omega) ?_
            conv => whnf
            have hg : (flatP xs)[0 + i * (T 41).size + 0]? = some (.d (.int .i64 xs[i].1)) := by
              rw [Nat.zero_add]
              exact flatP_get (j := 0) hi3 (by decide)
            refine condK_of rfl (getC_of hg ?_)
            conv => whnf
            refine bcase_n (fun h0 => ?_) (fun h0 => ?_) <;> conv => whnf
            · refine idxK_nat (by omega) ?_
              conv => whnf
              have ed : List.take (T 41).size (List.drop (0 + i * (T 41).size) (flatP xs)) = cellP xs[i] := by
                rw [Nat.zero_add]
                exact flatP_part hi3
              refine condK_of rfl (bif_of (by rw [flatP_len, Nat.ble_eq, hxl]; show 0 + i * 3 + 3 ≤ 51; omega) ?_)
              rw [ed]
              conv => whnf
              repeat (first | (refine bcase_f rfl ?_; conv => whnf) | (refine bcase_t rfl ?_; conv => whnf) | (refine condK_draw (by kernel_rfl) ?_; conv => whnf) | (refine condK_of rfl ?_; conv => whnf) | (refine condK_of (by decide) ?_; conv => whnf) | (refine condK_of (by omega) ?_; conv => whnf) | (refine wrapK_in (w64 (by omega) (by omega)) ?_; conv => whnf))
              refine roomK_le 1000100 100 (by show List.length _ + 1 ≤ 1000100; rw [List.length_map]; have := col_len xs i; omega) (by decide) (by decide) (by decide) ?_
              conv => whnf
              repeat (first | (refine bcase_f rfl ?_; conv => whnf) | (refine bcase_t rfl ?_; conv => whnf) | (refine condK_draw (by kernel_rfl) ?_; conv => whnf) | (refine condK_of rfl ?_; conv => whnf) | (refine condK_of (by decide) ?_; conv => whnf) | (refine condK_of (by omega) ?_; conv => whnf) | (refine wrapK_in (w64 (by omega) (by omega)) ?_; conv => whnf))
              have er : (colN xs i).map encP ++ [encP xs[i]] = (colN xs (i + 1)).map encP := by rw [col_yes hi1 hi3 h0]; simp
              exact ⟨i + 1, ⟨by omega, by omega⟩, by omega, le0 (le_of_cov ⟨rfl, rfl, rfl, rfl, rfl, trivial⟩ ⟨rfl, by show some (Blk.box (killB.cells 124 (killB.cells 123 (flatP xs))) false) = _; rw [flatP_kill, flatP_kill], rfl, by rw [← er]; rfl, trivial⟩ ⟨rfl, rfl, rfl, rfl⟩)⟩
            · repeat (first | (refine bcase_f rfl ?_; conv => whnf) | (refine bcase_t rfl ?_; conv => whnf) | (refine condK_draw (by kernel_rfl) ?_; conv => whnf) | (refine condK_of rfl ?_; conv => whnf) | (refine condK_of (by decide) ?_; conv => whnf) | (refine condK_of (by omega) ?_; conv => whnf) | (refine wrapK_in (w64 (by omega) (by omega)) ?_; conv => whnf))
              exact ⟨i + 1, ⟨by omega, by omega⟩, by omega, le0 (le_of_cov ⟨rfl, rfl, rfl, rfl, rfl, trivial⟩ ⟨rfl, rfl, rfl, by rw [col_no hi1 hi3 h0]; rfl, trivial⟩ ⟨rfl, rfl, rfl, rfl⟩)⟩
          · repeat (first | (refine bcase_f rfl ?_; conv => whnf) | (refine bcase_t rfl ?_; conv => whnf) | (refine condK_draw (by kernel_rfl) ?_; conv => whnf) | (refine condK_of rfl ?_; conv => whnf) | (refine condK_of (by decide) ?_; conv => whnf) | (refine condK_of (by omega) ?_; conv => whnf) | (refine wrapK_in (w64 (by omega) (by omega)) ?_; conv => whnf))
            have ei : i = 17 := by omega
            subst ei
            exact ret_of rfl rfl
        · rw [if_neg k4]
          repeat (first | (refine bcase_f rfl ?_; conv => whnf) | (refine bcase_t rfl ?_; conv => whnf) | (refine condK_draw (by kernel_rfl) ?_; conv => whnf) | (refine condK_of rfl ?_; conv => whnf) | (refine condK_of (by decide) ?_; conv => whnf) | (refine condK_of (by omega) ?_; conv => whnf) | (refine wrapK_in (w64 (by omega) (by omega)) ?_; conv => whnf))
          refine idxK_nat (by omega) ?_
          conv => whnf
          have ez : splice (flatP (tabOf l)) (0 + n * (T 41).size) (cellP (p)) = flatP ((tabOf l).set n (p)) := by
            rw [Nat.zero_add]
            exact flatP_set (tabOf l) n (p) (by rw [tabOf_len]; omega)
          obtain ⟨xs, hxs⟩ : ∃ xs, (tabOf l).set n (p) = xs := ⟨_, rfl⟩
          rw [hxs] at ez ⊢
          simp only [cellP, zP] at ez
          rw [flatP_kill]
          refine condK_of rfl (bif_of rfl (bif_of rfl (bif_of (by rw [flatP_len, tabOf_len, Nat.ble_eq]; show 0 + n * 3 + 3 ≤ 51; omega) (storeK_agg (by rw [flatP_len, tabOf_len]; rfl) ?_))))
          rw [ez]
          conv => whnf
          repeat (first | (refine bcase_f rfl ?_; conv => whnf) | (refine bcase_t rfl ?_; conv => whnf) | (refine condK_draw (by kernel_rfl) ?_; conv => whnf) | (refine condK_of rfl ?_; conv => whnf) | (refine condK_of (by decide) ?_; conv => whnf) | (refine condK_of (by omega) ?_; conv => whnf) | (refine wrapK_in (w64 (by omega) (by omega)) ?_; conv => whnf))
          have hxl : xs.length = 17 := by rw [← hxs, List.length_set, tabOf_len]
          refine aloop (ι := Nat) (fun i => [(5, .ptr 5 0 0), (6, .ptr 6 0 0), (8, .ptr 8 0 0), (9, .own 124), (10, .d (.int .i64 i))]) (fun i => [(5, .box [.d (.int .i64 0), .d (.int .i64 0), .d (.int .i64 0), .d (.str ByteArray.empty)] false), (6, .box (flatP xs) false), (8, .box (cellP (p)) false), (124, .row ((colN xs i).map encP) 3 false)])
            (fun i => 1 ≤ i ∧ i ≤ 17) (fun i => 17 - i) 1 ⟨by omega, by omega⟩ (le1 (.row 9 124 3) ⟨rfl, rfl⟩ (le_of_cov ⟨rfl, rfl, rfl, rfl, rfl, trivial⟩ ⟨rfl, by show some (Blk.box (killB.cells 124 (flatP xs)) false) = _; rw [flatP_kill], rfl, by rw [col_one]; rfl, trivial⟩ ⟨rfl, rfl, rfl, rfl⟩)) ?_
          rintro i ⟨hi1, hi2⟩
          conv => whnf
          refine bcase_p (fun h9 => ?_) (fun h9 => ?_) <;> conv => whnf
          · have hi3 : i < xs.length := by omega
            refine idxK_nat (by omega) ?_
            conv => whnf
            have hg : (flatP xs)[0 + i * (T 41).size + 0]? = some (.d (.int .i64 xs[i].1)) := by
              rw [Nat.zero_add]
              exact flatP_get (j := 0) hi3 (by decide)
            refine condK_of rfl (getC_of hg ?_)
            conv => whnf
            refine bcase_n (fun h0 => ?_) (fun h0 => ?_) <;> conv => whnf
            · refine idxK_nat (by omega) ?_
              conv => whnf
              have ed : List.take (T 41).size (List.drop (0 + i * (T 41).size) (flatP xs)) = cellP xs[i] := by
                rw [Nat.zero_add]
                exact flatP_part hi3
              refine condK_of rfl (bif_of (by rw [flatP_len, Nat.ble_eq, hxl]; show 0 + i * 3 + 3 ≤ 51; omega) ?_)
              rw [ed]
              conv => whnf
              repeat (first | (refine bcase_f rfl ?_; conv => whnf) | (refine bcase_t rfl ?_; conv => whnf) | (refine condK_draw (by kernel_rfl) ?_; conv => whnf) | (refine condK_of rfl ?_; conv => whnf) | (refine condK_of (by decide) ?_; conv => whnf) | (refine condK_of (by omega) ?_; conv => whnf) | (refine wrapK_in (w64 (by omega) (by omega)) ?_; conv => whnf))
              refine roomK_le 1000100 100 (by show List.length _ + 1 ≤ 1000100; rw [List.length_map]; have := col_len xs i; omega) (by decide) (by decide) (by decide) ?_
              conv => whnf
              repeat (first | (refine bcase_f rfl ?_; conv => whnf) | (refine bcase_t rfl ?_; conv => whnf) | (refine condK_draw (by kernel_rfl) ?_; conv => whnf) | (refine condK_of rfl ?_; conv => whnf) | (refine condK_of (by decide) ?_; conv => whnf) | (refine condK_of (by omega) ?_; conv => whnf) | (refine wrapK_in (w64 (by omega) (by omega)) ?_; conv => whnf))
              have er : (colN xs i).map encP ++ [encP xs[i]] = (colN xs (i + 1)).map encP := by rw [col_yes hi1 hi3 h0]; simp
              exact ⟨i + 1, ⟨by omega, by omega⟩, by omega, le0 (le_of_cov ⟨rfl, rfl, rfl, rfl, rfl, trivial⟩ ⟨rfl, by show some (Blk.box (killB.cells 124 (killB.cells 123 (flatP xs))) false) = _; rw [flatP_kill, flatP_kill], rfl, by rw [← er]; rfl, trivial⟩ ⟨rfl, rfl, rfl, rfl⟩)⟩
            · repeat (first | (refine bcase_f rfl ?_; conv => whnf) | (refine bcase_t rfl ?_; conv => whnf) | (refine condK_draw (by kernel_rfl) ?_; conv => whnf) | (refine condK_of rfl ?_; conv => whnf) | (refine condK_of (by decide) ?_; conv => whnf) | (refine condK_of (by omega) ?_; conv => whnf) | (refine wrapK_in (w64 (by omega) (by omega)) ?_; conv => whnf))
              exact ⟨i + 1, ⟨by omega, by omega⟩, by omega, le0 (le_of_cov ⟨rfl, rfl, rfl, rfl, rfl, trivial⟩ ⟨rfl, rfl, rfl, by rw [col_no hi1 hi3 h0]; rfl, trivial⟩ ⟨rfl, rfl, rfl, rfl⟩)⟩
          · repeat (first | (refine bcase_f rfl ?_; conv => whnf) | (refine bcase_t rfl ?_; conv => whnf) | (refine condK_draw (by kernel_rfl) ?_; conv => whnf) | (refine condK_of rfl ?_; conv => whnf) | (refine condK_of (by decide) ?_; conv => whnf) | (refine condK_of (by omega) ?_; conv => whnf) | (refine wrapK_in (w64 (by omega) (by omega)) ?_; conv => whnf))
            have ei : i = 17 := by omega
            subst ei
            exact ret_of rfl rfl
end Go.Lk

