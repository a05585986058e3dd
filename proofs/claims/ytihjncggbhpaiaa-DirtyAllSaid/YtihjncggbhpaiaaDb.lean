/-
  What is proved here: what the other laws of the seat compute, each for the arguments that its theorem names.
-/
import Derived.Test.YtihjncggbhpaiaaDa
set_option linter.unusedSectionVars false
set_option linter.unusedSimpArgs false
set_option linter.unusedVariables false
set_option linter.unnecessarySimpa false
namespace Go.Lk
open Go Go.Proofs Go.RowKit

theorem dirtyExact_ok (l : List (Int × Int)) (p t : Int) : ACall Try.prog 6 [encIs l, .int .i64 p, .int .i64 t] (.bool true) := by
  refine acall_of Try.func6 3 rfl (by kernel_rfl) ?_
  conv => whnf
  have hm : (l.map encI).length = l.length := List.length_map ..
  refine bcase_p (fun h1 => ?_) (fun h1 => ?_) <;> conv => whnf
  · refine callX_pure awake_ok ?_
    conv => whnf
    exact ret_of rfl rfl
  have hl : l.length ≤ 40 := by omega
  have hml := mark_len (l := l) (p := p) (t := t)
  refine callX_pure (refs_ok l (by omega)) ?_
  conv => whnf
  refine callX_pure (rright_ok l (by omega)) ?_
  conv => whnf
  refine callX_pure (find_ok l p (by omega)) ?_
  conv => whnf
  refine callX_pure (mark_ok l p t (by omega)) ?_
  conv => whnf
  refine callX_pure (clean_ok l p (by omega)) ?_
  conv => whnf
  refine callX_pure (since_ok l p (by omega)) ?_
  conv => whnf
  refine callX_pure (right_ok l (by omega)) ?_
  conv => whnf
  refine bcase_intro (fun h2 => ?_) (fun h2 => ?_) <;> conv => whnf
  · simp at h2
  cases hr : rightB l
  · have e1 : sinceG l p = (0, false) := by simp [sinceG, hr]
    have e2 : cleanG l p = (l, 1) := by simp [cleanG, hr]
    have e3 : markG l p t = (l, 1) := by simp [markG, hr]
    rw [e1, e2, e3]
    repeat (first | (refine bcase_f rfl ?_; conv => whnf) | (refine bcase_t rfl ?_; conv => whnf) | (refine condK_of rfl ?_; conv => whnf) | (refine condK_of (by decide) ?_; conv => whnf) | (refine condK_of (by omega) ?_; conv => whnf) | (refine wrapK_in (w64 (by omega) (by omega)) ?_; conv => whnf))
    refine callX_pure (refs_ok l (by omega)) ?_
    conv => whnf
    refine callX_pure (same_ok l l (by omega) (by omega)) ?_
    conv => whnf
    refine bcase_intro (fun h3 => ?_) (fun h3 => ?_) <;> conv => whnf
    · simp at h3
    repeat (first | (refine bcase_f rfl ?_; conv => whnf) | (refine bcase_t rfl ?_; conv => whnf) | (refine condK_of rfl ?_; conv => whnf) | (refine condK_of (by decide) ?_; conv => whnf) | (refine condK_of (by omega) ?_; conv => whnf) | (refine wrapK_in (w64 (by omega) (by omega)) ?_; conv => whnf))
    refine callX_pure (refs_ok l (by omega)) ?_
    conv => whnf
    refine callX_pure (same_ok l l (by omega) (by omega)) ?_
    conv => whnf
    refine bcase_t (by simp) ?_
    conv => whnf
    refine callX_pure awake_ok ?_
    conv => whnf
    exact ret_of rfl rfl
  · repeat (first | (refine bcase_f rfl ?_; conv => whnf) | (refine bcase_t rfl ?_; conv => whnf) | (refine condK_of rfl ?_; conv => whnf) | (refine condK_of (by decide) ?_; conv => whnf) | (refine condK_of (by omega) ?_; conv => whnf) | (refine wrapK_in (w64 (by omega) (by omega)) ?_; conv => whnf))
    by_cases h3 : 0 ≤ placeG l p 0
    · obtain h4 | ⟨i, h4, h5, h6⟩ := placeG_lt (l := l) (n := p) (k := 0)
      · omega
      rw [Nat.zero_add] at h4
      have e1 : sinceG l p = (l[i].2, true) := by simp [sinceG, hr, h4, h5]
      have e2 : cleanG l p = (l.eraseIdx i, 0) := by simp [cleanG, hr, h4]
      rw [e1, e2, h4]
      refine bcase_f (by simp) ?_
      conv => whnf
      repeat (first | (refine bcase_f rfl ?_; conv => whnf) | (refine bcase_t rfl ?_; conv => whnf) | (refine condK_of rfl ?_; conv => whnf) | (refine condK_of (by decide) ?_; conv => whnf) | (refine condK_of (by omega) ?_; conv => whnf) | (refine wrapK_in (w64 (by omega) (by omega)) ?_; conv => whnf))
      refine idxK_int (by omega) (by simp; omega) ?_
      conv => whnf
      refine getRow_of (x := encI l[i]) (by simp [h5]) ?_
      conv => whnf
      repeat (first | (refine bcase_f rfl ?_; conv => whnf) | (refine bcase_t rfl ?_; conv => whnf) | (refine condK_of rfl ?_; conv => whnf) | (refine condK_of (by decide) ?_; conv => whnf) | (refine condK_of (by omega) ?_; conv => whnf) | (refine wrapK_in (w64 (by omega) (by omega)) ?_; conv => whnf))
      refine bcase_f (by simp) ?_
      conv => whnf
      repeat (first | (refine bcase_f rfl ?_; conv => whnf) | (refine bcase_t rfl ?_; conv => whnf) | (refine condK_of rfl ?_; conv => whnf) | (refine condK_of (by decide) ?_; conv => whnf) | (refine condK_of (by omega) ?_; conv => whnf) | (refine wrapK_in (w64 (by omega) (by omega)) ?_; conv => whnf))
      refine bcase_p (fun g1 => ?_) (fun g1 => ?_) <;> conv => whnf
      · have e3 : markG l p t = (l, 1) := by
          rw [markG, if_pos]; simp [pageB]; omega
        rw [e3]
        repeat (first | (refine bcase_f rfl ?_; conv => whnf) | (refine bcase_t rfl ?_; conv => whnf) | (refine condK_of rfl ?_; conv => whnf) | (refine condK_of (by decide) ?_; conv => whnf) | (refine condK_of (by omega) ?_; conv => whnf) | (refine wrapK_in (w64 (by omega) (by omega)) ?_; conv => whnf))
        refine callX_pure (refs_ok l (by omega)) ?_
        conv => whnf
        refine callX_pure (same_ok l l (by omega) (by omega)) ?_
        conv => whnf
        refine bcase_f (by simp) ?_
        conv => whnf
        repeat (first | (refine bcase_f rfl ?_; conv => whnf) | (refine bcase_t rfl ?_; conv => whnf) | (refine condK_of rfl ?_; conv => whnf) | (refine condK_of (by decide) ?_; conv => whnf) | (refine condK_of (by omega) ?_; conv => whnf) | (refine wrapK_in (w64 (by omega) (by omega)) ?_; conv => whnf))
        refine callX_pure (refs_ok (l.eraseIdx i) (by have := List.length_eraseIdx_le l i; omega)) ?_
        conv => whnf
        repeat (first | (refine bcase_f rfl ?_; conv => whnf) | (refine bcase_t rfl ?_; conv => whnf) | (refine condK_of rfl ?_; conv => whnf) | (refine condK_of (by decide) ?_; conv => whnf) | (refine condK_of (by omega) ?_; conv => whnf) | (refine wrapK_in (w64 (by omega) (by omega)) ?_; conv => whnf))
        refine condK_of (fun e he => encI_len he) ?_
        conv => whnf
        refine sliceK_hi (by simp; omega) ?_
        conv => whnf
        refine condK_of (by rw [← List.map_take, List.drop_zero]; exact encI_ok _) ?_
        conv => whnf
        have hti : (List.drop 0 (List.take i (l.map encI))).length ≤ 40 := by simp; omega
        refine roomK_le 1000 100 (by show 0 + List.length _ ≤ 1000; omega) (by decide) (by decide) (by decide) ?_
        conv => whnf
        repeat (first | (refine bcase_f rfl ?_; conv => whnf) | (refine bcase_t rfl ?_; conv => whnf) | (refine condK_of rfl ?_; conv => whnf) | (refine condK_of (by decide) ?_; conv => whnf) | (refine condK_of (by omega) ?_; conv => whnf) | (refine wrapK_in (w64 (by omega) (by omega)) ?_; conv => whnf))
        refine condK_of (fun e he => encI_len he) ?_
        conv => whnf
        refine sliceK_lo (l := i + 1) (by simp; omega) ?_
        conv => whnf
        refine condK_of (by rw [← List.map_take, ← List.map_drop]; exact encI_ok _) ?_
        conv => whnf
        have htj : (List.drop (i + 1) (List.take (l.map encI).length (l.map encI))).length ≤ 40 := by simp; omega
        refine roomK_le 1000 100 (by show List.length (_ ++ _) + List.length _ ≤ 1000; rw [List.length_append]; show (0 + List.length _) + _ ≤ 1000; omega) (by decide) (by decide) (by decide) ?_
        conv => whnf
        repeat (first | (refine bcase_f rfl ?_; conv => whnf) | (refine bcase_t rfl ?_; conv => whnf) | (refine condK_of rfl ?_; conv => whnf) | (refine condK_of (by decide) ?_; conv => whnf) | (refine condK_of (by omega) ?_; conv => whnf) | (refine wrapK_in (w64 (by omega) (by omega)) ?_; conv => whnf))
        have hsame : ACall Try.prog 20 [encIs (l.eraseIdx i), .lst (([] ++ List.drop 0 (List.take i (l.map encI))) ++ List.drop (i + 1) (List.take (l.map encI).length (l.map encI)))] (.bool true) := by
          have h := same_ok (l.eraseIdx i) (l.eraseIdx i) (by have := List.length_eraseIdx_le l i; omega) (by have := List.length_eraseIdx_le l i; omega)
          rw [decide_eq_true rfl] at h
          have e : ([] ++ List.drop 0 (List.take i (l.map encI))) ++ List.drop (i + 1) (List.take (l.map encI).length (l.map encI)) = (l.eraseIdx i).map encI := by
            rw [List.nil_append, List.drop_zero, List.take_length, List.eraseIdx_eq_take_drop_succ, List.map_append, List.map_take, List.map_drop]
          rw [e]; exact h
        refine callX_pure hsame ?_
        conv => whnf
        repeat (first | (refine bcase_f rfl ?_; conv => whnf) | (refine bcase_t rfl ?_; conv => whnf) | (refine condK_of rfl ?_; conv => whnf) | (refine condK_of (by decide) ?_; conv => whnf) | (refine condK_of (by omega) ?_; conv => whnf) | (refine wrapK_in (w64 (by omega) (by omega)) ?_; conv => whnf))
        refine callX_pure awake_ok ?_
        conv => whnf
        repeat (first | (refine bcase_f rfl ?_; conv => whnf) | (refine bcase_t rfl ?_; conv => whnf) | (refine condK_of rfl ?_; conv => whnf) | (refine condK_of (by decide) ?_; conv => whnf) | (refine condK_of (by omega) ?_; conv => whnf) | (refine wrapK_in (w64 (by omega) (by omega)) ?_; conv => whnf))
        exact ret_of rfl rfl
      repeat (first | (refine bcase_f rfl ?_; conv => whnf) | (refine bcase_t rfl ?_; conv => whnf) | (refine condK_of rfl ?_; conv => whnf) | (refine condK_of (by decide) ?_; conv => whnf) | (refine condK_of (by omega) ?_; conv => whnf) | (refine wrapK_in (w64 (by omega) (by omega)) ?_; conv => whnf))
      refine bcase_p (fun g2 => ?_) (fun g2 => ?_) <;> conv => whnf
      · have e3 : markG l p t = (l, 1) := by
          rw [markG, if_pos]; simp [pageB]; omega
        rw [e3]
        repeat (first | (refine bcase_f rfl ?_; conv => whnf) | (refine bcase_t rfl ?_; conv => whnf) | (refine condK_of rfl ?_; conv => whnf) | (refine condK_of (by decide) ?_; conv => whnf) | (refine condK_of (by omega) ?_; conv => whnf) | (refine wrapK_in (w64 (by omega) (by omega)) ?_; conv => whnf))
        refine callX_pure (refs_ok l (by omega)) ?_
        conv => whnf
        refine callX_pure (same_ok l l (by omega) (by omega)) ?_
        conv => whnf
        refine bcase_f (by simp) ?_
        conv => whnf
        repeat (first | (refine bcase_f rfl ?_; conv => whnf) | (refine bcase_t rfl ?_; conv => whnf) | (refine condK_of rfl ?_; conv => whnf) | (refine condK_of (by decide) ?_; conv => whnf) | (refine condK_of (by omega) ?_; conv => whnf) | (refine wrapK_in (w64 (by omega) (by omega)) ?_; conv => whnf))
        refine callX_pure (refs_ok (l.eraseIdx i) (by have := List.length_eraseIdx_le l i; omega)) ?_
        conv => whnf
        repeat (first | (refine bcase_f rfl ?_; conv => whnf) | (refine bcase_t rfl ?_; conv => whnf) | (refine condK_of rfl ?_; conv => whnf) | (refine condK_of (by decide) ?_; conv => whnf) | (refine condK_of (by omega) ?_; conv => whnf) | (refine wrapK_in (w64 (by omega) (by omega)) ?_; conv => whnf))
        refine condK_of (fun e he => encI_len he) ?_
        conv => whnf
        refine sliceK_hi (by simp; omega) ?_
        conv => whnf
        refine condK_of (by rw [← List.map_take, List.drop_zero]; exact encI_ok _) ?_
        conv => whnf
        have hti : (List.drop 0 (List.take i (l.map encI))).length ≤ 40 := by simp; omega
        refine roomK_le 1000 100 (by show 0 + List.length _ ≤ 1000; omega) (by decide) (by decide) (by decide) ?_
        conv => whnf
        repeat (first | (refine bcase_f rfl ?_; conv => whnf) | (refine bcase_t rfl ?_; conv => whnf) | (refine condK_of rfl ?_; conv => whnf) | (refine condK_of (by decide) ?_; conv => whnf) | (refine condK_of (by omega) ?_; conv => whnf) | (refine wrapK_in (w64 (by omega) (by omega)) ?_; conv => whnf))
        refine condK_of (fun e he => encI_len he) ?_
        conv => whnf
        refine sliceK_lo (l := i + 1) (by simp; omega) ?_
        conv => whnf
        refine condK_of (by rw [← List.map_take, ← List.map_drop]; exact encI_ok _) ?_
        conv => whnf
        have htj : (List.drop (i + 1) (List.take (l.map encI).length (l.map encI))).length ≤ 40 := by simp; omega
        refine roomK_le 1000 100 (by show List.length (_ ++ _) + List.length _ ≤ 1000; rw [List.length_append]; show (0 + List.length _) + _ ≤ 1000; omega) (by decide) (by decide) (by decide) ?_
        conv => whnf
        repeat (first | (refine bcase_f rfl ?_; conv => whnf) | (refine bcase_t rfl ?_; conv => whnf) | (refine condK_of rfl ?_; conv => whnf) | (refine condK_of (by decide) ?_; conv => whnf) | (refine condK_of (by omega) ?_; conv => whnf) | (refine wrapK_in (w64 (by omega) (by omega)) ?_; conv => whnf))
        have hsame : ACall Try.prog 20 [encIs (l.eraseIdx i), .lst (([] ++ List.drop 0 (List.take i (l.map encI))) ++ List.drop (i + 1) (List.take (l.map encI).length (l.map encI)))] (.bool true) := by
          have h := same_ok (l.eraseIdx i) (l.eraseIdx i) (by have := List.length_eraseIdx_le l i; omega) (by have := List.length_eraseIdx_le l i; omega)
          rw [decide_eq_true rfl] at h
          have e : ([] ++ List.drop 0 (List.take i (l.map encI))) ++ List.drop (i + 1) (List.take (l.map encI).length (l.map encI)) = (l.eraseIdx i).map encI := by
            rw [List.nil_append, List.drop_zero, List.take_length, List.eraseIdx_eq_take_drop_succ, List.map_append, List.map_take, List.map_drop]
          rw [e]; exact h
        refine callX_pure hsame ?_
        conv => whnf
        repeat (first | (refine bcase_f rfl ?_; conv => whnf) | (refine bcase_t rfl ?_; conv => whnf) | (refine condK_of rfl ?_; conv => whnf) | (refine condK_of (by decide) ?_; conv => whnf) | (refine condK_of (by omega) ?_; conv => whnf) | (refine wrapK_in (w64 (by omega) (by omega)) ?_; conv => whnf))
        refine callX_pure awake_ok ?_
        conv => whnf
        repeat (first | (refine bcase_f rfl ?_; conv => whnf) | (refine bcase_t rfl ?_; conv => whnf) | (refine condK_of rfl ?_; conv => whnf) | (refine condK_of (by decide) ?_; conv => whnf) | (refine condK_of (by omega) ?_; conv => whnf) | (refine wrapK_in (w64 (by omega) (by omega)) ?_; conv => whnf))
        exact ret_of rfl rfl
      repeat (first | (refine bcase_f rfl ?_; conv => whnf) | (refine bcase_t rfl ?_; conv => whnf) | (refine condK_of rfl ?_; conv => whnf) | (refine condK_of (by decide) ?_; conv => whnf) | (refine condK_of (by omega) ?_; conv => whnf) | (refine wrapK_in (w64 (by omega) (by omega)) ?_; conv => whnf))
      refine bcase_p (fun g3 => ?_) (fun g3 => ?_) <;> conv => whnf
      · have e3 : markG l p t = (l, 1) := by
          rw [markG, if_pos]; simp [timeB]; omega
        rw [e3]
        repeat (first | (refine bcase_f rfl ?_; conv => whnf) | (refine bcase_t rfl ?_; conv => whnf) | (refine condK_of rfl ?_; conv => whnf) | (refine condK_of (by decide) ?_; conv => whnf) | (refine condK_of (by omega) ?_; conv => whnf) | (refine wrapK_in (w64 (by omega) (by omega)) ?_; conv => whnf))
        refine callX_pure (refs_ok l (by omega)) ?_
        conv => whnf
        refine callX_pure (same_ok l l (by omega) (by omega)) ?_
        conv => whnf
        refine bcase_f (by simp) ?_
        conv => whnf
        repeat (first | (refine bcase_f rfl ?_; conv => whnf) | (refine bcase_t rfl ?_; conv => whnf) | (refine condK_of rfl ?_; conv => whnf) | (refine condK_of (by decide) ?_; conv => whnf) | (refine condK_of (by omega) ?_; conv => whnf) | (refine wrapK_in (w64 (by omega) (by omega)) ?_; conv => whnf))
        refine callX_pure (refs_ok (l.eraseIdx i) (by have := List.length_eraseIdx_le l i; omega)) ?_
        conv => whnf
        repeat (first | (refine bcase_f rfl ?_; conv => whnf) | (refine bcase_t rfl ?_; conv => whnf) | (refine condK_of rfl ?_; conv => whnf) | (refine condK_of (by decide) ?_; conv => whnf) | (refine condK_of (by omega) ?_; conv => whnf) | (refine wrapK_in (w64 (by omega) (by omega)) ?_; conv => whnf))
        refine condK_of (fun e he => encI_len he) ?_
        conv => whnf
        refine sliceK_hi (by simp; omega) ?_
        conv => whnf
        refine condK_of (by rw [← List.map_take, List.drop_zero]; exact encI_ok _) ?_
        conv => whnf
        have hti : (List.drop 0 (List.take i (l.map encI))).length ≤ 40 := by simp; omega
        refine roomK_le 1000 100 (by show 0 + List.length _ ≤ 1000; omega) (by decide) (by decide) (by decide) ?_
        conv => whnf
        repeat (first | (refine bcase_f rfl ?_; conv => whnf) | (refine bcase_t rfl ?_; conv => whnf) | (refine condK_of rfl ?_; conv => whnf) | (refine condK_of (by decide) ?_; conv => whnf) | (refine condK_of (by omega) ?_; conv => whnf) | (refine wrapK_in (w64 (by omega) (by omega)) ?_; conv => whnf))
        refine condK_of (fun e he => encI_len he) ?_
        conv => whnf
        refine sliceK_lo (l := i + 1) (by simp; omega) ?_
        conv => whnf
        refine condK_of (by rw [← List.map_take, ← List.map_drop]; exact encI_ok _) ?_
        conv => whnf
        have htj : (List.drop (i + 1) (List.take (l.map encI).length (l.map encI))).length ≤ 40 := by simp; omega
        refine roomK_le 1000 100 (by show List.length (_ ++ _) + List.length _ ≤ 1000; rw [List.length_append]; show (0 + List.length _) + _ ≤ 1000; omega) (by decide) (by decide) (by decide) ?_
        conv => whnf
        repeat (first | (refine bcase_f rfl ?_; conv => whnf) | (refine bcase_t rfl ?_; conv => whnf) | (refine condK_of rfl ?_; conv => whnf) | (refine condK_of (by decide) ?_; conv => whnf) | (refine condK_of (by omega) ?_; conv => whnf) | (refine wrapK_in (w64 (by omega) (by omega)) ?_; conv => whnf))
        have hsame : ACall Try.prog 20 [encIs (l.eraseIdx i), .lst (([] ++ List.drop 0 (List.take i (l.map encI))) ++ List.drop (i + 1) (List.take (l.map encI).length (l.map encI)))] (.bool true) := by
          have h := same_ok (l.eraseIdx i) (l.eraseIdx i) (by have := List.length_eraseIdx_le l i; omega) (by have := List.length_eraseIdx_le l i; omega)
          rw [decide_eq_true rfl] at h
          have e : ([] ++ List.drop 0 (List.take i (l.map encI))) ++ List.drop (i + 1) (List.take (l.map encI).length (l.map encI)) = (l.eraseIdx i).map encI := by
            rw [List.nil_append, List.drop_zero, List.take_length, List.eraseIdx_eq_take_drop_succ, List.map_append, List.map_take, List.map_drop]
          rw [e]; exact h
        refine callX_pure hsame ?_
        conv => whnf
        repeat (first | (refine bcase_f rfl ?_; conv => whnf) | (refine bcase_t rfl ?_; conv => whnf) | (refine condK_of rfl ?_; conv => whnf) | (refine condK_of (by decide) ?_; conv => whnf) | (refine condK_of (by omega) ?_; conv => whnf) | (refine wrapK_in (w64 (by omega) (by omega)) ?_; conv => whnf))
        refine callX_pure awake_ok ?_
        conv => whnf
        repeat (first | (refine bcase_f rfl ?_; conv => whnf) | (refine bcase_t rfl ?_; conv => whnf) | (refine condK_of rfl ?_; conv => whnf) | (refine condK_of (by decide) ?_; conv => whnf) | (refine condK_of (by omega) ?_; conv => whnf) | (refine wrapK_in (w64 (by omega) (by omega)) ?_; conv => whnf))
        exact ret_of rfl rfl
      repeat (first | (refine bcase_f rfl ?_; conv => whnf) | (refine bcase_t rfl ?_; conv => whnf) | (refine condK_of rfl ?_; conv => whnf) | (refine condK_of (by decide) ?_; conv => whnf) | (refine condK_of (by omega) ?_; conv => whnf) | (refine wrapK_in (w64 (by omega) (by omega)) ?_; conv => whnf))
      refine bcase_p (fun g4 => ?_) (fun g4 => ?_) <;> conv => whnf
      · have e3 : markG l p t = (l, 1) := by
          rw [markG, if_pos]; simp [timeB]; omega
        rw [e3]
        repeat (first | (refine bcase_f rfl ?_; conv => whnf) | (refine bcase_t rfl ?_; conv => whnf) | (refine condK_of rfl ?_; conv => whnf) | (refine condK_of (by decide) ?_; conv => whnf) | (refine condK_of (by omega) ?_; conv => whnf) | (refine wrapK_in (w64 (by omega) (by omega)) ?_; conv => whnf))
        refine callX_pure (refs_ok l (by omega)) ?_
        conv => whnf
        refine callX_pure (same_ok l l (by omega) (by omega)) ?_
        conv => whnf
        refine bcase_f (by simp) ?_
        conv => whnf
        repeat (first | (refine bcase_f rfl ?_; conv => whnf) | (refine bcase_t rfl ?_; conv => whnf) | (refine condK_of rfl ?_; conv => whnf) | (refine condK_of (by decide) ?_; conv => whnf) | (refine condK_of (by omega) ?_; conv => whnf) | (refine wrapK_in (w64 (by omega) (by omega)) ?_; conv => whnf))
        refine callX_pure (refs_ok (l.eraseIdx i) (by have := List.length_eraseIdx_le l i; omega)) ?_
        conv => whnf
        repeat (first | (refine bcase_f rfl ?_; conv => whnf) | (refine bcase_t rfl ?_; conv => whnf) | (refine condK_of rfl ?_; conv => whnf) | (refine condK_of (by decide) ?_; conv => whnf) | (refine condK_of (by omega) ?_; conv => whnf) | (refine wrapK_in (w64 (by omega) (by omega)) ?_; conv => whnf))
        refine condK_of (fun e he => encI_len he) ?_
        conv => whnf
        refine sliceK_hi (by simp; omega) ?_
        conv => whnf
        refine condK_of (by rw [← List.map_take, List.drop_zero]; exact encI_ok _) ?_
        conv => whnf
        have hti : (List.drop 0 (List.take i (l.map encI))).length ≤ 40 := by simp; omega
        refine roomK_le 1000 100 (by show 0 + List.length _ ≤ 1000; omega) (by decide) (by decide) (by decide) ?_
        conv => whnf
        repeat (first | (refine bcase_f rfl ?_; conv => whnf) | (refine bcase_t rfl ?_; conv => whnf) | (refine condK_of rfl ?_; conv => whnf) | (refine condK_of (by decide) ?_; conv => whnf) | (refine condK_of (by omega) ?_; conv => whnf) | (refine wrapK_in (w64 (by omega) (by omega)) ?_; conv => whnf))
        refine condK_of (fun e he => encI_len he) ?_
        conv => whnf
        refine sliceK_lo (l := i + 1) (by simp; omega) ?_
        conv => whnf
        refine condK_of (by rw [← List.map_take, ← List.map_drop]; exact encI_ok _) ?_
        conv => whnf
        have htj : (List.drop (i + 1) (List.take (l.map encI).length (l.map encI))).length ≤ 40 := by simp; omega
        refine roomK_le 1000 100 (by show List.length (_ ++ _) + List.length _ ≤ 1000; rw [List.length_append]; show (0 + List.length _) + _ ≤ 1000; omega) (by decide) (by decide) (by decide) ?_
        conv => whnf
        repeat (first | (refine bcase_f rfl ?_; conv => whnf) | (refine bcase_t rfl ?_; conv => whnf) | (refine condK_of rfl ?_; conv => whnf) | (refine condK_of (by decide) ?_; conv => whnf) | (refine condK_of (by omega) ?_; conv => whnf) | (refine wrapK_in (w64 (by omega) (by omega)) ?_; conv => whnf))
        have hsame : ACall Try.prog 20 [encIs (l.eraseIdx i), .lst (([] ++ List.drop 0 (List.take i (l.map encI))) ++ List.drop (i + 1) (List.take (l.map encI).length (l.map encI)))] (.bool true) := by
          have h := same_ok (l.eraseIdx i) (l.eraseIdx i) (by have := List.length_eraseIdx_le l i; omega) (by have := List.length_eraseIdx_le l i; omega)
          rw [decide_eq_true rfl] at h
          have e : ([] ++ List.drop 0 (List.take i (l.map encI))) ++ List.drop (i + 1) (List.take (l.map encI).length (l.map encI)) = (l.eraseIdx i).map encI := by
            rw [List.nil_append, List.drop_zero, List.take_length, List.eraseIdx_eq_take_drop_succ, List.map_append, List.map_take, List.map_drop]
          rw [e]; exact h
        refine callX_pure hsame ?_
        conv => whnf
        repeat (first | (refine bcase_f rfl ?_; conv => whnf) | (refine bcase_t rfl ?_; conv => whnf) | (refine condK_of rfl ?_; conv => whnf) | (refine condK_of (by decide) ?_; conv => whnf) | (refine condK_of (by omega) ?_; conv => whnf) | (refine wrapK_in (w64 (by omega) (by omega)) ?_; conv => whnf))
        refine callX_pure awake_ok ?_
        conv => whnf
        repeat (first | (refine bcase_f rfl ?_; conv => whnf) | (refine bcase_t rfl ?_; conv => whnf) | (refine condK_of rfl ?_; conv => whnf) | (refine condK_of (by decide) ?_; conv => whnf) | (refine condK_of (by omega) ?_; conv => whnf) | (refine wrapK_in (w64 (by omega) (by omega)) ?_; conv => whnf))
        exact ret_of rfl rfl
      repeat (first | (refine bcase_f rfl ?_; conv => whnf) | (refine bcase_t rfl ?_; conv => whnf) | (refine condK_of rfl ?_; conv => whnf) | (refine condK_of (by decide) ?_; conv => whnf) | (refine condK_of (by omega) ?_; conv => whnf) | (refine wrapK_in (w64 (by omega) (by omega)) ?_; conv => whnf))
      have hpg : pageB p = true := by simp [pageB]; omega
      have htm : timeB t = true := by simp [timeB]; omega
      refine bcase_p (fun g5 => ?_) (fun g5 => ?_) <;> conv => whnf
      · repeat (first | (refine bcase_f rfl ?_; conv => whnf) | (refine bcase_t rfl ?_; conv => whnf) | (refine condK_of rfl ?_; conv => whnf) | (refine condK_of (by decide) ?_; conv => whnf) | (refine condK_of (by omega) ?_; conv => whnf) | (refine wrapK_in (w64 (by omega) (by omega)) ?_; conv => whnf))
        refine idxK_int (by omega) (by omega) ?_
        conv => whnf
        refine getRow_of (x := encI l[l.length - 1]) (by rw [show (((l.map encI).length : Int) - 1).toNat = l.length - 1 by omega]; simp [show l.length - 1 < l.length by omega]) ?_
        conv => whnf
        repeat (first | (refine bcase_f rfl ?_; conv => whnf) | (refine bcase_t rfl ?_; conv => whnf) | (refine condK_of rfl ?_; conv => whnf) | (refine condK_of (by decide) ?_; conv => whnf) | (refine condK_of (by omega) ?_; conv => whnf) | (refine wrapK_in (w64 (by omega) (by omega)) ?_; conv => whnf))
        refine bcase_p (fun g6 => ?_) (fun g6 => ?_) <;> conv => whnf
        · have e3 : markG l p t = (l, 1) := by
            rw [markG, if_neg (by simp [hr, hpg, htm]), if_pos]
            simp [lateB, show l.length - 1 < l.length by omega, g6]; omega
          rw [e3]
          repeat (first | (refine bcase_f rfl ?_; conv => whnf) | (refine bcase_t rfl ?_; conv => whnf) | (refine condK_of rfl ?_; conv => whnf) | (refine condK_of (by decide) ?_; conv => whnf) | (refine condK_of (by omega) ?_; conv => whnf) | (refine wrapK_in (w64 (by omega) (by omega)) ?_; conv => whnf))
          refine callX_pure (refs_ok l (by omega)) ?_
          conv => whnf
          refine callX_pure (same_ok l l (by omega) (by omega)) ?_
          conv => whnf
          refine bcase_f (by simp) ?_
          conv => whnf
          repeat (first | (refine bcase_f rfl ?_; conv => whnf) | (refine bcase_t rfl ?_; conv => whnf) | (refine condK_of rfl ?_; conv => whnf) | (refine condK_of (by decide) ?_; conv => whnf) | (refine condK_of (by omega) ?_; conv => whnf) | (refine wrapK_in (w64 (by omega) (by omega)) ?_; conv => whnf))
          refine callX_pure (refs_ok (l.eraseIdx i) (by have := List.length_eraseIdx_le l i; omega)) ?_
          conv => whnf
          repeat (first | (refine bcase_f rfl ?_; conv => whnf) | (refine bcase_t rfl ?_; conv => whnf) | (refine condK_of rfl ?_; conv => whnf) | (refine condK_of (by decide) ?_; conv => whnf) | (refine condK_of (by omega) ?_; conv => whnf) | (refine wrapK_in (w64 (by omega) (by omega)) ?_; conv => whnf))
          refine condK_of (fun e he => encI_len he) ?_
          conv => whnf
          refine sliceK_hi (by simp; omega) ?_
          conv => whnf
          refine condK_of (by rw [← List.map_take, List.drop_zero]; exact encI_ok _) ?_
          conv => whnf
          have hti : (List.drop 0 (List.take i (l.map encI))).length ≤ 40 := by simp; omega
          refine roomK_le 1000 100 (by show 0 + List.length _ ≤ 1000; omega) (by decide) (by decide) (by decide) ?_
          conv => whnf
          repeat (first | (refine bcase_f rfl ?_; conv => whnf) | (refine bcase_t rfl ?_; conv => whnf) | (refine condK_of rfl ?_; conv => whnf) | (refine condK_of (by decide) ?_; conv => whnf) | (refine condK_of (by omega) ?_; conv => whnf) | (refine wrapK_in (w64 (by omega) (by omega)) ?_; conv => whnf))
          refine condK_of (fun e he => encI_len he) ?_
          conv => whnf
          refine sliceK_lo (l := i + 1) (by simp; omega) ?_
          conv => whnf
          refine condK_of (by rw [← List.map_take, ← List.map_drop]; exact encI_ok _) ?_
          conv => whnf
          have htj : (List.drop (i + 1) (List.take (l.map encI).length (l.map encI))).length ≤ 40 := by simp; omega
          refine roomK_le 1000 100 (by show List.length (_ ++ _) + List.length _ ≤ 1000; rw [List.length_append]; show (0 + List.length _) + _ ≤ 1000; omega) (by decide) (by decide) (by decide) ?_
          conv => whnf
          repeat (first | (refine bcase_f rfl ?_; conv => whnf) | (refine bcase_t rfl ?_; conv => whnf) | (refine condK_of rfl ?_; conv => whnf) | (refine condK_of (by decide) ?_; conv => whnf) | (refine condK_of (by omega) ?_; conv => whnf) | (refine wrapK_in (w64 (by omega) (by omega)) ?_; conv => whnf))
          have hsame : ACall Try.prog 20 [encIs (l.eraseIdx i), .lst (([] ++ List.drop 0 (List.take i (l.map encI))) ++ List.drop (i + 1) (List.take (l.map encI).length (l.map encI)))] (.bool true) := by
            have h := same_ok (l.eraseIdx i) (l.eraseIdx i) (by have := List.length_eraseIdx_le l i; omega) (by have := List.length_eraseIdx_le l i; omega)
            rw [decide_eq_true rfl] at h
            have e : ([] ++ List.drop 0 (List.take i (l.map encI))) ++ List.drop (i + 1) (List.take (l.map encI).length (l.map encI)) = (l.eraseIdx i).map encI := by
              rw [List.nil_append, List.drop_zero, List.take_length, List.eraseIdx_eq_take_drop_succ, List.map_append, List.map_take, List.map_drop]
            rw [e]; exact h
          refine callX_pure hsame ?_
          conv => whnf
          repeat (first | (refine bcase_f rfl ?_; conv => whnf) | (refine bcase_t rfl ?_; conv => whnf) | (refine condK_of rfl ?_; conv => whnf) | (refine condK_of (by decide) ?_; conv => whnf) | (refine condK_of (by omega) ?_; conv => whnf) | (refine wrapK_in (w64 (by omega) (by omega)) ?_; conv => whnf))
          refine callX_pure awake_ok ?_
          conv => whnf
          repeat (first | (refine bcase_f rfl ?_; conv => whnf) | (refine bcase_t rfl ?_; conv => whnf) | (refine condK_of rfl ?_; conv => whnf) | (refine condK_of (by decide) ?_; conv => whnf) | (refine condK_of (by omega) ?_; conv => whnf) | (refine wrapK_in (w64 (by omega) (by omega)) ?_; conv => whnf))
          exact ret_of rfl rfl
        have hlt : lateB l t = false := by simp [lateB, show l.length - 1 < l.length by omega]; omega
        repeat (first | (refine bcase_f rfl ?_; conv => whnf) | (refine bcase_t rfl ?_; conv => whnf) | (refine condK_of rfl ?_; conv => whnf) | (refine condK_of (by decide) ?_; conv => whnf) | (refine condK_of (by omega) ?_; conv => whnf) | (refine wrapK_in (w64 (by omega) (by omega)) ?_; conv => whnf))
        have e3 : markG l p t = (l, 0) := by
          rw [markG, if_neg (by simp [hr, hpg, htm]), if_neg (by simp [hlt]), if_pos h3]
        rw [e3]
        repeat (first | (refine bcase_f rfl ?_; conv => whnf) | (refine bcase_t rfl ?_; conv => whnf) | (refine condK_of rfl ?_; conv => whnf) | (refine condK_of (by decide) ?_; conv => whnf) | (refine condK_of (by omega) ?_; conv => whnf) | (refine wrapK_in (w64 (by omega) (by omega)) ?_; conv => whnf))
        refine callX_pure (refs_ok l (by omega)) ?_
        conv => whnf
        refine callX_pure (same_ok l l (by omega) (by omega)) ?_
        conv => whnf
        refine bcase_f (by simp) ?_
        conv => whnf
        repeat (first | (refine bcase_f rfl ?_; conv => whnf) | (refine bcase_t rfl ?_; conv => whnf) | (refine condK_of rfl ?_; conv => whnf) | (refine condK_of (by decide) ?_; conv => whnf) | (refine condK_of (by omega) ?_; conv => whnf) | (refine wrapK_in (w64 (by omega) (by omega)) ?_; conv => whnf))
        refine callX_pure (refs_ok (l.eraseIdx i) (by have := List.length_eraseIdx_le l i; omega)) ?_
        conv => whnf
        repeat (first | (refine bcase_f rfl ?_; conv => whnf) | (refine bcase_t rfl ?_; conv => whnf) | (refine condK_of rfl ?_; conv => whnf) | (refine condK_of (by decide) ?_; conv => whnf) | (refine condK_of (by omega) ?_; conv => whnf) | (refine wrapK_in (w64 (by omega) (by omega)) ?_; conv => whnf))
        refine condK_of (fun e he => encI_len he) ?_
        conv => whnf
        refine sliceK_hi (by simp; omega) ?_
        conv => whnf
        refine condK_of (by rw [← List.map_take, List.drop_zero]; exact encI_ok _) ?_
        conv => whnf
        have hti : (List.drop 0 (List.take i (l.map encI))).length ≤ 40 := by simp; omega
        refine roomK_le 1000 100 (by show 0 + List.length _ ≤ 1000; omega) (by decide) (by decide) (by decide) ?_
        conv => whnf
        repeat (first | (refine bcase_f rfl ?_; conv => whnf) | (refine bcase_t rfl ?_; conv => whnf) | (refine condK_of rfl ?_; conv => whnf) | (refine condK_of (by decide) ?_; conv => whnf) | (refine condK_of (by omega) ?_; conv => whnf) | (refine wrapK_in (w64 (by omega) (by omega)) ?_; conv => whnf))
        refine condK_of (fun e he => encI_len he) ?_
        conv => whnf
        refine sliceK_lo (l := i + 1) (by simp; omega) ?_
        conv => whnf
        refine condK_of (by rw [← List.map_take, ← List.map_drop]; exact encI_ok _) ?_
        conv => whnf
        have htj : (List.drop (i + 1) (List.take (l.map encI).length (l.map encI))).length ≤ 40 := by simp; omega
        refine roomK_le 1000 100 (by show List.length (_ ++ _) + List.length _ ≤ 1000; rw [List.length_append]; show (0 + List.length _) + _ ≤ 1000; omega) (by decide) (by decide) (by decide) ?_
        conv => whnf
        repeat (first | (refine bcase_f rfl ?_; conv => whnf) | (refine bcase_t rfl ?_; conv => whnf) | (refine condK_of rfl ?_; conv => whnf) | (refine condK_of (by decide) ?_; conv => whnf) | (refine condK_of (by omega) ?_; conv => whnf) | (refine wrapK_in (w64 (by omega) (by omega)) ?_; conv => whnf))
        have hsame : ACall Try.prog 20 [encIs (l.eraseIdx i), .lst (([] ++ List.drop 0 (List.take i (l.map encI))) ++ List.drop (i + 1) (List.take (l.map encI).length (l.map encI)))] (.bool true) := by
          have h := same_ok (l.eraseIdx i) (l.eraseIdx i) (by have := List.length_eraseIdx_le l i; omega) (by have := List.length_eraseIdx_le l i; omega)
          rw [decide_eq_true rfl] at h
          have e : ([] ++ List.drop 0 (List.take i (l.map encI))) ++ List.drop (i + 1) (List.take (l.map encI).length (l.map encI)) = (l.eraseIdx i).map encI := by
            rw [List.nil_append, List.drop_zero, List.take_length, List.eraseIdx_eq_take_drop_succ, List.map_append, List.map_take, List.map_drop]
          rw [e]; exact h
        refine callX_pure hsame ?_
        conv => whnf
        repeat (first | (refine bcase_f rfl ?_; conv => whnf) | (refine bcase_t rfl ?_; conv => whnf) | (refine condK_of rfl ?_; conv => whnf) | (refine condK_of (by decide) ?_; conv => whnf) | (refine condK_of (by omega) ?_; conv => whnf) | (refine wrapK_in (w64 (by omega) (by omega)) ?_; conv => whnf))
        refine callX_pure awake_ok ?_
        conv => whnf
        repeat (first | (refine bcase_f rfl ?_; conv => whnf) | (refine bcase_t rfl ?_; conv => whnf) | (refine condK_of rfl ?_; conv => whnf) | (refine condK_of (by decide) ?_; conv => whnf) | (refine condK_of (by omega) ?_; conv => whnf) | (refine wrapK_in (w64 (by omega) (by omega)) ?_; conv => whnf))
        exact ret_of rfl rfl
      · have hlt : lateB l t = false := by simp [lateB]; omega
        repeat (first | (refine bcase_f rfl ?_; conv => whnf) | (refine bcase_t rfl ?_; conv => whnf) | (refine condK_of rfl ?_; conv => whnf) | (refine condK_of (by decide) ?_; conv => whnf) | (refine condK_of (by omega) ?_; conv => whnf) | (refine wrapK_in (w64 (by omega) (by omega)) ?_; conv => whnf))
        have e3 : markG l p t = (l, 0) := by
          rw [markG, if_neg (by simp [hr, hpg, htm]), if_neg (by simp [hlt]), if_pos h3]
        rw [e3]
        repeat (first | (refine bcase_f rfl ?_; conv => whnf) | (refine bcase_t rfl ?_; conv => whnf) | (refine condK_of rfl ?_; conv => whnf) | (refine condK_of (by decide) ?_; conv => whnf) | (refine condK_of (by omega) ?_; conv => whnf) | (refine wrapK_in (w64 (by omega) (by omega)) ?_; conv => whnf))
        refine callX_pure (refs_ok l (by omega)) ?_
        conv => whnf
        refine callX_pure (same_ok l l (by omega) (by omega)) ?_
        conv => whnf
        refine bcase_f (by simp) ?_
        conv => whnf
        repeat (first | (refine bcase_f rfl ?_; conv => whnf) | (refine bcase_t rfl ?_; conv => whnf) | (refine condK_of rfl ?_; conv => whnf) | (refine condK_of (by decide) ?_; conv => whnf) | (refine condK_of (by omega) ?_; conv => whnf) | (refine wrapK_in (w64 (by omega) (by omega)) ?_; conv => whnf))
        exfalso; omega
    · have e1 : sinceG l p = (0, false) := by simp [sinceG]; intros; omega
      have e2 : cleanG l p = (l, 3) := by simp [cleanG, hr]; omega
      rw [e1, e2]
      refine bcase_f (by simp; omega) ?_
      conv => whnf
      repeat (first | (refine bcase_f rfl ?_; conv => whnf) | (refine bcase_t rfl ?_; conv => whnf) | (refine condK_of rfl ?_; conv => whnf) | (refine condK_of (by decide) ?_; conv => whnf) | (refine condK_of (by omega) ?_; conv => whnf) | (refine wrapK_in (w64 (by omega) (by omega)) ?_; conv => whnf))
      refine bcase_p (fun g1 => ?_) (fun g1 => ?_) <;> conv => whnf
      · have e3 : markG l p t = (l, 1) := by
          rw [markG, if_pos]; simp [pageB]; omega
        rw [e3]
        repeat (first | (refine bcase_f rfl ?_; conv => whnf) | (refine bcase_t rfl ?_; conv => whnf) | (refine condK_of rfl ?_; conv => whnf) | (refine condK_of (by decide) ?_; conv => whnf) | (refine condK_of (by omega) ?_; conv => whnf) | (refine wrapK_in (w64 (by omega) (by omega)) ?_; conv => whnf))
        refine callX_pure (refs_ok l (by omega)) ?_
        conv => whnf
        refine callX_pure (same_ok l l (by omega) (by omega)) ?_
        conv => whnf
        refine bcase_f (by simp) ?_
        conv => whnf
        repeat (first | (refine bcase_f rfl ?_; conv => whnf) | (refine bcase_t rfl ?_; conv => whnf) | (refine condK_of rfl ?_; conv => whnf) | (refine condK_of (by decide) ?_; conv => whnf) | (refine condK_of (by omega) ?_; conv => whnf) | (refine wrapK_in (w64 (by omega) (by omega)) ?_; conv => whnf))
        refine bcase_t (by simp; omega) ?_
        conv => whnf
        repeat (first | (refine bcase_f rfl ?_; conv => whnf) | (refine bcase_t rfl ?_; conv => whnf) | (refine condK_of rfl ?_; conv => whnf) | (refine condK_of (by decide) ?_; conv => whnf) | (refine condK_of (by omega) ?_; conv => whnf) | (refine wrapK_in (w64 (by omega) (by omega)) ?_; conv => whnf))
        refine callX_pure (refs_ok l (by omega)) ?_
        conv => whnf
        refine callX_pure (same_ok l l (by omega) (by omega)) ?_
        conv => whnf
        refine bcase_t (by simp) ?_
        conv => whnf
        refine callX_pure awake_ok ?_
        conv => whnf
        exact ret_of rfl rfl
      repeat (first | (refine bcase_f rfl ?_; conv => whnf) | (refine bcase_t rfl ?_; conv => whnf) | (refine condK_of rfl ?_; conv => whnf) | (refine condK_of (by decide) ?_; conv => whnf) | (refine condK_of (by omega) ?_; conv => whnf) | (refine wrapK_in (w64 (by omega) (by omega)) ?_; conv => whnf))
      refine bcase_p (fun g2 => ?_) (fun g2 => ?_) <;> conv => whnf
      · have e3 : markG l p t = (l, 1) := by
          rw [markG, if_pos]; simp [pageB]; omega
        rw [e3]
        repeat (first | (refine bcase_f rfl ?_; conv => whnf) | (refine bcase_t rfl ?_; conv => whnf) | (refine condK_of rfl ?_; conv => whnf) | (refine condK_of (by decide) ?_; conv => whnf) | (refine condK_of (by omega) ?_; conv => whnf) | (refine wrapK_in (w64 (by omega) (by omega)) ?_; conv => whnf))
        refine callX_pure (refs_ok l (by omega)) ?_
        conv => whnf
        refine callX_pure (same_ok l l (by omega) (by omega)) ?_
        conv => whnf
        refine bcase_f (by simp) ?_
        conv => whnf
        repeat (first | (refine bcase_f rfl ?_; conv => whnf) | (refine bcase_t rfl ?_; conv => whnf) | (refine condK_of rfl ?_; conv => whnf) | (refine condK_of (by decide) ?_; conv => whnf) | (refine condK_of (by omega) ?_; conv => whnf) | (refine wrapK_in (w64 (by omega) (by omega)) ?_; conv => whnf))
        refine bcase_t (by simp; omega) ?_
        conv => whnf
        repeat (first | (refine bcase_f rfl ?_; conv => whnf) | (refine bcase_t rfl ?_; conv => whnf) | (refine condK_of rfl ?_; conv => whnf) | (refine condK_of (by decide) ?_; conv => whnf) | (refine condK_of (by omega) ?_; conv => whnf) | (refine wrapK_in (w64 (by omega) (by omega)) ?_; conv => whnf))
        refine callX_pure (refs_ok l (by omega)) ?_
        conv => whnf
        refine callX_pure (same_ok l l (by omega) (by omega)) ?_
        conv => whnf
        refine bcase_t (by simp) ?_
        conv => whnf
        refine callX_pure awake_ok ?_
        conv => whnf
        exact ret_of rfl rfl
      repeat (first | (refine bcase_f rfl ?_; conv => whnf) | (refine bcase_t rfl ?_; conv => whnf) | (refine condK_of rfl ?_; conv => whnf) | (refine condK_of (by decide) ?_; conv => whnf) | (refine condK_of (by omega) ?_; conv => whnf) | (refine wrapK_in (w64 (by omega) (by omega)) ?_; conv => whnf))
      refine bcase_p (fun g3 => ?_) (fun g3 => ?_) <;> conv => whnf
      · have e3 : markG l p t = (l, 1) := by
          rw [markG, if_pos]; simp [timeB]; omega
        rw [e3]
        repeat (first | (refine bcase_f rfl ?_; conv => whnf) | (refine bcase_t rfl ?_; conv => whnf) | (refine condK_of rfl ?_; conv => whnf) | (refine condK_of (by decide) ?_; conv => whnf) | (refine condK_of (by omega) ?_; conv => whnf) | (refine wrapK_in (w64 (by omega) (by omega)) ?_; conv => whnf))
        refine callX_pure (refs_ok l (by omega)) ?_
        conv => whnf
        refine callX_pure (same_ok l l (by omega) (by omega)) ?_
        conv => whnf
        refine bcase_f (by simp) ?_
        conv => whnf
        repeat (first | (refine bcase_f rfl ?_; conv => whnf) | (refine bcase_t rfl ?_; conv => whnf) | (refine condK_of rfl ?_; conv => whnf) | (refine condK_of (by decide) ?_; conv => whnf) | (refine condK_of (by omega) ?_; conv => whnf) | (refine wrapK_in (w64 (by omega) (by omega)) ?_; conv => whnf))
        refine bcase_t (by simp; omega) ?_
        conv => whnf
        repeat (first | (refine bcase_f rfl ?_; conv => whnf) | (refine bcase_t rfl ?_; conv => whnf) | (refine condK_of rfl ?_; conv => whnf) | (refine condK_of (by decide) ?_; conv => whnf) | (refine condK_of (by omega) ?_; conv => whnf) | (refine wrapK_in (w64 (by omega) (by omega)) ?_; conv => whnf))
        refine callX_pure (refs_ok l (by omega)) ?_
        conv => whnf
        refine callX_pure (same_ok l l (by omega) (by omega)) ?_
        conv => whnf
        refine bcase_t (by simp) ?_
        conv => whnf
        refine callX_pure awake_ok ?_
        conv => whnf
        exact ret_of rfl rfl
      repeat (first | (refine bcase_f rfl ?_; conv => whnf) | (refine bcase_t rfl ?_; conv => whnf) | (refine condK_of rfl ?_; conv => whnf) | (refine condK_of (by decide) ?_; conv => whnf) | (refine condK_of (by omega) ?_; conv => whnf) | (refine wrapK_in (w64 (by omega) (by omega)) ?_; conv => whnf))
      refine bcase_p (fun g4 => ?_) (fun g4 => ?_) <;> conv => whnf
      · have e3 : markG l p t = (l, 1) := by
          rw [markG, if_pos]; simp [timeB]; omega
        rw [e3]
        repeat (first | (refine bcase_f rfl ?_; conv => whnf) | (refine bcase_t rfl ?_; conv => whnf) | (refine condK_of rfl ?_; conv => whnf) | (refine condK_of (by decide) ?_; conv => whnf) | (refine condK_of (by omega) ?_; conv => whnf) | (refine wrapK_in (w64 (by omega) (by omega)) ?_; conv => whnf))
        refine callX_pure (refs_ok l (by omega)) ?_
        conv => whnf
        refine callX_pure (same_ok l l (by omega) (by omega)) ?_
        conv => whnf
        refine bcase_f (by simp) ?_
        conv => whnf
        repeat (first | (refine bcase_f rfl ?_; conv => whnf) | (refine bcase_t rfl ?_; conv => whnf) | (refine condK_of rfl ?_; conv => whnf) | (refine condK_of (by decide) ?_; conv => whnf) | (refine condK_of (by omega) ?_; conv => whnf) | (refine wrapK_in (w64 (by omega) (by omega)) ?_; conv => whnf))
        refine bcase_t (by simp; omega) ?_
        conv => whnf
        repeat (first | (refine bcase_f rfl ?_; conv => whnf) | (refine bcase_t rfl ?_; conv => whnf) | (refine condK_of rfl ?_; conv => whnf) | (refine condK_of (by decide) ?_; conv => whnf) | (refine condK_of (by omega) ?_; conv => whnf) | (refine wrapK_in (w64 (by omega) (by omega)) ?_; conv => whnf))
        refine callX_pure (refs_ok l (by omega)) ?_
        conv => whnf
        refine callX_pure (same_ok l l (by omega) (by omega)) ?_
        conv => whnf
        refine bcase_t (by simp) ?_
        conv => whnf
        refine callX_pure awake_ok ?_
        conv => whnf
        exact ret_of rfl rfl
      repeat (first | (refine bcase_f rfl ?_; conv => whnf) | (refine bcase_t rfl ?_; conv => whnf) | (refine condK_of rfl ?_; conv => whnf) | (refine condK_of (by decide) ?_; conv => whnf) | (refine condK_of (by omega) ?_; conv => whnf) | (refine wrapK_in (w64 (by omega) (by omega)) ?_; conv => whnf))
      have hpg : pageB p = true := by simp [pageB]; omega
      have htm : timeB t = true := by simp [timeB]; omega
      refine bcase_p (fun g5 => ?_) (fun g5 => ?_) <;> conv => whnf
      · repeat (first | (refine bcase_f rfl ?_; conv => whnf) | (refine bcase_t rfl ?_; conv => whnf) | (refine condK_of rfl ?_; conv => whnf) | (refine condK_of (by decide) ?_; conv => whnf) | (refine condK_of (by omega) ?_; conv => whnf) | (refine wrapK_in (w64 (by omega) (by omega)) ?_; conv => whnf))
        refine idxK_int (by omega) (by omega) ?_
        conv => whnf
        refine getRow_of (x := encI l[l.length - 1]) (by rw [show (((l.map encI).length : Int) - 1).toNat = l.length - 1 by omega]; simp [show l.length - 1 < l.length by omega]) ?_
        conv => whnf
        repeat (first | (refine bcase_f rfl ?_; conv => whnf) | (refine bcase_t rfl ?_; conv => whnf) | (refine condK_of rfl ?_; conv => whnf) | (refine condK_of (by decide) ?_; conv => whnf) | (refine condK_of (by omega) ?_; conv => whnf) | (refine wrapK_in (w64 (by omega) (by omega)) ?_; conv => whnf))
        refine bcase_p (fun g6 => ?_) (fun g6 => ?_) <;> conv => whnf
        · have e3 : markG l p t = (l, 1) := by
            rw [markG, if_neg (by simp [hr, hpg, htm]), if_pos]
            simp [lateB, show l.length - 1 < l.length by omega, g6]; omega
          rw [e3]
          repeat (first | (refine bcase_f rfl ?_; conv => whnf) | (refine bcase_t rfl ?_; conv => whnf) | (refine condK_of rfl ?_; conv => whnf) | (refine condK_of (by decide) ?_; conv => whnf) | (refine condK_of (by omega) ?_; conv => whnf) | (refine wrapK_in (w64 (by omega) (by omega)) ?_; conv => whnf))
          refine callX_pure (refs_ok l (by omega)) ?_
          conv => whnf
          refine callX_pure (same_ok l l (by omega) (by omega)) ?_
          conv => whnf
          refine bcase_f (by simp) ?_
          conv => whnf
          repeat (first | (refine bcase_f rfl ?_; conv => whnf) | (refine bcase_t rfl ?_; conv => whnf) | (refine condK_of rfl ?_; conv => whnf) | (refine condK_of (by decide) ?_; conv => whnf) | (refine condK_of (by omega) ?_; conv => whnf) | (refine wrapK_in (w64 (by omega) (by omega)) ?_; conv => whnf))
          refine bcase_t (by simp; omega) ?_
          conv => whnf
          repeat (first | (refine bcase_f rfl ?_; conv => whnf) | (refine bcase_t rfl ?_; conv => whnf) | (refine condK_of rfl ?_; conv => whnf) | (refine condK_of (by decide) ?_; conv => whnf) | (refine condK_of (by omega) ?_; conv => whnf) | (refine wrapK_in (w64 (by omega) (by omega)) ?_; conv => whnf))
          refine callX_pure (refs_ok l (by omega)) ?_
          conv => whnf
          refine callX_pure (same_ok l l (by omega) (by omega)) ?_
          conv => whnf
          refine bcase_t (by simp) ?_
          conv => whnf
          refine callX_pure awake_ok ?_
          conv => whnf
          exact ret_of rfl rfl
        have hlt : lateB l t = false := by simp [lateB, show l.length - 1 < l.length by omega]; omega
        repeat (first | (refine bcase_f rfl ?_; conv => whnf) | (refine bcase_t rfl ?_; conv => whnf) | (refine condK_of rfl ?_; conv => whnf) | (refine condK_of (by decide) ?_; conv => whnf) | (refine condK_of (by omega) ?_; conv => whnf) | (refine wrapK_in (w64 (by omega) (by omega)) ?_; conv => whnf))
        have e3 : markG l p t = (l ++ [(p, t)], 0) := by
          rw [markG, if_neg (by simp [hr, hpg, htm]), if_neg (by simp [hlt]), if_neg h3]
        rw [e3]
        refine bcase_f (by simp; omega) ?_
        conv => whnf
        repeat (first | (refine bcase_f rfl ?_; conv => whnf) | (refine bcase_t rfl ?_; conv => whnf) | (refine condK_of rfl ?_; conv => whnf) | (refine condK_of (by decide) ?_; conv => whnf) | (refine condK_of (by omega) ?_; conv => whnf) | (refine wrapK_in (w64 (by omega) (by omega)) ?_; conv => whnf))
        refine condK_of (encI_ok l) ?_
        conv => whnf
        refine roomK_le 1000 100 (by show 0 + List.length _ ≤ 1000; omega) (by decide) (by decide) (by decide) ?_
        conv => whnf
        repeat (first | (refine bcase_f rfl ?_; conv => whnf) | (refine bcase_t rfl ?_; conv => whnf) | (refine condK_of rfl ?_; conv => whnf) | (refine condK_of (by decide) ?_; conv => whnf) | (refine condK_of (by omega) ?_; conv => whnf) | (refine wrapK_in (w64 (by omega) (by omega)) ?_; conv => whnf))
        refine roomK_le 1000 100 (by show List.length (_ ++ _) + 1 ≤ 1000; rw [List.length_append]; show (0 + List.length _) + 1 ≤ 1000; omega) (by decide) (by decide) (by decide) ?_
        conv => whnf
        repeat (first | (refine bcase_f rfl ?_; conv => whnf) | (refine bcase_t rfl ?_; conv => whnf) | (refine condK_of rfl ?_; conv => whnf) | (refine condK_of (by decide) ?_; conv => whnf) | (refine condK_of (by omega) ?_; conv => whnf) | (refine wrapK_in (w64 (by omega) (by omega)) ?_; conv => whnf))
        refine callX_pure (d := encIs (l ++ [(p, t)])) (refs_ok (l ++ [(p, t)]) (by simp; omega)) ?_
        conv => whnf
        have hsame : ACall Try.prog 20 [encIs (l ++ [(p, t)]), .lst (([] ++ l.map encI) ++ [encI (p, t)])] (.bool true) := by
          have h := same_ok (l ++ [(p, t)]) (l ++ [(p, t)]) (by simp; omega) (by simp; omega)
          rw [decide_eq_true rfl] at h
          rw [List.nil_append, show l.map encI ++ [encI (p, t)] = (l ++ [(p, t)]).map encI by simp]; exact h
        refine callX_pure hsame ?_
        conv => whnf
        repeat (first | (refine bcase_f rfl ?_; conv => whnf) | (refine bcase_t rfl ?_; conv => whnf) | (refine condK_of rfl ?_; conv => whnf) | (refine condK_of (by decide) ?_; conv => whnf) | (refine condK_of (by omega) ?_; conv => whnf) | (refine wrapK_in (w64 (by omega) (by omega)) ?_; conv => whnf))
        refine bcase_t (by simp; omega) ?_
        conv => whnf
        repeat (first | (refine bcase_f rfl ?_; conv => whnf) | (refine bcase_t rfl ?_; conv => whnf) | (refine condK_of rfl ?_; conv => whnf) | (refine condK_of (by decide) ?_; conv => whnf) | (refine condK_of (by omega) ?_; conv => whnf) | (refine wrapK_in (w64 (by omega) (by omega)) ?_; conv => whnf))
        refine callX_pure (refs_ok l (by omega)) ?_
        conv => whnf
        refine callX_pure (same_ok l l (by omega) (by omega)) ?_
        conv => whnf
        refine bcase_t (by simp) ?_
        conv => whnf
        refine callX_pure awake_ok ?_
        conv => whnf
        exact ret_of rfl rfl
      · have hlt : lateB l t = false := by simp [lateB]; omega
        repeat (first | (refine bcase_f rfl ?_; conv => whnf) | (refine bcase_t rfl ?_; conv => whnf) | (refine condK_of rfl ?_; conv => whnf) | (refine condK_of (by decide) ?_; conv => whnf) | (refine condK_of (by omega) ?_; conv => whnf) | (refine wrapK_in (w64 (by omega) (by omega)) ?_; conv => whnf))
        have e3 : markG l p t = (l ++ [(p, t)], 0) := by
          rw [markG, if_neg (by simp [hr, hpg, htm]), if_neg (by simp [hlt]), if_neg h3]
        rw [e3]
        refine bcase_f (by simp; omega) ?_
        conv => whnf
        repeat (first | (refine bcase_f rfl ?_; conv => whnf) | (refine bcase_t rfl ?_; conv => whnf) | (refine condK_of rfl ?_; conv => whnf) | (refine condK_of (by decide) ?_; conv => whnf) | (refine condK_of (by omega) ?_; conv => whnf) | (refine wrapK_in (w64 (by omega) (by omega)) ?_; conv => whnf))
        refine condK_of (encI_ok l) ?_
        conv => whnf
        refine roomK_le 1000 100 (by show 0 + List.length _ ≤ 1000; omega) (by decide) (by decide) (by decide) ?_
        conv => whnf
        repeat (first | (refine bcase_f rfl ?_; conv => whnf) | (refine bcase_t rfl ?_; conv => whnf) | (refine condK_of rfl ?_; conv => whnf) | (refine condK_of (by decide) ?_; conv => whnf) | (refine condK_of (by omega) ?_; conv => whnf) | (refine wrapK_in (w64 (by omega) (by omega)) ?_; conv => whnf))
        refine roomK_le 1000 100 (by show List.length (_ ++ _) + 1 ≤ 1000; rw [List.length_append]; show (0 + List.length _) + 1 ≤ 1000; omega) (by decide) (by decide) (by decide) ?_
        conv => whnf
        repeat (first | (refine bcase_f rfl ?_; conv => whnf) | (refine bcase_t rfl ?_; conv => whnf) | (refine condK_of rfl ?_; conv => whnf) | (refine condK_of (by decide) ?_; conv => whnf) | (refine condK_of (by omega) ?_; conv => whnf) | (refine wrapK_in (w64 (by omega) (by omega)) ?_; conv => whnf))
        refine callX_pure (d := encIs (l ++ [(p, t)])) (refs_ok (l ++ [(p, t)]) (by simp; omega)) ?_
        conv => whnf
        have hsame : ACall Try.prog 20 [encIs (l ++ [(p, t)]), .lst (([] ++ l.map encI) ++ [encI (p, t)])] (.bool true) := by
          have h := same_ok (l ++ [(p, t)]) (l ++ [(p, t)]) (by simp; omega) (by simp; omega)
          rw [decide_eq_true rfl] at h
          rw [List.nil_append, show l.map encI ++ [encI (p, t)] = (l ++ [(p, t)]).map encI by simp]; exact h
        refine callX_pure hsame ?_
        conv => whnf
        repeat (first | (refine bcase_f rfl ?_; conv => whnf) | (refine bcase_t rfl ?_; conv => whnf) | (refine condK_of rfl ?_; conv => whnf) | (refine condK_of (by decide) ?_; conv => whnf) | (refine condK_of (by omega) ?_; conv => whnf) | (refine wrapK_in (w64 (by omega) (by omega)) ?_; conv => whnf))
        refine bcase_t (by simp; omega) ?_
        conv => whnf
        repeat (first | (refine bcase_f rfl ?_; conv => whnf) | (refine bcase_t rfl ?_; conv => whnf) | (refine condK_of rfl ?_; conv => whnf) | (refine condK_of (by decide) ?_; conv => whnf) | (refine condK_of (by omega) ?_; conv => whnf) | (refine wrapK_in (w64 (by omega) (by omega)) ?_; conv => whnf))
        refine callX_pure (refs_ok l (by omega)) ?_
        conv => whnf
        refine callX_pure (same_ok l l (by omega) (by omega)) ?_
        conv => whnf
        refine bcase_t (by simp) ?_
        conv => whnf
        refine callX_pure awake_ok ?_
        conv => whnf
        exact ret_of rfl rfl
end Go.Lk

set_option linter.unusedSimpArgs false
set_option linter.unusedVariables false
set_option linter.unnecessarySimpa false
namespace Go.Lk
open Go Go.Proofs Go.RowKit

def RightP (l : List (Int × Int)) : Prop := l.length ≤ 16 ∧ (∀ x ∈ l, pageB x.1 = true ∧ timeB x.2 = true) ∧ l.Pairwise (fun a b => a.1 ≠ b.1) ∧ l.Pairwise (fun a b => a.2 ≤ b.2)
theorem late_le {l : List (Int × Int)} {t : Int} (hs : l.Pairwise (fun a b => a.2 ≤ b.2)) : lateB l t = false ↔ ∀ a ∈ l, a.2 ≤ t := by
  constructor
  · intro h a ha
    obtain ⟨i, hi, rfl⟩ := List.mem_iff_getElem.1 ha
    have hp : 0 < l.length := by omega
    simp [lateB, show l.length - 1 < l.length by omega] at h
    have h := h hp
    by_cases e : i = l.length - 1
    · subst e; exact h
    · have := List.pairwise_iff_getElem.1 hs i (l.length - 1) hi (by omega) (by omega)
      omega
  · intro h
    simp [lateB]
    intro hp
    rw [List.getElem?_eq_getElem (show l.length - 1 < l.length by omega)]
    exact h _ (List.getElem_mem _)
theorem rightB_iff {l : List (Int × Int)} : rightB l = true ↔ RightP l := by
  refine snocRec (motive := fun l => rightB l = true ↔ RightP l) ⟨fun _ => ⟨by simp, fun x h => (by cases h), .nil, .nil⟩, fun _ => rfl⟩ (fun l x ih => ?_) l
  rw [rightB_snoc, ih]
  unfold RightP
  simp only [List.length_append, List.length_cons, List.length_nil, List.mem_append, List.mem_singleton, List.pairwise_append]
  constructor
  · rintro ⟨⟨h1, h2, h3, h4⟩, h5, h6, h7, h8, h9⟩
    refine ⟨by omega, fun y hy => ?_, ⟨h3, by simp, fun a ha b hb e => ?_⟩, ⟨h4, by simp, fun a ha b hb => ?_⟩⟩
    · rcases hy with hy | rfl
      · exact h2 y hy
      · exact ⟨h6, h7⟩
    · subst hb
      have : 0 ≤ placeG l b.1 0 := placeG_mem.2 ⟨a, ha, e⟩
      omega
    · subst hb; exact (late_le h4).1 h9 a ha
  · rintro ⟨h1, h2, ⟨h3, _, h4⟩, ⟨h5, _, h6⟩⟩
    refine ⟨⟨by omega, fun y hy => h2 y (.inl hy), h3, h5⟩, by omega, (h2 x (.inr rfl)).1, (h2 x (.inr rfl)).2, ?_, (late_le h5).2 fun a ha => h6 a ha x rfl⟩
    by_cases h : 0 ≤ placeG l x.1 0
    · obtain ⟨y, hy, e⟩ := placeG_mem.1 h
      exact absurd e (h4 y hy x rfl)
    · omega

/-- what is due is a beginning -/
theorem pre_of_sorted {T : Int} : ∀ {l : List (Int × Int)}, l.Pairwise (fun a b => a.2 ≤ b.2) → ∃ m, m ≤ l.length ∧ (l.filterMap fun it => if it.2 ≤ T then some it.1 else none) = (l.take m).map (·.1) ∧ ∀ i (h : i < l.length), i < m ↔ l[i].2 ≤ T
  | [], _ => ⟨0, by simp, rfl, fun i h => absurd h (Nat.not_lt_zero _)⟩
  | p :: r, hs => by
    obtain ⟨h1, h2⟩ := List.pairwise_cons.1 hs
    by_cases e : p.2 ≤ T
    · obtain ⟨m, k1, k2, k3⟩ := pre_of_sorted (T := T) h2
      refine ⟨m + 1, by simp; omega, by simp [e, k2], fun i h => ?_⟩
      cases i with
      | zero => simp [e]
      | succ i => simpa using k3 i (by simpa using h)
    · refine ⟨0, by simp, ?_, fun i h => ?_⟩
      · rw [List.take_zero, List.map_nil, List.filterMap_eq_nil_iff]
        intro x hx
        rcases List.mem_cons.1 hx with rfl | hx
        · simp [e]
        · have := h1 x hx; simp; omega
      · cases i with
        | zero => simp; omega
        | succ i =>
          have := h1 _ (List.getElem_mem (show i < r.length by simpa using h))
          simp; omega
theorem due_pre {l : List (Int × Int)} {now age : Int} (hr : rightB l = true) (ha : 0 ≤ age) (hn : 0 ≤ now) :
    ∃ m, m ≤ l.length ∧ dueG l now age = (l.take m).map (·.1) ∧ ∀ i (h : i < l.length), i < m ↔ l[i].2 ≤ now - age := by
  obtain ⟨m, h1, h2, h3⟩ := pre_of_sorted (T := now - age) (rightB_iff.1 hr).2.2.2
  refine ⟨m, h1, ?_, h3⟩
  rw [dueG, if_neg (by simp [hr]; omega), ← h2]
  congr 1
  funext x
  simp only [dueF]
  by_cases e : age ≤ now - x.2
  · rw [if_pos e, if_pos (by omega)]
  · rw [if_neg e, if_neg (by omega)]

/-- since when, by what the list has -/
theorem since_yes {l : List (Int × Int)} {p t : Int} (hr : rightB l = true) (h : (p, t) ∈ l) : sinceG l p = (t, true) := by
  have hp : 0 ≤ placeG l p 0 := placeG_mem.2 ⟨_, h, rfl⟩
  obtain h4 | ⟨i, h4, h5, h6⟩ := placeG_lt (l := l) (n := p) (k := 0)
  · omega
  rw [Nat.zero_add] at h4
  have hi : l[i] = (p, t) := by
    obtain ⟨j, hj, e⟩ := List.mem_iff_getElem.1 h
    have hn := List.pairwise_iff_getElem.1 (rightB_iff.1 hr).2.2.1
    by_cases e1 : i = j
    · subst e1; exact e
    · rcases Nat.lt_or_gt_of_ne e1 with h7 | h7
      · exact absurd (by rw [h6, e]) (hn i j h5 hj h7)
      · exact absurd (by rw [h6, e]) (hn j i hj h5 h7)
  simp [sinceG, hr, h4, h5, hi]
theorem since_no {l : List (Int × Int)} {p : Int} (h : ∀ t, (p, t) ∉ l) : sinceG l p = (0, false) := by
  have : placeG l p 0 < 0 := by
    by_cases e : 0 ≤ placeG l p 0
    · obtain ⟨⟨a, b⟩, hy, rfl⟩ := placeG_mem.1 e
      exact absurd hy (h b)
    · omega
  simp [sinceG, this]
theorem place_no {l : List (Int × Int)} {p : Int} (h : ∀ t, (p, t) ∉ l) : placeG l p 0 < 0 := by
  by_cases e : 0 ≤ placeG l p 0
  · obtain ⟨⟨a, b⟩, hy, rfl⟩ := placeG_mem.1 e
    exact absurd hy (h b)
  · omega
theorem place_yes {l : List (Int × Int)} {p t : Int} (h : (p, t) ∈ l) : 0 ≤ placeG l p 0 := placeG_mem.2 ⟨_, h, rfl⟩

theorem erase_filter {p : Int} : ∀ {l : List (Int × Int)} {i : Nat} (h : i < l.length), l.Pairwise (fun a b => a.1 ≠ b.1) → l[i].1 = p → l.eraseIdx i = l.filter (fun x => x.1 != p)
  | a :: r, 0, _, hn, e => by
    obtain ⟨h1, h2⟩ := List.pairwise_cons.1 hn
    have e : a.1 = p := e
    rw [List.eraseIdx_cons_zero, List.filter_cons_of_neg (by simp [e])]
    exact (List.filter_eq_self.2 fun x hx => by have := h1 x hx; rw [e] at this; simp; exact fun e' => this e'.symm).symm
  | a :: r, i + 1, h, hn, e => by
    obtain ⟨h1, h2⟩ := List.pairwise_cons.1 hn
    have hi : i < r.length := by simpa using h
    have e : r[i].1 = p := by simpa using e
    have := h1 _ (List.getElem_mem hi)
    rw [e] at this
    rw [List.eraseIdx_cons_succ, erase_filter hi h2 e, List.filter_cons_of_pos (by simpa using this)]
theorem right_filter {l : List (Int × Int)} (hr : rightB l = true) (f : Int × Int → Bool) : rightB (l.filter f) = true := by
  obtain ⟨h1, h2, h3, h4⟩ := rightB_iff.1 hr
  refine rightB_iff.2 ⟨Nat.le_trans (List.length_filter_le _ _) h1, fun x hx => h2 x (List.mem_filter.1 hx).1, h3.filter f, h4.filter f⟩
/-- what a clean does, of right items -/
theorem clean_right {l : List (Int × Int)} {p : Int} (hr : rightB l = true) : cleanG l p = if 0 ≤ placeG l p 0 then (l.filter (fun x => x.1 != p), 0) else (l, 3) := by
  unfold cleanG
  rw [if_neg (by simp [hr])]
  by_cases h : 0 ≤ placeG l p 0
  · obtain h4 | ⟨i, h4, h5, h6⟩ := placeG_lt (l := l) (n := p) (k := 0)
    · omega
    rw [Nat.zero_add] at h4
    rw [if_neg (by omega), if_pos h, h4, Int.toNat_natCast, erase_filter h5 (rightB_iff.1 hr).2.2.1 h6]
  · rw [if_pos (by omega), if_neg h]
end Go.Lk

set_option linter.unusedSimpArgs false
set_option linter.unusedVariables false
set_option linter.unnecessarySimpa false
namespace Go.Lk
open Go Go.Proofs Go.RowKit

def mkA (s : Int) (k : Nat) : List (Int × Int) := (List.range k).map fun (i : Nat) => (((i : Int) + 1), s * ((i : Int) + 1))
theorem mkA_succ (s : Int) (k : Nat) : mkA s (k + 1) = mkA s k ++ [((k : Int) + 1, s * ((k : Int) + 1))] := by simp [mkA, List.range_succ]
theorem mkA_len (s : Int) (k : Nat) : (mkA s k).length = k := by simp [mkA]
theorem mkA_mem {s : Int} {k : Nat} {x : Int × Int} (h : x ∈ mkA s k) : ∃ i : Nat, i < k ∧ x = ((i : Int) + 1, s * ((i : Int) + 1)) := by
  obtain ⟨i, hi, rfl⟩ := List.mem_map.1 h
  exact ⟨i, by simpa using hi, rfl⟩
theorem mulB {s : Int} {k : Nat} (h0 : 0 ≤ s) (h1 : s ≤ 255) (hk : k ≤ 17) : 0 ≤ s * (k : Int) ∧ s * (k : Int) ≤ 4335 := by
  refine ⟨Int.mul_nonneg h0 (by omega), ?_⟩
  have := Int.mul_le_mul h1 (show (k : Int) ≤ 17 by omega) (by omega) (by omega)
  omega
theorem mulLe {s : Int} {i k : Nat} (h0 : 0 ≤ s) (hk : i ≤ k) : s * (i : Int) ≤ s * (k : Int) := Int.mul_le_mul_of_nonneg_left (by omega) h0
theorem mkA_right {s : Int} (h0 : 0 ≤ s) (h1 : s ≤ 255) : ∀ {k : Nat}, k ≤ 16 → rightB (mkA s k) = true
  | 0, _ => rfl
  | k + 1, hk => by
    have ih := mkA_right h0 h1 (k := k) (by omega)
    rw [mkA_succ]
    have hm := mulB h0 h1 (k := k + 1) (by omega)
    rw [Int.natCast_succ] at hm
    refine rightB_snoc.2 ⟨ih, by rw [mkA_len]; omega, by simp [pageB]; omega, by simp [timeB]; omega, place_no fun t h => ?_, (late_le (rightB_iff.1 ih).2.2.2).2 fun a ha => ?_⟩
    · obtain ⟨i, hi, e⟩ := mkA_mem h
      have := congrArg Prod.fst e
      simp at this
      omega
    · obtain ⟨i, hi, rfl⟩ := mkA_mem ha
      have := mulLe h0 (show i + 1 ≤ k + 1 by omega)
      simpa using this
theorem mkA_mark {s : Int} {k : Nat} (h0 : 0 ≤ s) (h1 : s ≤ 255) (hk : k < 16) : markG (mkA s k) ((k : Int) + 1) (s * ((k : Int) + 1)) = (mkA s (k + 1), 0) := by
  have hr := mkA_right h0 h1 (k := k + 1) (by omega)
  rw [mkA_succ] at hr
  obtain ⟨g1, g2, g3, g4, g5, g6⟩ := rightB_snoc.1 hr
  unfold markG
  rw [if_neg (by simp [g1]; exact ⟨g3, g4⟩), if_neg (by simp [g6]), if_neg (by simp only [] at g5; omega), mkA_succ]

theorem dirtyAll_ok (s a : Int) (h0 : 0 ≤ s) (h1 : s ≤ 255) (a0 : 0 ≤ a) (a1 : a ≤ 255) : ACall Try.prog 4 [.int .u8 s, .int .u8 a] (.bool true) := by
  refine acall_of Try.func4 2 rfl (by kernel_rfl) ?_
  conv => whnf
  refine wrapK_in (w64 (by omega) (by omega)) ?_
  conv => whnf
  refine aloop (ι := Nat) (fun k => [(1, .d (.int .u8 a)), (5, .d (encIs (mkA s k))), (6, .d (.int .i64 s)), (7, .d (.int .i64 ((k : Int) + 1)))]) (fun k => [])
    (fun k => k ≤ 16) (fun k => 16 - k) 0 (Nat.zero_le _) (le1 (.lst 5) rfl (le_of_cov ⟨rfl, rfl, rfl, rfl, trivial⟩ trivial ⟨rfl, rfl, rfl, rfl⟩)) ?_
  intro k hk
  conv => whnf
  refine bcase_p (fun h => ?_) (fun h => ?_) <;> conv => whnf
  · have hm := mulB h0 h1 (k := k + 1) (by omega)
    rw [Int.natCast_succ] at hm
    repeat (first | (refine bcase_f rfl ?_; conv => whnf) | (refine bcase_t rfl ?_; conv => whnf) | (refine condK_of rfl ?_; conv => whnf) | (refine condK_of (by decide) ?_; conv => whnf) | (refine condK_of (by omega) ?_; conv => whnf) | (refine wrapK_in (w64 (by omega) (by omega)) ?_; conv => whnf))
    refine callX_pure (d := .tup [encIs (mkA s (k + 1)), .int .i64 0]) (by have h := mark_ok (mkA s k) ((k : Int) + 1) (s * ((k : Int) + 1)) (by rw [mkA_len]; omega); rw [mkA_mark h0 h1 (by omega)] at h; exact h) ?_
    conv => whnf
    repeat (first | (refine bcase_f rfl ?_; conv => whnf) | (refine bcase_t rfl ?_; conv => whnf) | (refine condK_of rfl ?_; conv => whnf) | (refine condK_of (by decide) ?_; conv => whnf) | (refine condK_of (by omega) ?_; conv => whnf) | (refine wrapK_in (w64 (by omega) (by omega)) ?_; conv => whnf))
    exact ⟨k + 1, by omega, by omega, le0 (le_of_cov ⟨rfl, rfl, rfl, rfl, trivial⟩ trivial ⟨rfl, rfl, rfl, rfl⟩)⟩
  · have : k = 16 := by omega
    subst this
    have hr := mkA_right h0 h1 (k := 16) (by omega)
    refine wrapK_in (w64 (by omega) (by omega)) ?_
    conv => whnf
    repeat (first | (refine bcase_f rfl ?_; conv => whnf) | (refine bcase_t rfl ?_; conv => whnf) | (refine condK_of rfl ?_; conv => whnf) | (refine condK_of (by decide) ?_; conv => whnf) | (refine condK_of (by omega) ?_; conv => whnf) | (refine wrapK_in (w64 (by omega) (by omega)) ?_; conv => whnf))
    have hlen : (mkA s 16).length = 16 := mkA_len _ _
    have ht : ∀ i (h : i < (mkA s 16).length), (mkA s 16)[i].2 = s * (((i + 1 : Nat)) : Int) := fun i h => by simp [mkA]
    have hd1 : (dueG (mkA s 16) (16 * s + a) a).length = 16 := by
      obtain ⟨m, k1, k2, k3⟩ := due_pre (now := 16 * s + a) (age := a) hr a0 (by omega)
      rw [k2, List.length_map, List.length_take]
      have := (k3 15 (by omega)).2 (by rw [ht 15 (by omega)]; have := Int.mul_comm s (((15 + 1 : Nat)) : Int); omega)
      omega
    refine callX_pure (due_ok (mkA s 16) (16 * s + a) a (by omega) (by omega)) ?_
    conv => whnf
    refine bcase_t (by simp [encNs, hd1]) ?_
    conv => whnf
    refine bcase_p (fun h2 => ?_) (fun h2 => ?_) <;> conv => whnf
    · repeat (first | (refine bcase_f rfl ?_; conv => whnf) | (refine bcase_t rfl ?_; conv => whnf) | (refine condK_of rfl ?_; conv => whnf) | (refine condK_of (by decide) ?_; conv => whnf) | (refine condK_of (by omega) ?_; conv => whnf) | (refine wrapK_in (w64 (by omega) (by omega)) ?_; conv => whnf))
      refine callX_pure (over_ok (mkA s 16) 16 (by omega)) ?_
      conv => whnf
      repeat (first | (refine bcase_f rfl ?_; conv => whnf) | (refine bcase_t rfl ?_; conv => whnf) | (refine condK_of rfl ?_; conv => whnf) | (refine condK_of (by decide) ?_; conv => whnf) | (refine condK_of (by omega) ?_; conv => whnf) | (refine wrapK_in (w64 (by omega) (by omega)) ?_; conv => whnf))
      refine bcase_t (by simp [hr, hlen]) ?_
      conv => whnf
      refine callX_pure (right_ok (mkA s 16) (by omega)) ?_
      conv => whnf
      refine bcase_t hr ?_
      conv => whnf
      refine callX_pure awake_ok ?_
      conv => whnf
      exact ret_of rfl rfl
    · repeat (first | (refine bcase_f rfl ?_; conv => whnf) | (refine bcase_t rfl ?_; conv => whnf) | (refine condK_of rfl ?_; conv => whnf) | (refine condK_of (by decide) ?_; conv => whnf) | (refine condK_of (by omega) ?_; conv => whnf) | (refine wrapK_in (w64 (by omega) (by omega)) ?_; conv => whnf))
      have hd2 : (dueG (mkA s 16) (s + a - 1) a).length = 0 := by
        obtain ⟨m, k1, k2, k3⟩ := due_pre (now := s + a - 1) (age := a) hr a0 (by omega)
        rw [k2, List.length_map, List.length_take]
        by_cases e : m = 0
        · omega
        · have := (k3 0 (by omega)).1 (by omega)
          rw [ht 0 (by omega)] at this
          simp at this
          omega
      refine callX_pure (due_ok (mkA s 16) (s + a - 1) a (by omega) (by omega)) ?_
      conv => whnf
      refine bcase_t (by simp [encNs, hd2]) ?_
      conv => whnf
      refine callX_pure (over_ok (mkA s 16) 16 (by omega)) ?_
      conv => whnf
      repeat (first | (refine bcase_f rfl ?_; conv => whnf) | (refine bcase_t rfl ?_; conv => whnf) | (refine condK_of rfl ?_; conv => whnf) | (refine condK_of (by decide) ?_; conv => whnf) | (refine condK_of (by omega) ?_; conv => whnf) | (refine wrapK_in (w64 (by omega) (by omega)) ?_; conv => whnf))
      refine bcase_t (by simp [hr, hlen]) ?_
      conv => whnf
      refine callX_pure (right_ok (mkA s 16) (by omega)) ?_
      conv => whnf
      refine bcase_t hr ?_
      conv => whnf
      refine callX_pure awake_ok ?_
      conv => whnf
      exact ret_of rfl rfl
end Go.Lk

set_option linter.unusedSimpArgs false
set_option linter.unusedVariables false
set_option linter.unnecessarySimpa false
namespace Go.Lk
open Go Go.Proofs Go.RowKit

theorem dirtyOld_ok (l : List (Int × Int)) (a : Int) (a0 : 0 ≤ a) (a1 : a ≤ 255) : ACall Try.prog 5 [encIs l, .int .u8 a] (.bool true) := by
  refine acall_of Try.func5 2 rfl (by kernel_rfl) ?_
  conv => whnf
  have hm : (l.map encI).length = l.length := List.length_map ..
  refine bcase_p (fun h1 => ?_) (fun h1 => ?_) <;> conv => whnf
  · refine callX_pure awake_ok ?_
    conv => whnf
    exact ret_of rfl rfl
  refine callX_pure (refs_ok l (by omega)) ?_
  conv => whnf
  refine callX_pure (rright_ok l (by omega)) ?_
  conv => whnf
  refine bcase_intro (fun hr => ?_) (fun hr => ?_) <;> conv => whnf
  · refine callX_pure awake_ok ?_
    conv => whnf
    exact ret_of rfl rfl
  simp at hr
  obtain ⟨m1, i1, i2, i3⟩ := due_pre (now := 2147483647) (age := 0) hr (by omega) (by omega)
  obtain ⟨m2, j1, j2, j3⟩ := due_pre (now := 2147483647) (age := 2147483647 - a) hr (by omega) (by omega)
  obtain ⟨m3, k1, k2, k3⟩ := due_pre (now := 2147483647) (age := 2147483648) hr (by omega) (by omega)
  have hR := (rightB_out hr).2
  have e1 : m1 = l.length := by
    by_cases e : m1 < l.length
    · have := (i3 m1 e).2 (by have := hR m1 e; omega)
      omega
    · omega
  have e3 : m3 = 0 := by
    by_cases e : m3 = 0
    · exact e
    · have := (k3 0 (by omega)).1 (by omega)
      have := hR 0 (by omega)
      omega
  rw [e1, List.take_length] at i2
  rw [e3, List.take_zero, List.map_nil] at k2
  refine callX_pure (d := encNs (l.map (·.1))) (by have h := due_ok l 2147483647 0 (by omega) (by omega); rw [i2] at h; exact h) ?_
  conv => whnf
  repeat (first | (refine bcase_f rfl ?_; conv => whnf) | (refine bcase_t rfl ?_; conv => whnf) | (refine condK_of rfl ?_; conv => whnf) | (refine condK_of (by decide) ?_; conv => whnf) | (refine condK_of (by omega) ?_; conv => whnf) | (refine wrapK_in (w64 (by omega) (by omega)) ?_; conv => whnf))
  refine callX_pure (d := encNs ((l.take m2).map (·.1))) (by have h := due_ok l 2147483647 (2147483647 - a) (by omega) (by omega); rw [j2] at h; exact h) ?_
  conv => whnf
  repeat (first | (refine bcase_f rfl ?_; conv => whnf) | (refine bcase_t rfl ?_; conv => whnf) | (refine condK_of rfl ?_; conv => whnf) | (refine condK_of (by decide) ?_; conv => whnf) | (refine condK_of (by omega) ?_; conv => whnf) | (refine wrapK_in (w64 (by omega) (by omega)) ?_; conv => whnf))
  refine callX_pure (d := encNs []) (by have h := due_ok l 2147483647 2147483648 (by omega) (by omega); rw [k2] at h; exact h) ?_
  conv => whnf
  have hl1 : ((l.map (·.1)).map enc1).length = l.length := by simp
  have hl2 : (((l.take m2).map (·.1)).map enc1).length = m2 := by simp; omega
  refine bcase_f (by simp) ?_
  conv => whnf
  repeat (first | (refine bcase_f rfl ?_; conv => whnf) | (refine bcase_t rfl ?_; conv => whnf) | (refine condK_of rfl ?_; conv => whnf) | (refine condK_of (by decide) ?_; conv => whnf) | (refine condK_of (by omega) ?_; conv => whnf) | (refine wrapK_in (w64 (by omega) (by omega)) ?_; conv => whnf))
  refine bcase_f (by rw [hl1, hl2]; simp; omega) ?_
  conv => whnf
  refine aloop (ι := Nat) (fun k => [(0, .d (encIs l)), (1, .d (.int .u8 a)), (7, .d (encNs ((l.take m2).map (·.1)))), (53, .d (encNs (l.map (·.1)))), (54, .d (.int .i64 (((l.map (·.1)).map enc1).length))), (55, .d (.int .i64 k))]) (fun k => [])
    (fun k => k ≤ l.length) (fun k => l.length - k) 0 (Nat.zero_le _) (le0 (le_of_cov ⟨rfl, rfl, rfl, rfl, rfl, rfl, trivial⟩ trivial ⟨rfl, rfl, rfl, rfl⟩)) ?_
  intro k hk
  conv => whnf
  refine bcase_p (fun h => ?_) (fun h => ?_) <;> conv => whnf
  · have hk2 : k < l.length := by omega
    refine idxK_nat (by omega) ?_
    conv => whnf
    refine getRow_of (x := enc1 l[k].1) (by simp [hk2]) ?_
    conv => whnf
    repeat (first | (refine bcase_f rfl ?_; conv => whnf) | (refine bcase_t rfl ?_; conv => whnf) | (refine condK_of rfl ?_; conv => whnf) | (refine condK_of (by decide) ?_; conv => whnf) | (refine condK_of (by omega) ?_; conv => whnf) | (refine wrapK_in (w64 (by omega) (by omega)) ?_; conv => whnf))
    refine idxK_nat (by omega) ?_
    conv => whnf
    refine getRow_of (x := encI l[k]) (by simp [hk2]) ?_
    conv => whnf
    repeat (first | (refine bcase_f rfl ?_; conv => whnf) | (refine bcase_t rfl ?_; conv => whnf) | (refine condK_of rfl ?_; conv => whnf) | (refine condK_of (by decide) ?_; conv => whnf) | (refine condK_of (by omega) ?_; conv => whnf) | (refine wrapK_in (w64 (by omega) (by omega)) ?_; conv => whnf))
    refine bcase_f (by simp) ?_
    conv => whnf
    refine idxK_nat (by omega) ?_
    conv => whnf
    refine getRow_of (x := encI l[k]) (by simp [hk2]) ?_
    conv => whnf
    repeat (first | (refine bcase_f rfl ?_; conv => whnf) | (refine bcase_t rfl ?_; conv => whnf) | (refine condK_of rfl ?_; conv => whnf) | (refine condK_of (by decide) ?_; conv => whnf) | (refine condK_of (by omega) ?_; conv => whnf) | (refine wrapK_in (w64 (by omega) (by omega)) ?_; conv => whnf))
    have hj := j3 k hk2
    refine bcase_f (by rw [hl2]; simp only [Bool.not_eq_false', beq_iff_eq, decide_eq_decide]; omega) ?_
    conv => whnf
    refine bcase_p (fun h2 => ?_) (fun h2 => ?_) <;> conv => whnf
    · repeat (first | (refine bcase_f rfl ?_; conv => whnf) | (refine bcase_t rfl ?_; conv => whnf) | (refine condK_of rfl ?_; conv => whnf) | (refine condK_of (by decide) ?_; conv => whnf) | (refine condK_of (by omega) ?_; conv => whnf) | (refine wrapK_in (w64 (by omega) (by omega)) ?_; conv => whnf))
      refine idxK_nat (by omega) ?_
      conv => whnf
      refine getRow_of (x := enc1 l[k].1) (by rw [List.getElem?_map, List.getElem?_map, List.getElem?_take_of_lt (by omega), List.getElem?_eq_getElem hk2]; rfl) ?_
      conv => whnf
      repeat (first | (refine bcase_f rfl ?_; conv => whnf) | (refine bcase_t rfl ?_; conv => whnf) | (refine condK_of rfl ?_; conv => whnf) | (refine condK_of (by decide) ?_; conv => whnf) | (refine condK_of (by omega) ?_; conv => whnf) | (refine wrapK_in (w64 (by omega) (by omega)) ?_; conv => whnf))
      refine bcase_f (by simp) ?_
      conv => whnf
      repeat (first | (refine bcase_f rfl ?_; conv => whnf) | (refine bcase_t rfl ?_; conv => whnf) | (refine condK_of rfl ?_; conv => whnf) | (refine condK_of (by decide) ?_; conv => whnf) | (refine condK_of (by omega) ?_; conv => whnf) | (refine wrapK_in (w64 (by omega) (by omega)) ?_; conv => whnf))
      exact ⟨k + 1, by omega, by omega, le0 (le_of_cov ⟨rfl, rfl, rfl, rfl, rfl, rfl, trivial⟩ trivial ⟨rfl, rfl, rfl, rfl⟩)⟩
    · repeat (first | (refine bcase_f rfl ?_; conv => whnf) | (refine bcase_t rfl ?_; conv => whnf) | (refine condK_of rfl ?_; conv => whnf) | (refine condK_of (by decide) ?_; conv => whnf) | (refine condK_of (by omega) ?_; conv => whnf) | (refine wrapK_in (w64 (by omega) (by omega)) ?_; conv => whnf))
      exact ⟨k + 1, by omega, by omega, le0 (le_of_cov ⟨rfl, rfl, rfl, rfl, rfl, rfl, trivial⟩ trivial ⟨rfl, rfl, rfl, rfl⟩)⟩
  · refine callX_pure awake_ok ?_
    conv => whnf
    exact ret_of rfl rfl
end Go.Lk

set_option linter.unusedSimpArgs false
set_option linter.unusedVariables false
set_option linter.unnecessarySimpa false
namespace Go.Lk
open Go Go.Proofs Go.RowKit

structure FInv (k : Nat) (l : List (Int × Int)) (sn : List Int) : Prop where
  right : rightB l = true
  len : sn.length = 17
  times : ∀ x ∈ l, 0 < x.2 ∧ x.2 ≤ 10 * (k : Int)
  told : ∀ p : Nat, 1 ≤ p → p ≤ 16 → (∃ t, ((p : Int), t) ∈ l ∧ sn[p]? = some t) ∨ ((∀ t, ((p : Int), t) ∉ l) ∧ sn[p]? = some 0)

theorem FInv.mark {k : Nat} {l : List (Int × Int)} {sn : List Int} (h : FInv k l sn) (hk : k < 60) {p : Nat} (p0 : 1 ≤ p) (p1 : p ≤ 16) {t : Int} (ht : sn[p]? = some t) :
    (markG l p (10 * ((k : Int) + 1))).2 = 0 ∧ FInv (k + 1) (markG l p (10 * ((k : Int) + 1))).1 (if t = 0 then sn.set p (10 * ((k : Int) + 1)) else sn) := by
  have hs := (rightB_iff.1 h.right).2.2.2
  have hm0 : (markG l p (10 * ((k : Int) + 1))).2 = 0 := mark_ok2 h.right (by simp [pageB]; omega) (by simp [timeB]; omega) ((late_le hs).2 fun a ha => by have := h.times a ha; omega)
  refine ⟨hm0, ?_⟩
  have hr' := mark_keeps hm0
  obtain ⟨g1, g2, g3, g4, ⟨g5, g6⟩ | ⟨g5, g6⟩⟩ := mark_right hm0
  · rw [g6]
    obtain ⟨⟨a, b⟩, hb, rfl⟩ : ∃ x ∈ l, x.1 = (p : Int) := placeG_mem.1 g5
    have ht' : t ≠ 0 := by
      rcases h.told p p0 p1 with ⟨t', h1, h2⟩ | ⟨h1, h2⟩
      · have := h.times _ h1
        rw [ht] at h2
        cases h2
        intro e; rw [e] at this; simp at this
      · exact absurd (by assumption) (h1 b)
    rw [if_neg ht']
    exact ⟨h.right, h.len, fun x hx => by have := h.times x hx; omega, h.told⟩
  · rw [g6] at hr' ⊢
    have hno : ∀ t, ((p : Int), t) ∉ l := fun t' h' => by have := place_yes h'; omega
    have ht' : t = 0 := by
      rcases h.told p p0 p1 with ⟨t', h1, h2⟩ | ⟨h1, h2⟩
      · exact absurd h1 (hno t')
      · rw [ht] at h2; exact Option.some.inj h2
    rw [if_pos ht']
    refine ⟨hr', by rw [List.length_set]; exact h.len, fun x hx => ?_, fun q q0 q1 => ?_⟩
    · rcases List.mem_append.1 hx with hx | hx
      · have := h.times x hx; omega
      · rw [List.mem_singleton.1 hx]; simp only []; omega
    · by_cases e : q = p
      · subst e
        exact .inl ⟨_, List.mem_append_right _ (List.mem_singleton.2 rfl), by rw [List.getElem?_set_self (by rw [h.len]; omega)]⟩
      · rw [List.getElem?_set_ne (fun e' => e e'.symm)]
        rcases h.told q q0 q1 with ⟨t', h1, h2⟩ | ⟨h1, h2⟩
        · exact .inl ⟨t', List.mem_append_left _ h1, h2⟩
        · refine .inr ⟨fun t' h' => ?_, h2⟩
          rcases List.mem_append.1 h' with h' | h'
          · exact h1 t' h'
          · have := congrArg Prod.fst (List.mem_singleton.1 h')
            simp at this
            omega
theorem FInv.clean {k : Nat} {l : List (Int × Int)} {sn : List Int} (h : FInv k l sn) {p : Nat} (p0 : 1 ≤ p) (p1 : p ≤ 16) {t : Int} (ht : sn[p]? = some t) :
    ((cleanG l p).2 = 0 ↔ t ≠ 0) ∧ FInv (k + 1) (cleanG l p).1 (sn.set p 0) := by
  rw [clean_right h.right]
  have keep : ∀ l' : List (Int × Int), rightB l' = true → (∀ q t', (q, t') ∈ l' ↔ (q, t') ∈ l ∧ q ≠ (p : Int)) → FInv (k + 1) l' (sn.set p 0) := by
    intro l' hr hm
    refine ⟨hr, by rw [List.length_set]; exact h.len, fun x hx => ?_, fun q q0 q1 => ?_⟩
    · have := h.times x ((hm x.1 x.2).1 hx).1; omega
    · by_cases e : q = p
      · subst e
        exact .inr ⟨fun t' h' => ((hm _ _).1 h').2 rfl, by rw [List.getElem?_set_self (by rw [h.len]; omega)]⟩
      · rw [List.getElem?_set_ne (fun e' => e e'.symm)]
        rcases h.told q q0 q1 with ⟨t', h1, h2⟩ | ⟨h1, h2⟩
        · exact .inl ⟨t', (hm _ _).2 ⟨h1, by omega⟩, h2⟩
        · exact .inr ⟨fun t' h' => h1 t' ((hm _ _).1 h').1, h2⟩
  by_cases e : 0 ≤ placeG l p 0
  · rw [if_pos e]
    obtain ⟨⟨a, b⟩, hb, hab⟩ : ∃ x ∈ l, x.1 = (p : Int) := placeG_mem.1 e
    simp only [] at hab
    subst hab
    refine ⟨⟨fun _ => ?_, fun _ => rfl⟩, keep _ (right_filter h.right _) fun q t' => by simp⟩
    rcases h.told p p0 p1 with ⟨t', h1, h2⟩ | ⟨h1, h2⟩
    · have := h.times _ h1
      rw [ht] at h2
      cases h2
      intro e; rw [e] at this; simp at this
    · exact absurd hb (h1 b)
  · rw [if_neg e]
    have hno : ∀ t, ((p : Int), t) ∉ l := fun t' h' => e (place_yes h')
    refine ⟨⟨fun h' => (by simp at h'), fun h' => ?_⟩, keep _ h.right fun q t' => ⟨fun h1 => ⟨h1, fun e => by subst e; exact hno _ h1⟩, fun h1 => h1.1⟩⟩
    rcases h.told p p0 p1 with ⟨t', h1, h2⟩ | ⟨h1, h2⟩
    · exact absurd h1 (hno t')
    · rw [ht] at h2; exact absurd (Option.some.inj h2) h'
theorem FInv.since {k : Nat} {l : List (Int × Int)} {sn : List Int} (h : FInv k l sn) {p : Nat} (p0 : 1 ≤ p) (p1 : p ≤ 16) : ∃ t, sn[p]? = some t ∧ sinceG l p = (t, decide (t ≠ 0)) := by
  rcases h.told p p0 p1 with ⟨t', h1, h2⟩ | ⟨h1, h2⟩
  · have := h.times _ h1
    exact ⟨t', h2, by rw [since_yes h.right h1]; simp; intro e; rw [e] at this; simp at this⟩
  · exact ⟨0, h2, by rw [since_no h1]; simp⟩
theorem FInv.at_ {k : Nat} {l : List (Int × Int)} {sn : List Int} (h : FInv k l sn) {p : Nat} (p1 : p ≤ 16) : ∃ t, sn[p]? = some t := ⟨sn[p]'(by rw [h.len]; omega), by simp⟩
end Go.Lk

set_option linter.unusedSimpArgs false
set_option linter.unusedVariables false
set_option linter.unnecessarySimpa false
namespace Go.Lk
open Go Go.Proofs Go.RowKit

def enc2 (x : Int × Int) : List D := [.int .u8 x.1, .int .u8 x.2]
def cellI (n : Int) : AV := .d (.int .i64 n)

theorem dirtyFirst_ok (acts : List (Int × Int)) (ha : ∀ x ∈ acts, (0 ≤ x.1 ∧ x.1 ≤ 255) ∧ 0 ≤ x.2 ∧ x.2 ≤ 255) (hlen : acts.length ≤ 9223372036854775807) (a : Int) (a0 : 0 ≤ a) (a1 : a ≤ 255) :
    ACall Try.prog 7 [.lst (acts.map enc2), .int .u8 a] (.bool true) := by
  refine acall_of Try.func7 2 rfl (by kernel_rfl) ?_
  conv => whnf
  have hm : (acts.map enc2).length = acts.length := List.length_map ..
  refine aloop (ι := Nat × List (Int × Int) × List Int) (fun i => [(0, .d (.lst (acts.map enc2))), (1, .d (.int .u8 a)), (5, .d (encIs i.2.1)), (6, .ptr 6 0 0), (7, .d (.int .i64 i.1))]) (fun i => [(6, .box (i.2.2.map cellI) false)])
    (fun i => i.1 ≤ acts.length ∧ i.1 ≤ 60 ∧ FInv i.1 i.2.1 i.2.2) (fun i => 60 - i.1) (0, [], List.replicate 17 0) ⟨Nat.zero_le _, by decide, rfl, rfl, fun x hx => (by cases hx), fun p p0 p1 => .inr ⟨fun t h => (by cases h), by rw [List.getElem?_replicate, if_pos (by omega)]⟩⟩ (le1 (.lst 5) rfl (le_of_cov ⟨rfl, rfl, rfl, rfl, rfl, trivial⟩ ⟨rfl, trivial⟩ ⟨rfl, rfl, rfl, rfl⟩)) ?_
  rintro ⟨k, l, sn⟩ ⟨hk, hk60, hI⟩
  simp only at hk hk60 hI ⊢
  have fin : ∀ (x : Nat), rightB l = true := fun _ => hI.right
  have hl16 : l.length ≤ 16 := (rightB_iff.1 hI.right).1
  conv => whnf
  refine bcase_p (fun h => ?_) (fun h => ?_) <;> conv => whnf
  · refine bcase_p (fun h2 => ?_) (fun h2 => ?_) <;> conv => whnf
    · have hk2 : k < acts.length := by omega
      obtain ⟨⟨b0, b1⟩, c0, c1⟩ := ha _ (List.getElem_mem hk2)
      refine idxK_nat (by omega) ?_
      conv => whnf
      refine getRow_of (x := enc2 acts[k]) (by simp [hk2]) ?_
      conv => whnf
      repeat (first | (refine bcase_f rfl ?_; conv => whnf) | (refine bcase_t rfl ?_; conv => whnf) | (refine condK_of rfl ?_; conv => whnf) | (refine condK_of (by decide) ?_; conv => whnf) | (refine condK_of (by omega) ?_; conv => whnf) | (refine wrapK_in (w64 (by omega) (by omega)) ?_; conv => whnf))
      refine idxK_nat (i := 0) (by decide) ?_
      conv => whnf
      repeat (first | (refine bcase_f rfl ?_; conv => whnf) | (refine bcase_t rfl ?_; conv => whnf) | (refine condK_of rfl ?_; conv => whnf) | (refine condK_of (by decide) ?_; conv => whnf) | (refine condK_of (by omega) ?_; conv => whnf) | (refine wrapK_in (w64 (by omega) (by omega)) ?_; conv => whnf))
      refine divK_rem (by decide) b0 ?_
      conv => whnf
      refine wrapK_in (w64 (by omega) (by omega)) ?_
      conv => whnf
      repeat (first | (refine bcase_f rfl ?_; conv => whnf) | (refine bcase_t rfl ?_; conv => whnf) | (refine condK_of rfl ?_; conv => whnf) | (refine condK_of (by decide) ?_; conv => whnf) | (refine condK_of (by omega) ?_; conv => whnf) | (refine wrapK_in (w64 (by omega) (by omega)) ?_; conv => whnf))
      refine idxK_nat (by omega) ?_
      conv => whnf
      refine getRow_of (x := enc2 acts[k]) (by simp [hk2]) ?_
      conv => whnf
      repeat (first | (refine bcase_f rfl ?_; conv => whnf) | (refine bcase_t rfl ?_; conv => whnf) | (refine condK_of rfl ?_; conv => whnf) | (refine condK_of (by decide) ?_; conv => whnf) | (refine condK_of (by omega) ?_; conv => whnf) | (refine wrapK_in (w64 (by omega) (by omega)) ?_; conv => whnf))
      refine idxK_nat (i := 1) (by decide) ?_
      conv => whnf
      repeat (first | (refine bcase_f rfl ?_; conv => whnf) | (refine bcase_t rfl ?_; conv => whnf) | (refine condK_of rfl ?_; conv => whnf) | (refine condK_of (by decide) ?_; conv => whnf) | (refine condK_of (by omega) ?_; conv => whnf) | (refine wrapK_in (w64 (by omega) (by omega)) ?_; conv => whnf))
      refine divK_rem (by decide) c0 ?_
      conv => whnf
      obtain ⟨pn, hpn⟩ : ∃ pn : Nat, 1 + acts[k].1 % 16 = (pn : Int) := ⟨(1 + acts[k].1 % 16).toNat, by omega⟩
      rw [hpn]
      have p0 : 1 ≤ pn := by omega
      have p1 : pn ≤ 16 := by omega
      obtain ⟨t, ht⟩ := hI.at_ (p := pn) p1
      have hg : (sn.map cellI)[0 + pn * (T 3).size]? = some (cellI t) := by
        rw [show 0 + pn * (T 3).size = pn from by rw [show (T 3).size = 1 from rfl]; omega, List.getElem?_map, ht]; rfl
      have hcl : (sn.map cellI).length = 17 := by rw [List.length_map, hI.len]
      have hz : 0 + pn * (T 3).size = pn := by rw [show (T 3).size = 1 from rfl]; omega
      refine bcase_p (fun h3 => ?_) (fun h3 => ?_) <;> conv => whnf
      · obtain ⟨e1, hI'⟩ := hI.mark (by omega) p0 p1 ht
        refine callX_pure (mark_ok l pn (10 * ((k : Int) + 1)) (by omega)) ?_
        conv => whnf
        rw [e1]
        generalize (markG l pn (10 * ((k : Int) + 1))).1 = l' at hI' ⊢
        repeat (first | (refine bcase_f rfl ?_; conv => whnf) | (refine bcase_t rfl ?_; conv => whnf) | (refine condK_of rfl ?_; conv => whnf) | (refine condK_of (by decide) ?_; conv => whnf) | (refine condK_of (by omega) ?_; conv => whnf) | (refine wrapK_in (w64 (by omega) (by omega)) ?_; conv => whnf))
        refine idxK_nat (by omega) ?_
        conv => whnf
        refine condK_of rfl ?_
        refine getC_of hg ?_
        conv => whnf
        refine bcase_p (fun h4 => ?_) (fun h4 => ?_) <;> conv => whnf
        · rw [if_pos h4] at hI'
          refine idxK_nat (by omega) ?_
          conv => whnf
          refine condK_of rfl ?_
          refine bif_of rfl (bif_of rfl (bif_of (by rw [hz, hcl, Nat.ble_eq, show (T 3).size = 1 from rfl]; omega) ?_))
          rw [hz]
          conv => whnf
          have hset : (sn.map cellI).set pn (.d (.int .i64 (10 * ((k : Int) + 1)))) = (sn.set pn (10 * ((k : Int) + 1))).map cellI := by rw [List.map_set]; rfl
          have hr' := hI'.right
          have hl16' : l'.length ≤ 16 := (rightB_iff.1 hr').1
          obtain ⟨m1, i1, i2, i3⟩ := due_pre (now := 10 * ((k : Int) + 1)) (age := a) hr' a0 (by omega)
          obtain ⟨m2, j1, j2, j3⟩ := due_pre (now := 10 * ((k : Int) + 1) + 5) (age := a) hr' a0 (by omega)
          have hm12 : m1 ≤ m2 := by
            by_cases e : m1 ≤ m2
            · exact e
            · have q1 := (i3 m2 (by omega)).1 (by omega)
              have q2 := (j3 m2 (by omega)).2 (by omega)
              omega
          have hl1 : (((l'.take m1).map (·.1)).map enc1).length = m1 := by simp; omega
          have hl2 : (((l'.take m2).map (·.1)).map enc1).length = m2 := by simp; omega
          have hl3 : (l'.map encI).length = l'.length := List.length_map ..
          repeat (first | (refine bcase_f rfl ?_; conv => whnf) | (refine bcase_t rfl ?_; conv => whnf) | (refine condK_of rfl ?_; conv => whnf) | (refine condK_of (by decide) ?_; conv => whnf) | (refine condK_of (by omega) ?_; conv => whnf) | (refine wrapK_in (w64 (by omega) (by omega)) ?_; conv => whnf))
          refine callX_pure (d := encNs ((l'.take m1).map (·.1))) (by have h := due_ok l' (10 * ((k : Int) + 1)) a (by omega) (by omega); rw [i2] at h; exact h) ?_
          conv => whnf
          repeat (first | (refine bcase_f rfl ?_; conv => whnf) | (refine bcase_t rfl ?_; conv => whnf) | (refine condK_of rfl ?_; conv => whnf) | (refine condK_of (by decide) ?_; conv => whnf) | (refine condK_of (by omega) ?_; conv => whnf) | (refine wrapK_in (w64 (by omega) (by omega)) ?_; conv => whnf))
          refine callX_pure (d := encNs ((l'.take m2).map (·.1))) (by have h := due_ok l' (10 * ((k : Int) + 1) + 5) a (by omega) (by omega); rw [j2] at h; exact h) ?_
          conv => whnf
          refine bcase_f (by rw [hl1, hl2]; simp; omega) ?_
          conv => whnf
          refine bcase_f (by rw [hl2, hl3]; simp; omega) ?_
          conv => whnf
          refine aloop (ι := Nat) (fun q => [(0, .d (.lst (acts.map enc2))), (1, .d (.int .u8 a)), (5, .d (encIs l')), (6, .ptr 6 0 0), (7, .d (.int .i64 k)), (14, .d (encNs ((l'.take m1).map (·.1)))), (15, .d (encNs ((l'.take m2).map (·.1)))), (105, .d (.int .i64 (((l'.take m2).map (·.1)).map enc1).length)), (106, .d (.int .i64 q))]) (fun _ => [(6, .box ((sn.set pn (10 * ((k : Int) + 1))).map cellI) false)])
            (fun q => q ≤ m2) (fun q => m2 - q) 0 (Nat.zero_le _) (le0 (le_of_cov ⟨rfl, rfl, rfl, rfl, rfl, rfl, rfl, rfl, rfl, trivial⟩ ⟨by rw [← hset]; rfl, trivial⟩ ⟨rfl, rfl, rfl, rfl⟩)) ?_
          intro q hq
          conv => whnf
          refine bcase_p (fun h6 => ?_) (fun h6 => ?_) <;> conv => whnf
          · have hq2 : q < m2 := by omega
            have hq3 : q < l'.length := by omega
            refine idxK_nat (by omega) ?_
            conv => whnf
            refine getRow_of (x := encI l'[q]) (by simp [hq3]) ?_
            conv => whnf
            repeat (first | (refine bcase_f rfl ?_; conv => whnf) | (refine bcase_t rfl ?_; conv => whnf) | (refine condK_of rfl ?_; conv => whnf) | (refine condK_of (by decide) ?_; conv => whnf) | (refine condK_of (by omega) ?_; conv => whnf) | (refine wrapK_in (w64 (by omega) (by omega)) ?_; conv => whnf))
            refine idxK_nat (by omega) ?_
            conv => whnf
            refine getRow_of (x := enc1 l'[q].1) (by rw [List.getElem?_map, List.getElem?_map, List.getElem?_take_of_lt (by omega), List.getElem?_eq_getElem hq3]; rfl) ?_
            conv => whnf
            repeat (first | (refine bcase_f rfl ?_; conv => whnf) | (refine bcase_t rfl ?_; conv => whnf) | (refine condK_of rfl ?_; conv => whnf) | (refine condK_of (by decide) ?_; conv => whnf) | (refine condK_of (by omega) ?_; conv => whnf) | (refine wrapK_in (w64 (by omega) (by omega)) ?_; conv => whnf))
            refine bcase_f (by simp) ?_
            conv => whnf
            refine bcase_p (fun h7 => ?_) (fun h7 => ?_) <;> conv => whnf
            · repeat (first | (refine bcase_f rfl ?_; conv => whnf) | (refine bcase_t rfl ?_; conv => whnf) | (refine condK_of rfl ?_; conv => whnf) | (refine condK_of (by decide) ?_; conv => whnf) | (refine condK_of (by omega) ?_; conv => whnf) | (refine wrapK_in (w64 (by omega) (by omega)) ?_; conv => whnf))
              refine idxK_nat (by omega) ?_
              conv => whnf
              refine getRow_of (x := enc1 l'[q].1) (by rw [List.getElem?_map, List.getElem?_map, List.getElem?_take_of_lt (by omega), List.getElem?_eq_getElem hq3]; rfl) ?_
              conv => whnf
              repeat (first | (refine bcase_f rfl ?_; conv => whnf) | (refine bcase_t rfl ?_; conv => whnf) | (refine condK_of rfl ?_; conv => whnf) | (refine condK_of (by decide) ?_; conv => whnf) | (refine condK_of (by omega) ?_; conv => whnf) | (refine wrapK_in (w64 (by omega) (by omega)) ?_; conv => whnf))
              refine idxK_nat (by omega) ?_
              conv => whnf
              refine getRow_of (x := enc1 l'[q].1) (by rw [List.getElem?_map, List.getElem?_map, List.getElem?_take_of_lt (by omega), List.getElem?_eq_getElem hq3]; rfl) ?_
              conv => whnf
              repeat (first | (refine bcase_f rfl ?_; conv => whnf) | (refine bcase_t rfl ?_; conv => whnf) | (refine condK_of rfl ?_; conv => whnf) | (refine condK_of (by decide) ?_; conv => whnf) | (refine condK_of (by omega) ?_; conv => whnf) | (refine wrapK_in (w64 (by omega) (by omega)) ?_; conv => whnf))
              refine bcase_f (by simp) ?_
              conv => whnf
              repeat (first | (refine bcase_f rfl ?_; conv => whnf) | (refine bcase_t rfl ?_; conv => whnf) | (refine condK_of rfl ?_; conv => whnf) | (refine condK_of (by decide) ?_; conv => whnf) | (refine condK_of (by omega) ?_; conv => whnf) | (refine wrapK_in (w64 (by omega) (by omega)) ?_; conv => whnf))
              exact ⟨q + 1, by omega, by omega, le0 (le_of_cov ⟨rfl, rfl, rfl, rfl, rfl, rfl, rfl, rfl, rfl, trivial⟩ ⟨rfl, trivial⟩ ⟨rfl, rfl, rfl, rfl⟩)⟩
            · repeat (first | (refine bcase_f rfl ?_; conv => whnf) | (refine bcase_t rfl ?_; conv => whnf) | (refine condK_of rfl ?_; conv => whnf) | (refine condK_of (by decide) ?_; conv => whnf) | (refine condK_of (by omega) ?_; conv => whnf) | (refine wrapK_in (w64 (by omega) (by omega)) ?_; conv => whnf))
              exact ⟨q + 1, by omega, by omega, le0 (le_of_cov ⟨rfl, rfl, rfl, rfl, rfl, rfl, rfl, rfl, rfl, trivial⟩ ⟨rfl, trivial⟩ ⟨rfl, rfl, rfl, rfl⟩)⟩
          refine aloop (ι := Nat) (fun q => [(0, .d (.lst (acts.map enc2))), (1, .d (.int .u8 a)), (5, .d (encIs l')), (6, .ptr 6 0 0), (7, .d (.int .i64 k)), (17, .d (.int .i64 ((q : Int) + 1)))]) (fun _ => [(6, .box ((sn.set pn (10 * ((k : Int) + 1))).map cellI) false)])
            (fun q => q ≤ 16) (fun q => 16 - q) 0 (Nat.zero_le _) (le0 (le_of_cov ⟨rfl, rfl, rfl, rfl, rfl, rfl, trivial⟩ ⟨rfl, trivial⟩ ⟨rfl, rfl, rfl, rfl⟩)) ?_
          intro r hr
          conv => whnf
          refine bcase_p (fun h8 => ?_) (fun h8 => ?_) <;> conv => whnf
          · have hr3 : r + 1 ≤ 16 := by omega
            obtain ⟨t', ht1, ht2⟩ := hI'.since (p := r + 1) (by omega) hr3
            rw [Int.natCast_succ] at ht2
            refine callX_pure (d := .tup [.int .i64 t', .bool (decide (t' ≠ 0))]) (by have h := since_ok l' ((r : Int) + 1) (by omega); rw [ht2] at h; exact h) ?_
            conv => whnf
            have hg : ((sn.set pn (10 * ((k : Int) + 1))).map cellI)[0 + (r + 1) * (T 3).size]? = some (cellI t') := by
              rw [show 0 + (r + 1) * (T 3).size = r + 1 from by rw [show (T 3).size = 1 from rfl]; omega, List.getElem?_map, ht1]; rfl
            refine idxK_nat (i := r + 1) (by omega) ?_
            conv => whnf
            refine condK_of rfl ?_
            refine getC_of hg ?_
            conv => whnf
            refine bcase_f (by simp) ?_
            conv => whnf
            refine idxK_nat (i := r + 1) (by omega) ?_
            conv => whnf
            refine condK_of rfl ?_
            refine getC_of hg ?_
            conv => whnf
            refine bcase_f (by simp) ?_
            conv => whnf
            repeat (first | (refine bcase_f rfl ?_; conv => whnf) | (refine bcase_t rfl ?_; conv => whnf) | (refine condK_of rfl ?_; conv => whnf) | (refine condK_of (by decide) ?_; conv => whnf) | (refine condK_of (by omega) ?_; conv => whnf) | (refine wrapK_in (w64 (by omega) (by omega)) ?_; conv => whnf))
            exact ⟨r + 1, by omega, by omega, le0 (le_of_cov ⟨rfl, rfl, rfl, rfl, rfl, rfl, trivial⟩ ⟨rfl, trivial⟩ ⟨rfl, rfl, rfl, rfl⟩)⟩
          repeat (first | (refine bcase_f rfl ?_; conv => whnf) | (refine bcase_t rfl ?_; conv => whnf) | (refine condK_of rfl ?_; conv => whnf) | (refine condK_of (by decide) ?_; conv => whnf) | (refine condK_of (by omega) ?_; conv => whnf) | (refine wrapK_in (w64 (by omega) (by omega)) ?_; conv => whnf))
          exact ⟨(k + 1, l', (sn.set pn (10 * ((k : Int) + 1)))), ⟨by simp only []; omega, by simp only []; omega, hI'⟩, by simp only []; omega, le0 (le_of_cov ⟨rfl, rfl, rfl, rfl, rfl, trivial⟩ ⟨rfl, trivial⟩ ⟨rfl, rfl, rfl, rfl⟩)⟩
        · rw [if_neg h4] at hI'
          have hr' := hI'.right
          have hl16' : l'.length ≤ 16 := (rightB_iff.1 hr').1
          obtain ⟨m1, i1, i2, i3⟩ := due_pre (now := 10 * ((k : Int) + 1)) (age := a) hr' a0 (by omega)
          obtain ⟨m2, j1, j2, j3⟩ := due_pre (now := 10 * ((k : Int) + 1) + 5) (age := a) hr' a0 (by omega)
          have hm12 : m1 ≤ m2 := by
            by_cases e : m1 ≤ m2
            · exact e
            · have q1 := (i3 m2 (by omega)).1 (by omega)
              have q2 := (j3 m2 (by omega)).2 (by omega)
              omega
          have hl1 : (((l'.take m1).map (·.1)).map enc1).length = m1 := by simp; omega
          have hl2 : (((l'.take m2).map (·.1)).map enc1).length = m2 := by simp; omega
          have hl3 : (l'.map encI).length = l'.length := List.length_map ..
          repeat (first | (refine bcase_f rfl ?_; conv => whnf) | (refine bcase_t rfl ?_; conv => whnf) | (refine condK_of rfl ?_; conv => whnf) | (refine condK_of (by decide) ?_; conv => whnf) | (refine condK_of (by omega) ?_; conv => whnf) | (refine wrapK_in (w64 (by omega) (by omega)) ?_; conv => whnf))
          refine callX_pure (d := encNs ((l'.take m1).map (·.1))) (by have h := due_ok l' (10 * ((k : Int) + 1)) a (by omega) (by omega); rw [i2] at h; exact h) ?_
          conv => whnf
          repeat (first | (refine bcase_f rfl ?_; conv => whnf) | (refine bcase_t rfl ?_; conv => whnf) | (refine condK_of rfl ?_; conv => whnf) | (refine condK_of (by decide) ?_; conv => whnf) | (refine condK_of (by omega) ?_; conv => whnf) | (refine wrapK_in (w64 (by omega) (by omega)) ?_; conv => whnf))
          refine callX_pure (d := encNs ((l'.take m2).map (·.1))) (by have h := due_ok l' (10 * ((k : Int) + 1) + 5) a (by omega) (by omega); rw [j2] at h; exact h) ?_
          conv => whnf
          refine bcase_f (by rw [hl1, hl2]; simp; omega) ?_
          conv => whnf
          refine bcase_f (by rw [hl2, hl3]; simp; omega) ?_
          conv => whnf
          refine aloop (ι := Nat) (fun q => [(0, .d (.lst (acts.map enc2))), (1, .d (.int .u8 a)), (5, .d (encIs l')), (6, .ptr 6 0 0), (7, .d (.int .i64 k)), (14, .d (encNs ((l'.take m1).map (·.1)))), (15, .d (encNs ((l'.take m2).map (·.1)))), (105, .d (.int .i64 (((l'.take m2).map (·.1)).map enc1).length)), (106, .d (.int .i64 q))]) (fun _ => [(6, .box (sn.map cellI) false)])
            (fun q => q ≤ m2) (fun q => m2 - q) 0 (Nat.zero_le _) (le0 (le_of_cov ⟨rfl, rfl, rfl, rfl, rfl, rfl, rfl, rfl, rfl, trivial⟩ ⟨rfl, trivial⟩ ⟨rfl, rfl, rfl, rfl⟩)) ?_
          intro q hq
          conv => whnf
          refine bcase_p (fun h6 => ?_) (fun h6 => ?_) <;> conv => whnf
          · have hq2 : q < m2 := by omega
            have hq3 : q < l'.length := by omega
            refine idxK_nat (by omega) ?_
            conv => whnf
            refine getRow_of (x := encI l'[q]) (by simp [hq3]) ?_
            conv => whnf
            repeat (first | (refine bcase_f rfl ?_; conv => whnf) | (refine bcase_t rfl ?_; conv => whnf) | (refine condK_of rfl ?_; conv => whnf) | (refine condK_of (by decide) ?_; conv => whnf) | (refine condK_of (by omega) ?_; conv => whnf) | (refine wrapK_in (w64 (by omega) (by omega)) ?_; conv => whnf))
            refine idxK_nat (by omega) ?_
            conv => whnf
            refine getRow_of (x := enc1 l'[q].1) (by rw [List.getElem?_map, List.getElem?_map, List.getElem?_take_of_lt (by omega), List.getElem?_eq_getElem hq3]; rfl) ?_
            conv => whnf
            repeat (first | (refine bcase_f rfl ?_; conv => whnf) | (refine bcase_t rfl ?_; conv => whnf) | (refine condK_of rfl ?_; conv => whnf) | (refine condK_of (by decide) ?_; conv => whnf) | (refine condK_of (by omega) ?_; conv => whnf) | (refine wrapK_in (w64 (by omega) (by omega)) ?_; conv => whnf))
            refine bcase_f (by simp) ?_
            conv => whnf
            refine bcase_p (fun h7 => ?_) (fun h7 => ?_) <;> conv => whnf
            · repeat (first | (refine bcase_f rfl ?_; conv => whnf) | (refine bcase_t rfl ?_; conv => whnf) | (refine condK_of rfl ?_; conv => whnf) | (refine condK_of (by decide) ?_; conv => whnf) | (refine condK_of (by omega) ?_; conv => whnf) | (refine wrapK_in (w64 (by omega) (by omega)) ?_; conv => whnf))
              refine idxK_nat (by omega) ?_
              conv => whnf
              refine getRow_of (x := enc1 l'[q].1) (by rw [List.getElem?_map, List.getElem?_map, List.getElem?_take_of_lt (by omega), List.getElem?_eq_getElem hq3]; rfl) ?_
              conv => whnf
              repeat (first | (refine bcase_f rfl ?_; conv => whnf) | (refine bcase_t rfl ?_; conv => whnf) | (refine condK_of rfl ?_; conv => whnf) | (refine condK_of (by decide) ?_; conv => whnf) | (refine condK_of (by omega) ?_; conv => whnf) | (refine wrapK_in (w64 (by omega) (by omega)) ?_; conv => whnf))
              refine idxK_nat (by omega) ?_
              conv => whnf
              refine getRow_of (x := enc1 l'[q].1) (by rw [List.getElem?_map, List.getElem?_map, List.getElem?_take_of_lt (by omega), List.getElem?_eq_getElem hq3]; rfl) ?_
              conv => whnf
              repeat (first | (refine bcase_f rfl ?_; conv => whnf) | (refine bcase_t rfl ?_; conv => whnf) | (refine condK_of rfl ?_; conv => whnf) | (refine condK_of (by decide) ?_; conv => whnf) | (refine condK_of (by omega) ?_; conv => whnf) | (refine wrapK_in (w64 (by omega) (by omega)) ?_; conv => whnf))
              refine bcase_f (by simp) ?_
              conv => whnf
              repeat (first | (refine bcase_f rfl ?_; conv => whnf) | (refine bcase_t rfl ?_; conv => whnf) | (refine condK_of rfl ?_; conv => whnf) | (refine condK_of (by decide) ?_; conv => whnf) | (refine condK_of (by omega) ?_; conv => whnf) | (refine wrapK_in (w64 (by omega) (by omega)) ?_; conv => whnf))
              exact ⟨q + 1, by omega, by omega, le0 (le_of_cov ⟨rfl, rfl, rfl, rfl, rfl, rfl, rfl, rfl, rfl, trivial⟩ ⟨rfl, trivial⟩ ⟨rfl, rfl, rfl, rfl⟩)⟩
            · repeat (first | (refine bcase_f rfl ?_; conv => whnf) | (refine bcase_t rfl ?_; conv => whnf) | (refine condK_of rfl ?_; conv => whnf) | (refine condK_of (by decide) ?_; conv => whnf) | (refine condK_of (by omega) ?_; conv => whnf) | (refine wrapK_in (w64 (by omega) (by omega)) ?_; conv => whnf))
              exact ⟨q + 1, by omega, by omega, le0 (le_of_cov ⟨rfl, rfl, rfl, rfl, rfl, rfl, rfl, rfl, rfl, trivial⟩ ⟨rfl, trivial⟩ ⟨rfl, rfl, rfl, rfl⟩)⟩
          refine aloop (ι := Nat) (fun q => [(0, .d (.lst (acts.map enc2))), (1, .d (.int .u8 a)), (5, .d (encIs l')), (6, .ptr 6 0 0), (7, .d (.int .i64 k)), (17, .d (.int .i64 ((q : Int) + 1)))]) (fun _ => [(6, .box (sn.map cellI) false)])
            (fun q => q ≤ 16) (fun q => 16 - q) 0 (Nat.zero_le _) (le0 (le_of_cov ⟨rfl, rfl, rfl, rfl, rfl, rfl, trivial⟩ ⟨rfl, trivial⟩ ⟨rfl, rfl, rfl, rfl⟩)) ?_
          intro r hr
          conv => whnf
          refine bcase_p (fun h8 => ?_) (fun h8 => ?_) <;> conv => whnf
          · have hr3 : r + 1 ≤ 16 := by omega
            obtain ⟨t', ht1, ht2⟩ := hI'.since (p := r + 1) (by omega) hr3
            rw [Int.natCast_succ] at ht2
            refine callX_pure (d := .tup [.int .i64 t', .bool (decide (t' ≠ 0))]) (by have h := since_ok l' ((r : Int) + 1) (by omega); rw [ht2] at h; exact h) ?_
            conv => whnf
            have hg : (sn.map cellI)[0 + (r + 1) * (T 3).size]? = some (cellI t') := by
              rw [show 0 + (r + 1) * (T 3).size = r + 1 from by rw [show (T 3).size = 1 from rfl]; omega, List.getElem?_map, ht1]; rfl
            refine idxK_nat (i := r + 1) (by omega) ?_
            conv => whnf
            refine condK_of rfl ?_
            refine getC_of hg ?_
            conv => whnf
            refine bcase_f (by simp) ?_
            conv => whnf
            refine idxK_nat (i := r + 1) (by omega) ?_
            conv => whnf
            refine condK_of rfl ?_
            refine getC_of hg ?_
            conv => whnf
            refine bcase_f (by simp) ?_
            conv => whnf
            repeat (first | (refine bcase_f rfl ?_; conv => whnf) | (refine bcase_t rfl ?_; conv => whnf) | (refine condK_of rfl ?_; conv => whnf) | (refine condK_of (by decide) ?_; conv => whnf) | (refine condK_of (by omega) ?_; conv => whnf) | (refine wrapK_in (w64 (by omega) (by omega)) ?_; conv => whnf))
            exact ⟨r + 1, by omega, by omega, le0 (le_of_cov ⟨rfl, rfl, rfl, rfl, rfl, rfl, trivial⟩ ⟨rfl, trivial⟩ ⟨rfl, rfl, rfl, rfl⟩)⟩
          repeat (first | (refine bcase_f rfl ?_; conv => whnf) | (refine bcase_t rfl ?_; conv => whnf) | (refine condK_of rfl ?_; conv => whnf) | (refine condK_of (by decide) ?_; conv => whnf) | (refine condK_of (by omega) ?_; conv => whnf) | (refine wrapK_in (w64 (by omega) (by omega)) ?_; conv => whnf))
          exact ⟨(k + 1, l', sn), ⟨by simp only []; omega, by simp only []; omega, hI'⟩, by simp only []; omega, le0 (le_of_cov ⟨rfl, rfl, rfl, rfl, rfl, trivial⟩ ⟨rfl, trivial⟩ ⟨rfl, rfl, rfl, rfl⟩)⟩
      · obtain ⟨e1, hI'⟩ := hI.clean p0 p1 ht
        refine callX_pure (clean_ok l pn (by omega)) ?_
        conv => whnf
        generalize (cleanG l pn).1 = l' at hI' ⊢
        generalize (cleanG l pn).2 = f at e1 ⊢
        refine idxK_nat (by omega) ?_
        conv => whnf
        refine condK_of rfl ?_
        refine getC_of hg ?_
        conv => whnf
        refine bcase_f (by simp [e1]) ?_
        conv => whnf
        refine idxK_nat (by omega) ?_
        conv => whnf
        refine condK_of rfl ?_
        refine bif_of rfl (bif_of rfl (bif_of (by rw [hz, hcl, Nat.ble_eq, show (T 3).size = 1 from rfl]; omega) ?_))
        rw [hz]
        conv => whnf
        have hset : (sn.map cellI).set pn (.d (.int .i64 0)) = (sn.set pn 0).map cellI := by rw [List.map_set]; rfl
        have hr' := hI'.right
        have hl16' : l'.length ≤ 16 := (rightB_iff.1 hr').1
        obtain ⟨m1, i1, i2, i3⟩ := due_pre (now := 10 * ((k : Int) + 1)) (age := a) hr' a0 (by omega)
        obtain ⟨m2, j1, j2, j3⟩ := due_pre (now := 10 * ((k : Int) + 1) + 5) (age := a) hr' a0 (by omega)
        have hm12 : m1 ≤ m2 := by
          by_cases e : m1 ≤ m2
          · exact e
          · have q1 := (i3 m2 (by omega)).1 (by omega)
            have q2 := (j3 m2 (by omega)).2 (by omega)
            omega
        have hl1 : (((l'.take m1).map (·.1)).map enc1).length = m1 := by simp; omega
        have hl2 : (((l'.take m2).map (·.1)).map enc1).length = m2 := by simp; omega
        have hl3 : (l'.map encI).length = l'.length := List.length_map ..
        repeat (first | (refine bcase_f rfl ?_; conv => whnf) | (refine bcase_t rfl ?_; conv => whnf) | (refine condK_of rfl ?_; conv => whnf) | (refine condK_of (by decide) ?_; conv => whnf) | (refine condK_of (by omega) ?_; conv => whnf) | (refine wrapK_in (w64 (by omega) (by omega)) ?_; conv => whnf))
        refine callX_pure (d := encNs ((l'.take m1).map (·.1))) (by have h := due_ok l' (10 * ((k : Int) + 1)) a (by omega) (by omega); rw [i2] at h; exact h) ?_
        conv => whnf
        repeat (first | (refine bcase_f rfl ?_; conv => whnf) | (refine bcase_t rfl ?_; conv => whnf) | (refine condK_of rfl ?_; conv => whnf) | (refine condK_of (by decide) ?_; conv => whnf) | (refine condK_of (by omega) ?_; conv => whnf) | (refine wrapK_in (w64 (by omega) (by omega)) ?_; conv => whnf))
        refine callX_pure (d := encNs ((l'.take m2).map (·.1))) (by have h := due_ok l' (10 * ((k : Int) + 1) + 5) a (by omega) (by omega); rw [j2] at h; exact h) ?_
        conv => whnf
        refine bcase_f (by rw [hl1, hl2]; simp; omega) ?_
        conv => whnf
        refine bcase_f (by rw [hl2, hl3]; simp; omega) ?_
        conv => whnf
        refine aloop (ι := Nat) (fun q => [(0, .d (.lst (acts.map enc2))), (1, .d (.int .u8 a)), (5, .d (encIs l')), (6, .ptr 6 0 0), (7, .d (.int .i64 k)), (14, .d (encNs ((l'.take m1).map (·.1)))), (15, .d (encNs ((l'.take m2).map (·.1)))), (105, .d (.int .i64 (((l'.take m2).map (·.1)).map enc1).length)), (106, .d (.int .i64 q))]) (fun _ => [(6, .box ((sn.set pn 0).map cellI) false)])
          (fun q => q ≤ m2) (fun q => m2 - q) 0 (Nat.zero_le _) (le0 (le_of_cov ⟨rfl, rfl, rfl, rfl, rfl, rfl, rfl, rfl, rfl, trivial⟩ ⟨by rw [← hset]; rfl, trivial⟩ ⟨rfl, rfl, rfl, rfl⟩)) ?_
        intro q hq
        conv => whnf
        refine bcase_p (fun h6 => ?_) (fun h6 => ?_) <;> conv => whnf
        · have hq2 : q < m2 := by omega
          have hq3 : q < l'.length := by omega
          refine idxK_nat (by omega) ?_
          conv => whnf
          refine getRow_of (x := encI l'[q]) (by simp [hq3]) ?_
          conv => whnf
          repeat (first | (refine bcase_f rfl ?_; conv => whnf) | (refine bcase_t rfl ?_; conv => whnf) | (refine condK_of rfl ?_; conv => whnf) | (refine condK_of (by decide) ?_; conv => whnf) | (refine condK_of (by omega) ?_; conv => whnf) | (refine wrapK_in (w64 (by omega) (by omega)) ?_; conv => whnf))
          refine idxK_nat (by omega) ?_
          conv => whnf
          refine getRow_of (x := enc1 l'[q].1) (by rw [List.getElem?_map, List.getElem?_map, List.getElem?_take_of_lt (by omega), List.getElem?_eq_getElem hq3]; rfl) ?_
          conv => whnf
          repeat (first | (refine bcase_f rfl ?_; conv => whnf) | (refine bcase_t rfl ?_; conv => whnf) | (refine condK_of rfl ?_; conv => whnf) | (refine condK_of (by decide) ?_; conv => whnf) | (refine condK_of (by omega) ?_; conv => whnf) | (refine wrapK_in (w64 (by omega) (by omega)) ?_; conv => whnf))
          refine bcase_f (by simp) ?_
          conv => whnf
          refine bcase_p (fun h7 => ?_) (fun h7 => ?_) <;> conv => whnf
          · repeat (first | (refine bcase_f rfl ?_; conv => whnf) | (refine bcase_t rfl ?_; conv => whnf) | (refine condK_of rfl ?_; conv => whnf) | (refine condK_of (by decide) ?_; conv => whnf) | (refine condK_of (by omega) ?_; conv => whnf) | (refine wrapK_in (w64 (by omega) (by omega)) ?_; conv => whnf))
            refine idxK_nat (by omega) ?_
            conv => whnf
            refine getRow_of (x := enc1 l'[q].1) (by rw [List.getElem?_map, List.getElem?_map, List.getElem?_take_of_lt (by omega), List.getElem?_eq_getElem hq3]; rfl) ?_
            conv => whnf
            repeat (first | (refine bcase_f rfl ?_; conv => whnf) | (refine bcase_t rfl ?_; conv => whnf) | (refine condK_of rfl ?_; conv => whnf) | (refine condK_of (by decide) ?_; conv => whnf) | (refine condK_of (by omega) ?_; conv => whnf) | (refine wrapK_in (w64 (by omega) (by omega)) ?_; conv => whnf))
            refine idxK_nat (by omega) ?_
            conv => whnf
            refine getRow_of (x := enc1 l'[q].1) (by rw [List.getElem?_map, List.getElem?_map, List.getElem?_take_of_lt (by omega), List.getElem?_eq_getElem hq3]; rfl) ?_
            conv => whnf
            repeat (first | (refine bcase_f rfl ?_; conv => whnf) | (refine bcase_t rfl ?_; conv => whnf) | (refine condK_of rfl ?_; conv => whnf) | (refine condK_of (by decide) ?_; conv => whnf) | (refine condK_of (by omega) ?_; conv => whnf) | (refine wrapK_in (w64 (by omega) (by omega)) ?_; conv => whnf))
            refine bcase_f (by simp) ?_
            conv => whnf
            repeat (first | (refine bcase_f rfl ?_; conv => whnf) | (refine bcase_t rfl ?_; conv => whnf) | (refine condK_of rfl ?_; conv => whnf) | (refine condK_of (by decide) ?_; conv => whnf) | (refine condK_of (by omega) ?_; conv => whnf) | (refine wrapK_in (w64 (by omega) (by omega)) ?_; conv => whnf))
            exact ⟨q + 1, by omega, by omega, le0 (le_of_cov ⟨rfl, rfl, rfl, rfl, rfl, rfl, rfl, rfl, rfl, trivial⟩ ⟨rfl, trivial⟩ ⟨rfl, rfl, rfl, rfl⟩)⟩
          · repeat (first | (refine bcase_f rfl ?_; conv => whnf) | (refine bcase_t rfl ?_; conv => whnf) | (refine condK_of rfl ?_; conv => whnf) | (refine condK_of (by decide) ?_; conv => whnf) | (refine condK_of (by omega) ?_; conv => whnf) | (refine wrapK_in (w64 (by omega) (by omega)) ?_; conv => whnf))
            exact ⟨q + 1, by omega, by omega, le0 (le_of_cov ⟨rfl, rfl, rfl, rfl, rfl, rfl, rfl, rfl, rfl, trivial⟩ ⟨rfl, trivial⟩ ⟨rfl, rfl, rfl, rfl⟩)⟩
        refine aloop (ι := Nat) (fun q => [(0, .d (.lst (acts.map enc2))), (1, .d (.int .u8 a)), (5, .d (encIs l')), (6, .ptr 6 0 0), (7, .d (.int .i64 k)), (17, .d (.int .i64 ((q : Int) + 1)))]) (fun _ => [(6, .box ((sn.set pn 0).map cellI) false)])
          (fun q => q ≤ 16) (fun q => 16 - q) 0 (Nat.zero_le _) (le0 (le_of_cov ⟨rfl, rfl, rfl, rfl, rfl, rfl, trivial⟩ ⟨rfl, trivial⟩ ⟨rfl, rfl, rfl, rfl⟩)) ?_
        intro r hr
        conv => whnf
        refine bcase_p (fun h8 => ?_) (fun h8 => ?_) <;> conv => whnf
        · have hr3 : r + 1 ≤ 16 := by omega
          obtain ⟨t', ht1, ht2⟩ := hI'.since (p := r + 1) (by omega) hr3
          rw [Int.natCast_succ] at ht2
          refine callX_pure (d := .tup [.int .i64 t', .bool (decide (t' ≠ 0))]) (by have h := since_ok l' ((r : Int) + 1) (by omega); rw [ht2] at h; exact h) ?_
          conv => whnf
          have hg : ((sn.set pn 0).map cellI)[0 + (r + 1) * (T 3).size]? = some (cellI t') := by
            rw [show 0 + (r + 1) * (T 3).size = r + 1 from by rw [show (T 3).size = 1 from rfl]; omega, List.getElem?_map, ht1]; rfl
          refine idxK_nat (i := r + 1) (by omega) ?_
          conv => whnf
          refine condK_of rfl ?_
          refine getC_of hg ?_
          conv => whnf
          refine bcase_f (by simp) ?_
          conv => whnf
          refine idxK_nat (i := r + 1) (by omega) ?_
          conv => whnf
          refine condK_of rfl ?_
          refine getC_of hg ?_
          conv => whnf
          refine bcase_f (by simp) ?_
          conv => whnf
          repeat (first | (refine bcase_f rfl ?_; conv => whnf) | (refine bcase_t rfl ?_; conv => whnf) | (refine condK_of rfl ?_; conv => whnf) | (refine condK_of (by decide) ?_; conv => whnf) | (refine condK_of (by omega) ?_; conv => whnf) | (refine wrapK_in (w64 (by omega) (by omega)) ?_; conv => whnf))
          exact ⟨r + 1, by omega, by omega, le0 (le_of_cov ⟨rfl, rfl, rfl, rfl, rfl, rfl, trivial⟩ ⟨rfl, trivial⟩ ⟨rfl, rfl, rfl, rfl⟩)⟩
        repeat (first | (refine bcase_f rfl ?_; conv => whnf) | (refine bcase_t rfl ?_; conv => whnf) | (refine condK_of rfl ?_; conv => whnf) | (refine condK_of (by decide) ?_; conv => whnf) | (refine condK_of (by omega) ?_; conv => whnf) | (refine wrapK_in (w64 (by omega) (by omega)) ?_; conv => whnf))
        exact ⟨(k + 1, l', (sn.set pn 0)), ⟨by simp only []; omega, by simp only []; omega, hI'⟩, by simp only []; omega, le0 (le_of_cov ⟨rfl, rfl, rfl, rfl, rfl, trivial⟩ ⟨rfl, trivial⟩ ⟨rfl, rfl, rfl, rfl⟩)⟩
    · refine callX_pure (right_ok l (by omega)) ?_
      conv => whnf
      refine bcase_t hI.right ?_
      conv => whnf
      refine callX_pure awake_ok ?_
      conv => whnf
      exact ret_of rfl rfl
  · repeat (first | (refine bcase_f rfl ?_; conv => whnf) | (refine bcase_t rfl ?_; conv => whnf) | (refine condK_of rfl ?_; conv => whnf) | (refine condK_of (by decide) ?_; conv => whnf) | (refine condK_of (by omega) ?_; conv => whnf) | (refine wrapK_in (w64 (by omega) (by omega)) ?_; conv => whnf))
    refine callX_pure (right_ok l (by omega)) ?_
    conv => whnf
    refine bcase_t hI.right ?_
    conv => whnf
    refine callX_pure awake_ok ?_
    conv => whnf
    exact ret_of rfl rfl
end Go.Lk

set_option linter.unusedSimpArgs false
set_option linter.unusedVariables false
set_option linter.unnecessarySimpa false
namespace Go.Lk
open Go Go.Proofs Go.RowKit

theorem kids : Kids Try.prog (· < Try.prog.types.size) := kids_rows (by kernel_rfl) (by kernel_rfl)
theorem sizes : ∀ t e, t < Try.prog.types.size → Try.prog.underlying t = some (.slice e) → 0 < Try.prog.cellsOf e := sliceSize_out (by kernel_rfl)
theorem own : ownKnob Try.prog.godebug = none := by kernel_rfl

theorem items {n : Nat} {d : D} (h : FitV T n 22 d) : ∃ l : List (Int × Int), d = encIs l ∧ l.length ≤ maxLen ∧ ∀ a ∈ l, (Lit.int .i64 a.1).wf = true ∧ (Lit.int .i64 a.2).wf = true :=
  fitV_rows (e := 29) rfl h fun m x hx => by
    obtain ⟨a, b, e, h1, h2⟩ := fit_two (a := 3) (b := 3) rfl rfl rfl hx
    exact ⟨(a, b), e, h1, h2⟩

theorem dirtyDue_law : ∀ dds, FitAll T Try.f3.params.toList dds → ACall Try.prog 3 dds (.bool true) := by
  rintro dds ⟨n1, d1, r1, rfl, h1, n2, d2, r2, rfl, h2, n3, d3, r3, rfl, h3, n4, d4, r4, rfl, h4, rfl⟩
  obtain ⟨l, rfl, _⟩ := items h1
  obtain ⟨now, rfl, w1⟩ := fitV_int (k := .i64) rfl h2
  obtain ⟨age, rfl, w2⟩ := fitV_int (k := .i64) rfl h3
  obtain ⟨hard, rfl, w3⟩ := fitV_int (k := .i64) rfl h4
  exact dirtyDue_ok l now age hard (wf_i64 w1).1 (wf_i64 w1).2
theorem dirtyAll_law : ∀ dds, FitAll T Try.f4.params.toList dds → ACall Try.prog 4 dds (.bool true) := by
  rintro dds ⟨n1, d1, r1, rfl, h1, n2, d2, r2, rfl, h2, rfl⟩
  obtain ⟨s, rfl, w1⟩ := fitV_int (k := .u8) rfl h1
  obtain ⟨a, rfl, w2⟩ := fitV_int (k := .u8) rfl h2
  exact dirtyAll_ok s a (wf_u8 w1).1 (wf_u8 w1).2 (wf_u8 w2).1 (wf_u8 w2).2
theorem dirtyOld_law : ∀ dds, FitAll T Try.f5.params.toList dds → ACall Try.prog 5 dds (.bool true) := by
  rintro dds ⟨n1, d1, r1, rfl, h1, n2, d2, r2, rfl, h2, rfl⟩
  obtain ⟨l, rfl, _⟩ := items h1
  obtain ⟨a, rfl, w2⟩ := fitV_int (k := .u8) rfl h2
  exact dirtyOld_ok l a (wf_u8 w2).1 (wf_u8 w2).2
theorem dirtyExact_law : ∀ dds, FitAll T Try.f6.params.toList dds → ACall Try.prog 6 dds (.bool true) := by
  rintro dds ⟨n1, d1, r1, rfl, h1, n2, d2, r2, rfl, h2, n3, d3, r3, rfl, h3, rfl⟩
  obtain ⟨l, rfl, _⟩ := items h1
  obtain ⟨p, rfl, w2⟩ := fitV_int (k := .i64) rfl h2
  obtain ⟨t, rfl, w3⟩ := fitV_int (k := .i64) rfl h3
  exact dirtyExact_ok l p t
theorem dirtyBack_law : ∀ dds, FitAll T Try.f8.params.toList dds → ACall Try.prog 8 dds (.bool true) := by
  rintro dds ⟨n1, d1, r1, rfl, h1, n2, d2, r2, rfl, h2, n3, d3, r3, rfl, h3, rfl⟩
  obtain ⟨l, rfl, _⟩ := items h1
  obtain ⟨p, rfl, w2⟩ := fitV_int (k := .i64) rfl h2
  obtain ⟨t, rfl, w3⟩ := fitV_int (k := .i64) rfl h3
  exact dirtyBack_ok l p t
theorem dirtyFirst_law : ∀ dds, FitAll T Try.f7.params.toList dds → ACall Try.prog 7 dds (.bool true) := by
  rintro dds ⟨n1, d1, r1, rfl, h1, n2, d2, r2, rfl, h2, rfl⟩
  obtain ⟨l, rfl, hl, hw⟩ := fitV_rows (f := enc2) (Q := fun x => (Lit.int .u8 x.1).wf = true ∧ (Lit.int .u8 x.2).wf = true) (e := 49) rfl h1 fun m x hx => by
    obtain ⟨m', u, v, rfl, h3, u', v', rfl, h4, rfl⟩ := fit_arr (e := 5) (k := 2) rfl hx
    obtain ⟨x, rfl, wx⟩ := fit_int (k := .u8) rfl h3
    obtain ⟨y, rfl, wy⟩ := fit_int (k := .u8) rfl h4
    exact ⟨(x, y), rfl, wx, wy⟩
  obtain ⟨a, rfl, w2⟩ := fitV_int (k := .u8) rfl h2
  exact dirtyFirst_ok l (fun x hx => ⟨wf_u8 (hw x hx).1, wf_u8 (hw x hx).2⟩) (Nat.le_trans hl (by decide)) a (wf_u8 w2).1 (wf_u8 w2).2
end Go.Lk

