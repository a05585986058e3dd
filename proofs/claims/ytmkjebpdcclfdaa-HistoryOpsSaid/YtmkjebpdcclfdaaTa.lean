/-
  HistoryChecks.
-/
import Derived.Test.YtmkjebpdcclfdaaSi
set_option linter.unusedSectionVars false
set_option linter.unusedSimpArgs false
set_option linter.unusedVariables false
set_option linter.unnecessarySimpa false
namespace Go.Lk
open Go Go.Proofs Go.RowKit Go.Lk.St

theorem chkGo_len : ∀ (s : List Ev) (m : List Pg) (i : Nat), (chkGo m i s).1.length ≤ m.length + s.length
  | [], m, i => by simp [chkGo]
  | v :: r, m, i => by
    rw [chkGo]
    split
    · have := chkGo_len r m (i + 1); simp only [List.length_cons]; omega
    · split
      · have := chkGo_len r (doM m (opE v)).1 (i + 1)
        have := doM_len m (opE v)
        simp only [List.length_cons]; omega
      · simp
theorem chkM_len (m : List Pg) (l : List Ev) : (chkM m l).1.length ≤ m.length + l.length := by
  rw [chkM]
  split
  · simp
  split
  · simp
  split
  · simp
  have := chkGo_len (srt leD l) m 0
  rw [srt_len] at this
  exact this
set_option maxHeartbeats 4000000 in
theorem checks_ok (m : List Pg) (l : List Ev) (hm : m.length ≤ 9223372036854775807) : ACall Try.prog 3 [.agg [.lst (m.map encP)], .lst (l.map encE)] (.bool true) := by
  refine acall_of Try.func3 2 rfl (by kernel_rfl) ?_
  conv => whnf
  repeat (first | (refine bcase_f rfl ?_; conv => whnf) | (refine bcase_t rfl ?_; conv => whnf) | (refine condK_draw (by kernel_rfl) ?_; conv => whnf) | (refine condK_of rfl ?_; conv => whnf) | (refine condK_of (by decide) ?_; conv => whnf) | (refine condK_of (by omega) ?_; conv => whnf) | (refine wrapK_in (w64 (by omega) (by omega)) ?_; conv => whnf))
  refine callX_pure (small_ok l) ?_
  conv => whnf
  repeat (first | (refine bcase_f rfl ?_; conv => whnf) | (refine bcase_t rfl ?_; conv => whnf) | (refine condK_draw (by kernel_rfl) ?_; conv => whnf) | (refine condK_of rfl ?_; conv => whnf) | (refine condK_of (by decide) ?_; conv => whnf) | (refine condK_of (by omega) ?_; conv => whnf) | (refine wrapK_in (w64 (by omega) (by omega)) ?_; conv => whnf))
  refine bcase_intro (fun g1 => ?_) (fun g1 => ?_) <;> conv => whnf
  · repeat (first | (refine bcase_f rfl ?_; conv => whnf) | (refine bcase_t rfl ?_; conv => whnf) | (refine condK_draw (by kernel_rfl) ?_; conv => whnf) | (refine condK_of rfl ?_; conv => whnf) | (refine condK_of (by decide) ?_; conv => whnf) | (refine condK_of (by omega) ?_; conv => whnf) | (refine wrapK_in (w64 (by omega) (by omega)) ?_; conv => whnf))
    refine callX_pure awake_ok ?_
    conv => whnf
    repeat (first | (refine bcase_f rfl ?_; conv => whnf) | (refine bcase_t rfl ?_; conv => whnf) | (refine condK_draw (by kernel_rfl) ?_; conv => whnf) | (refine condK_of rfl ?_; conv => whnf) | (refine condK_of (by decide) ?_; conv => whnf) | (refine condK_of (by omega) ?_; conv => whnf) | (refine wrapK_in (w64 (by omega) (by omega)) ?_; conv => whnf))
    exact ret_of rfl rfl
  have hs := smB_t.1 (show smB l = true by simpa using g1)
  have hl := hs.len
  repeat (first | (refine bcase_f rfl ?_; conv => whnf) | (refine bcase_t rfl ?_; conv => whnf) | (refine condK_draw (by kernel_rfl) ?_; conv => whnf) | (refine condK_of rfl ?_; conv => whnf) | (refine condK_of (by decide) ?_; conv => whnf) | (refine condK_of (by omega) ?_; conv => whnf) | (refine wrapK_in (w64 (by omega) (by omega)) ?_; conv => whnf))
  refine callX_pure (pages_ok m hm) ?_
  conv => whnf
  repeat (first | (refine bcase_f rfl ?_; conv => whnf) | (refine bcase_t rfl ?_; conv => whnf) | (refine condK_draw (by kernel_rfl) ?_; conv => whnf) | (refine condK_of rfl ?_; conv => whnf) | (refine condK_of (by decide) ?_; conv => whnf) | (refine condK_of (by omega) ?_; conv => whnf) | (refine wrapK_in (w64 (by omega) (by omega)) ?_; conv => whnf))
  refine bcase_intro (fun g2 => ?_) (fun g2 => ?_) <;> conv => whnf
  · repeat (first | (refine bcase_f rfl ?_; conv => whnf) | (refine bcase_t rfl ?_; conv => whnf) | (refine condK_draw (by kernel_rfl) ?_; conv => whnf) | (refine condK_of rfl ?_; conv => whnf) | (refine condK_of (by decide) ?_; conv => whnf) | (refine condK_of (by omega) ?_; conv => whnf) | (refine wrapK_in (w64 (by omega) (by omega)) ?_; conv => whnf))
    refine callX_pure awake_ok ?_
    conv => whnf
    repeat (first | (refine bcase_f rfl ?_; conv => whnf) | (refine bcase_t rfl ?_; conv => whnf) | (refine condK_draw (by kernel_rfl) ?_; conv => whnf) | (refine condK_of rfl ?_; conv => whnf) | (refine condK_of (by decide) ?_; conv => whnf) | (refine condK_of (by omega) ?_; conv => whnf) | (refine wrapK_in (w64 (by omega) (by omega)) ?_; conv => whnf))
    exact ret_of rfl rfl
  have hp := pgB_t.1 (show pgB m = true by simpa using g2)
  have hpl := hp.len
  repeat (first | (refine bcase_f rfl ?_; conv => whnf) | (refine bcase_t rfl ?_; conv => whnf) | (refine condK_draw (by kernel_rfl) ?_; conv => whnf) | (refine condK_of rfl ?_; conv => whnf) | (refine condK_of (by decide) ?_; conv => whnf) | (refine condK_of (by omega) ?_; conv => whnf) | (refine wrapK_in (w64 (by omega) (by omega)) ?_; conv => whnf))
  refine callX_own (events_ok l (by omega)) ?_
  conv => whnf
  repeat (first | (refine bcase_f rfl ?_; conv => whnf) | (refine bcase_t rfl ?_; conv => whnf) | (refine condK_draw (by kernel_rfl) ?_; conv => whnf) | (refine condK_of rfl ?_; conv => whnf) | (refine condK_of (by decide) ?_; conv => whnf) | (refine condK_of (by omega) ?_; conv => whnf) | (refine wrapK_in (w64 (by omega) (by omega)) ?_; conv => whnf))
  refine callX_pure (check_ok m l (by omega) (by omega)) ?_
  conv => whnf
  repeat (first | (refine bcase_f rfl ?_; conv => whnf) | (refine bcase_t rfl ?_; conv => whnf) | (refine condK_draw (by kernel_rfl) ?_; conv => whnf) | (refine condK_of rfl ?_; conv => whnf) | (refine condK_of (by decide) ?_; conv => whnf) | (refine condK_of (by omega) ?_; conv => whnf) | (refine wrapK_in (w64 (by omega) (by omega)) ?_; conv => whnf))
  refine callX_pure (refCheck_ok m l (by omega) (by omega)) ?_
  conv => whnf
  repeat (first | (refine bcase_f rfl ?_; conv => whnf) | (refine bcase_t rfl ?_; conv => whnf) | (refine condK_draw (by kernel_rfl) ?_; conv => whnf) | (refine condK_of rfl ?_; conv => whnf) | (refine condK_of (by decide) ?_; conv => whnf) | (refine condK_of (by omega) ?_; conv => whnf) | (refine wrapK_in (w64 (by omega) (by omega)) ?_; conv => whnf))
  refine callX_own (sort_ok l (by omega)) ?_
  conv => whnf
  repeat (first | (refine bcase_f rfl ?_; conv => whnf) | (refine bcase_t rfl ?_; conv => whnf) | (refine condK_draw (by kernel_rfl) ?_; conv => whnf) | (refine condK_of rfl ?_; conv => whnf) | (refine condK_of (by decide) ?_; conv => whnf) | (refine condK_of (by omega) ?_; conv => whnf) | (refine wrapK_in (w64 (by omega) (by omega)) ?_; conv => whnf))
  refine callX_own (events_ok (srt leD l) (by rw [srt_len]; omega)) ?_
  conv => whnf
  repeat (first | (refine bcase_f rfl ?_; conv => whnf) | (refine bcase_t rfl ?_; conv => whnf) | (refine condK_draw (by kernel_rfl) ?_; conv => whnf) | (refine condK_of rfl ?_; conv => whnf) | (refine condK_of (by decide) ?_; conv => whnf) | (refine condK_of (by omega) ?_; conv => whnf) | (refine wrapK_in (w64 (by omega) (by omega)) ?_; conv => whnf))
  refine callX_own (refSort_ok l (by omega)) ?_
  conv => whnf
  repeat (first | (refine bcase_f rfl ?_; conv => whnf) | (refine bcase_t rfl ?_; conv => whnf) | (refine condK_draw (by kernel_rfl) ?_; conv => whnf) | (refine condK_of rfl ?_; conv => whnf) | (refine condK_of (by decide) ?_; conv => whnf) | (refine condK_of (by omega) ?_; conv => whnf) | (refine wrapK_in (w64 (by omega) (by omega)) ?_; conv => whnf))
  refine bcase_f (by simp) ?_
  conv => whnf
  obtain ⟨s, hsd⟩ : ∃ s, srt leD l = s := ⟨_, rfl⟩
  have hsl : s.length = l.length := by rw [← hsd, srt_len]
  have hms : (s.map encE).length = s.length := List.length_map ..
  rw [hsd]
  refine aloop (ι := Nat) (fun k => [(1, .d (.lst (l.map encE))), (5, .own 25), (6, .ptr 6 0 0), (7, .d (.int .i64 (chkM m l).2.1)), (8, .d (.int .i64 (chkM m l).2.2)), (9, .d (.lst ((chkM m l).1.map encP))), (10, .d (.int .i64 (chkM m l).2.1)), (11, .d (.int .i64 (chkM m l).2.2)), (12, .own 43), (13, .own 45), (52, .d (.int .i64 (s.map encE).length)), (53, .d (.int .i64 k))]) (fun _ => [(6, .box [.d (.lst ((chkM m l).1.map encP))] false), (25, .row (l.map encE) 11 true), (43, .row (s.map encE) 11 false), (45, .row (s.map encE) 11 false)])
    (fun k => k ≤ s.length) (fun k => s.length - k) 0 (Nat.zero_le _) (le0 (le_of_cov ⟨?_, ?_, ?_, ?_, ?_, ?_, ?_, ?_, ?_, ?_, ?_, ?_, trivial⟩ ⟨?_, ?_, ?_, ?_, trivial⟩ ⟨?_, ?_, ?_, ?_⟩)) ?_
  rotate_right
  · intro k hk
    conv => whnf
    refine bcase_p (fun h5 => ?_) (fun h5 => ?_) <;> conv => whnf
    · have hk2 : k < s.length := by omega
      refine idxK_nat (by omega) ?_
      conv => whnf
      refine getRow_of (x := encE s[k]) (by simp [hk2]) ?_
      conv => whnf
      repeat (first | (refine bcase_f rfl ?_; conv => whnf) | (refine bcase_t rfl ?_; conv => whnf) | (refine condK_draw (by kernel_rfl) ?_; conv => whnf) | (refine condK_of rfl ?_; conv => whnf) | (refine condK_of (by decide) ?_; conv => whnf) | (refine condK_of (by omega) ?_; conv => whnf) | (refine wrapK_in (w64 (by omega) (by omega)) ?_; conv => whnf))
      refine idxK_nat (by omega) ?_
      conv => whnf
      refine getRow_of (x := encE s[k]) (by simp [hk2]) ?_
      conv => whnf
      repeat (first | (refine bcase_f rfl ?_; conv => whnf) | (refine bcase_t rfl ?_; conv => whnf) | (refine condK_draw (by kernel_rfl) ?_; conv => whnf) | (refine condK_of rfl ?_; conv => whnf) | (refine condK_of (by decide) ?_; conv => whnf) | (refine condK_of (by omega) ?_; conv => whnf) | (refine wrapK_in (w64 (by omega) (by omega)) ?_; conv => whnf))
      refine bcase_intro (fun h6 => ?_) (fun h6 => ?_) <;> conv => whnf
      · simp at h6
      repeat (first | (refine bcase_f rfl ?_; conv => whnf) | (refine bcase_t rfl ?_; conv => whnf) | (refine condK_draw (by kernel_rfl) ?_; conv => whnf) | (refine condK_of rfl ?_; conv => whnf) | (refine condK_of (by decide) ?_; conv => whnf) | (refine condK_of (by omega) ?_; conv => whnf) | (refine wrapK_in (w64 (by omega) (by omega)) ?_; conv => whnf))
      refine ⟨k + 1, by omega, by omega, le0 (le_of_cov ⟨?_, ?_, ?_, ?_, ?_, ?_, ?_, ?_, ?_, ?_, ?_, ?_, trivial⟩ ⟨?_, ?_, ?_, ?_, trivial⟩ ⟨?_, ?_, ?_, ?_⟩)⟩ <;> kernel_rfl
    · repeat (first | (refine bcase_f rfl ?_; conv => whnf) | (refine bcase_t rfl ?_; conv => whnf) | (refine condK_draw (by kernel_rfl) ?_; conv => whnf) | (refine condK_of rfl ?_; conv => whnf) | (refine condK_of (by decide) ?_; conv => whnf) | (refine condK_of (by omega) ?_; conv => whnf) | (refine wrapK_in (w64 (by omega) (by omega)) ?_; conv => whnf))
      have hcl := chkM_len m l
      refine callX_pure (same_ok (chkM m l).1 (chkM m l).1 (by omega)) ?_
      conv => whnf
      repeat (first | (refine bcase_f rfl ?_; conv => whnf) | (refine bcase_t rfl ?_; conv => whnf) | (refine condK_draw (by kernel_rfl) ?_; conv => whnf) | (refine condK_of rfl ?_; conv => whnf) | (refine condK_of (by decide) ?_; conv => whnf) | (refine condK_of (by omega) ?_; conv => whnf) | (refine wrapK_in (w64 (by omega) (by omega)) ?_; conv => whnf))
      refine bcase_t (by simp) ?_
      conv => whnf
      repeat (first | (refine bcase_f rfl ?_; conv => whnf) | (refine bcase_t rfl ?_; conv => whnf) | (refine condK_draw (by kernel_rfl) ?_; conv => whnf) | (refine condK_of rfl ?_; conv => whnf) | (refine condK_of (by decide) ?_; conv => whnf) | (refine condK_of (by omega) ?_; conv => whnf) | (refine wrapK_in (w64 (by omega) (by omega)) ?_; conv => whnf))
      refine bcase_t (by simp) ?_
      conv => whnf
      repeat (first | (refine bcase_f rfl ?_; conv => whnf) | (refine bcase_t rfl ?_; conv => whnf) | (refine condK_draw (by kernel_rfl) ?_; conv => whnf) | (refine condK_of rfl ?_; conv => whnf) | (refine condK_of (by decide) ?_; conv => whnf) | (refine condK_of (by omega) ?_; conv => whnf) | (refine wrapK_in (w64 (by omega) (by omega)) ?_; conv => whnf))
      refine bcase_t (by simp) ?_
      conv => whnf
      repeat (first | (refine bcase_f rfl ?_; conv => whnf) | (refine bcase_t rfl ?_; conv => whnf) | (refine condK_draw (by kernel_rfl) ?_; conv => whnf) | (refine condK_of rfl ?_; conv => whnf) | (refine condK_of (by decide) ?_; conv => whnf) | (refine condK_of (by omega) ?_; conv => whnf) | (refine wrapK_in (w64 (by omega) (by omega)) ?_; conv => whnf))
      refine callX_pure (apart_ok l (by omega)) ?_
      conv => whnf
      repeat (first | (refine bcase_f rfl ?_; conv => whnf) | (refine bcase_t rfl ?_; conv => whnf) | (refine condK_draw (by kernel_rfl) ?_; conv => whnf) | (refine condK_of rfl ?_; conv => whnf) | (refine condK_of (by decide) ?_; conv => whnf) | (refine condK_of (by omega) ?_; conv => whnf) | (refine wrapK_in (w64 (by omega) (by omega)) ?_; conv => whnf))
      refine callX_pure (refApart_ok l (by omega)) ?_
      conv => whnf
      repeat (first | (refine bcase_f rfl ?_; conv => whnf) | (refine bcase_t rfl ?_; conv => whnf) | (refine condK_draw (by kernel_rfl) ?_; conv => whnf) | (refine condK_of rfl ?_; conv => whnf) | (refine condK_of (by decide) ?_; conv => whnf) | (refine condK_of (by omega) ?_; conv => whnf) | (refine wrapK_in (w64 (by omega) (by omega)) ?_; conv => whnf))
      refine bcase_t (by simp) ?_
      conv => whnf
      repeat (first | (refine bcase_f rfl ?_; conv => whnf) | (refine bcase_t rfl ?_; conv => whnf) | (refine condK_draw (by kernel_rfl) ?_; conv => whnf) | (refine condK_of rfl ?_; conv => whnf) | (refine condK_of (by decide) ?_; conv => whnf) | (refine condK_of (by omega) ?_; conv => whnf) | (refine wrapK_in (w64 (by omega) (by omega)) ?_; conv => whnf))
      refine callX_pure awake_ok ?_
      conv => whnf
      repeat (first | (refine bcase_f rfl ?_; conv => whnf) | (refine bcase_t rfl ?_; conv => whnf) | (refine condK_draw (by kernel_rfl) ?_; conv => whnf) | (refine condK_of rfl ?_; conv => whnf) | (refine condK_of (by decide) ?_; conv => whnf) | (refine condK_of (by omega) ?_; conv => whnf) | (refine wrapK_in (w64 (by omega) (by omega)) ?_; conv => whnf))
      exact ret_of rfl rfl
  all_goals kernel_rfl
end Go.Lk

set_option linter.unusedSimpArgs false
set_option linter.unusedVariables false
namespace Go.Lk
open Go Go.Proofs Go.RowKit Go.Lk.St

theorem kids : Kids Try.prog (· < Try.prog.types.size) := kids_rows (by kernel_rfl) (by kernel_rfl)
theorem sizes : ∀ t e, t < Try.prog.types.size → Try.prog.underlying t = some (.slice e) → 0 < Try.prog.cellsOf e := sliceSize_out (by kernel_rfl)
theorem own : ownKnob Try.prog.godebug = none := by kernel_rfl

theorem fit_pg {m : Nat} {ds : List D} (h : Fit T m 41 ds) : ∃ x : Pg, ds = encP x ∧ True := by
  obtain ⟨k, a, r, rfl, ha, b, r2, rfl, hb, c, r3, rfl, hc, rfl⟩ := fit_struct (fs := [(0, 3), (1, 3), (2, 9)]) rfl h
  obtain ⟨x, rfl, _⟩ := fit_int (k := .i64) rfl ha
  obtain ⟨y, rfl, _⟩ := fit_int (k := .i64) rfl hb
  obtain ⟨z, rfl, _⟩ := fit_str rfl hc
  exact ⟨(x, y, z), rfl, trivial⟩
theorem fit_op {m : Nat} {ds : List D} (h : Fit T m 50 ds) : ∃ x : Op, ds = encO x ∧ True := by
  obtain ⟨k, a, r, rfl, ha, b, r2, rfl, hb, c, r3, rfl, hc, rfl⟩ := fit_struct (fs := [(0, 3), (1, 3), (2, 9)]) rfl h
  obtain ⟨x, rfl, _⟩ := fit_int (k := .i64) rfl ha
  obtain ⟨y, rfl, _⟩ := fit_int (k := .i64) rfl hb
  obtain ⟨z, rfl, _⟩ := fit_str rfl hc
  exact ⟨(x, y, z), rfl, trivial⟩
/-- an event of an input: its version is an int -/
theorem fit_ev {m : Nat} {ds : List D} (h : Fit T m 52 ds) : ∃ x : Ev, ds = encE x ∧ (-9223372036854775808 ≤ x.ver ∧ x.ver ≤ 9223372036854775807) := by
  obtain ⟨k, a, r, rfl, ha, b, r2, rfl, hb, c, r3, rfl, hc, d, r4, rfl, hd, e, r5, rfl, he, f, r6, rfl, hf, rfl⟩ := fit_struct (fs := [(0, 3), (1, 50), (4, 49), (8, 3), (9, 3), (10, 3)]) rfl h
  obtain ⟨who, rfl, _⟩ := fit_int (k := .i64) rfl ha
  obtain ⟨o, rfl, _⟩ := fit_op hb
  obtain ⟨_, x, r, rfl, hx, y, r2, rfl, hy, rfl⟩ := fit_struct (fs := [(0, 31), (1, 41)]) rfl hc
  obtain ⟨_, a1, q, rfl, ha1, b1, q2, rfl, hb1, c1, q3, rfl, hc1, rfl⟩ := fit_struct (fs := [(0, 3), (1, 3), (2, 9)]) rfl hy
  obtain ⟨er, rfl, _⟩ := fit_int (k := .i64) rfl hx
  obtain ⟨pid, rfl, _⟩ := fit_int (k := .i64) rfl ha1
  obtain ⟨ver, rfl, wv⟩ := fit_int (k := .i64) rfl hb1
  obtain ⟨text, rfl, _⟩ := fit_str rfl hc1
  obtain ⟨began, rfl, _⟩ := fit_int (k := .i64) rfl hd
  obtain ⟨done, rfl, _⟩ := fit_int (k := .i64) rfl he
  obtain ⟨ended, rfl, _⟩ := fit_int (k := .i64) rfl hf
  exact ⟨⟨who, o.1, o.2.1, o.2.2, er, pid, ver, text, began, done, ended⟩, rfl, wf_i64 wv⟩
theorem map_arg {n : Nat} {d : D} (h : FitV T n 24 d) : ∃ l : List Pg, d = .agg [.lst (l.map encP)] ∧ l.length ≤ 9223372036854775807 := by
  obtain ⟨ds, e0, h'⟩ := fitV_agg (T := T) (t := 24) rfl h
  subst e0
  obtain ⟨_, z, r, rfl, hz, rfl⟩ := fit_struct (fs := [(0, 22)]) rfl h'
  obtain ⟨l, rfl, hl, _⟩ := fit_rows (f := encP) (Q := fun _ => True) (e := 41) rfl hz fun m x h => fit_pg h
  exact ⟨l, rfl, Nat.le_trans hl (by decide)⟩
theorem evs_arg {n : Nat} {d : D} (h : FitV T n 25 d) : ∃ l : List Ev, d = .lst (l.map encE) ∧ l.length ≤ 9223372036854775807 ∧ ∀ x ∈ l, -9223372036854775808 ≤ x.ver ∧ x.ver ≤ 9223372036854775807 := by
  obtain ⟨l, rfl, hl, hv⟩ := fitV_rows (f := encE) (Q := fun x => -9223372036854775808 ≤ x.ver ∧ x.ver ≤ 9223372036854775807) (e := 52) rfl h fun m x hx => fit_ev hx
  exact ⟨l, rfl, Nat.le_trans hl (by decide), hv⟩
theorem historyChecks_law : ∀ dds, FitAll T Try.f3.params.toList dds → ACall Try.prog 3 dds (.bool true) := by
  rintro dds ⟨n1, d1, r1, rfl, h1, n2, d2, r2, rfl, h2, rfl⟩
  obtain ⟨m, rfl, hm⟩ := map_arg h1
  obtain ⟨l, rfl, hl, _⟩ := evs_arg h2
  exact checks_ok m l hm
end Go.Lk

