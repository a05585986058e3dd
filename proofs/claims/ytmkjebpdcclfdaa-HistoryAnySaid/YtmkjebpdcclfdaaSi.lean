/-
  Check, awake.
-/
import Derived.Test.YtmkjebpdcclfdaaSh
import Derived.Test.YtmkjebpdcclfdaaSg
set_option linter.unusedSectionVars false
set_option linter.unusedSimpArgs false
set_option linter.unusedVariables false
set_option linter.unnecessarySimpa false
namespace Go.Lk
open Go Go.Proofs Go.RowKit Go.Lk.St

def opE (v : Ev) : Op := (v.kind, v.id, v.body)
def resE (v : Ev) : Res := (v.e, (v.pid, v.ver, v.text))
def failR : Res := (8, zP)
noncomputable def chkGo (m : List Pg) (i : Nat) : List Ev → List Pg × Nat × Int
  | [] => (m, i, 0)
  | v :: r => if resE v = failR then chkGo m (i + 1) r else if (doM m (opE v)).2 = resE v then chkGo (doM m (opE v)).1 (i + 1) r else (m, i, 2)
noncomputable def chkM (m : List Pg) (l : List Ev) : List Pg × Nat × Int :=
  if 400 < l.length then (m, 0, 5) else if mapB m = false then (m, 0, 1) else if apB l = false then (m, 0, 2) else chkGo m 0 (srt leD l)
theorem go_fail {m : List Pg} {k : Nat} {s : List Ev} (hk : k < s.length) (h : resE s[k] = failR) : chkGo m k (s.drop k) = chkGo m (k + 1) (s.drop (k + 1)) := by
  rw [List.drop_eq_getElem_cons hk, chkGo, if_pos h]
theorem go_yes {m : List Pg} {k : Nat} {s : List Ev} (hk : k < s.length) (h : resE s[k] ≠ failR) (h2 : (doM m (opE s[k])).2 = resE s[k]) : chkGo m k (s.drop k) = chkGo (doM m (opE s[k])).1 (k + 1) (s.drop (k + 1)) := by
  rw [List.drop_eq_getElem_cons hk, chkGo, if_neg h, if_pos h2]
theorem go_no {m : List Pg} {k : Nat} {s : List Ev} (hk : k < s.length) (h : resE s[k] ≠ failR) (h2 : (doM m (opE s[k])).2 ≠ resE s[k]) : chkGo m k (s.drop k) = (m, k, 2) := by
  rw [List.drop_eq_getElem_cons hk, chkGo, if_neg h, if_neg h2]
theorem go_end {m : List Pg} {k : Nat} {s : List Ev} (hk : s.length ≤ k) : chkGo m k (s.drop k) = (m, k, 0) := by
  rw [List.drop_of_length_le hk, chkGo]

set_option maxHeartbeats 4000000 in
theorem check_ok (m : List Pg) (l : List Ev) (hm : m.length ≤ 500) (hl : l.length ≤ 1000) : ACall Try.prog 13 [.agg [.lst (m.map encP)], .lst (l.map encE)] (.tup [.agg [.lst ((chkM m l).1.map encP)], .int .i64 (chkM m l).2.1, .int .i64 (chkM m l).2.2]) := by
  refine acall_of Try.func13 2 rfl (by kernel_rfl) ?_
  conv => whnf
  have hml : (l.map encE).length = l.length := List.length_map ..
  repeat (first | (refine bcase_f rfl ?_; conv => whnf) | (refine bcase_t rfl ?_; conv => whnf) | (refine condK_draw (by kernel_rfl) ?_; conv => whnf) | (refine condK_of rfl ?_; conv => whnf) | (refine condK_of (by decide) ?_; conv => whnf) | (refine condK_of (by omega) ?_; conv => whnf) | (refine wrapK_in (w64 (by omega) (by omega)) ?_; conv => whnf))
  refine bcase_p (fun h1 => ?_) (fun h1 => ?_) <;> conv => whnf
  · repeat (first | (refine bcase_f rfl ?_; conv => whnf) | (refine bcase_t rfl ?_; conv => whnf) | (refine condK_draw (by kernel_rfl) ?_; conv => whnf) | (refine condK_of rfl ?_; conv => whnf) | (refine condK_of (by decide) ?_; conv => whnf) | (refine condK_of (by omega) ?_; conv => whnf) | (refine wrapK_in (w64 (by omega) (by omega)) ?_; conv => whnf))
    have e : chkM m l = (m, 0, 5) := by rw [chkM, if_pos (by omega)]
    rw [e]
    exact ret_of rfl rfl
  repeat (first | (refine bcase_f rfl ?_; conv => whnf) | (refine bcase_t rfl ?_; conv => whnf) | (refine condK_draw (by kernel_rfl) ?_; conv => whnf) | (refine condK_of rfl ?_; conv => whnf) | (refine condK_of (by decide) ?_; conv => whnf) | (refine condK_of (by omega) ?_; conv => whnf) | (refine wrapK_in (w64 (by omega) (by omega)) ?_; conv => whnf))
  refine callX_pure (opsRight_ok m (by omega)) ?_
  conv => whnf
  repeat (first | (refine bcase_f rfl ?_; conv => whnf) | (refine bcase_t rfl ?_; conv => whnf) | (refine condK_draw (by kernel_rfl) ?_; conv => whnf) | (refine condK_of rfl ?_; conv => whnf) | (refine condK_of (by decide) ?_; conv => whnf) | (refine condK_of (by omega) ?_; conv => whnf) | (refine wrapK_in (w64 (by omega) (by omega)) ?_; conv => whnf))
  refine bcase_intro (fun h2 => ?_) (fun h2 => ?_) <;> conv => whnf
  · repeat (first | (refine bcase_f rfl ?_; conv => whnf) | (refine bcase_t rfl ?_; conv => whnf) | (refine condK_draw (by kernel_rfl) ?_; conv => whnf) | (refine condK_of rfl ?_; conv => whnf) | (refine condK_of (by decide) ?_; conv => whnf) | (refine condK_of (by omega) ?_; conv => whnf) | (refine wrapK_in (w64 (by omega) (by omega)) ?_; conv => whnf))
    have e : chkM m l = (m, 0, 1) := by rw [chkM, if_neg (by omega), if_pos (by simpa using h2)]
    rw [e]
    exact ret_of rfl rfl
  repeat (first | (refine bcase_f rfl ?_; conv => whnf) | (refine bcase_t rfl ?_; conv => whnf) | (refine condK_draw (by kernel_rfl) ?_; conv => whnf) | (refine condK_of rfl ?_; conv => whnf) | (refine condK_of (by decide) ?_; conv => whnf) | (refine condK_of (by omega) ?_; conv => whnf) | (refine wrapK_in (w64 (by omega) (by omega)) ?_; conv => whnf))
  refine callX_pure (apart_ok l (by omega)) ?_
  conv => whnf
  repeat (first | (refine bcase_f rfl ?_; conv => whnf) | (refine bcase_t rfl ?_; conv => whnf) | (refine condK_draw (by kernel_rfl) ?_; conv => whnf) | (refine condK_of rfl ?_; conv => whnf) | (refine condK_of (by decide) ?_; conv => whnf) | (refine condK_of (by omega) ?_; conv => whnf) | (refine wrapK_in (w64 (by omega) (by omega)) ?_; conv => whnf))
  refine bcase_intro (fun h3 => ?_) (fun h3 => ?_) <;> conv => whnf
  · repeat (first | (refine bcase_f rfl ?_; conv => whnf) | (refine bcase_t rfl ?_; conv => whnf) | (refine condK_draw (by kernel_rfl) ?_; conv => whnf) | (refine condK_of rfl ?_; conv => whnf) | (refine condK_of (by decide) ?_; conv => whnf) | (refine condK_of (by omega) ?_; conv => whnf) | (refine wrapK_in (w64 (by omega) (by omega)) ?_; conv => whnf))
    have e : chkM m l = (m, 0, 2) := by rw [chkM, if_neg (by omega), if_neg (by simpa using h2), if_pos (by simpa using h3)]
    rw [e]
    exact ret_of rfl rfl
  repeat (first | (refine bcase_f rfl ?_; conv => whnf) | (refine bcase_t rfl ?_; conv => whnf) | (refine condK_draw (by kernel_rfl) ?_; conv => whnf) | (refine condK_of rfl ?_; conv => whnf) | (refine condK_of (by decide) ?_; conv => whnf) | (refine condK_of (by omega) ?_; conv => whnf) | (refine wrapK_in (w64 (by omega) (by omega)) ?_; conv => whnf))
  refine callX_own (sort_ok l (by omega)) ?_
  conv => whnf
  repeat (first | (refine bcase_f rfl ?_; conv => whnf) | (refine bcase_t rfl ?_; conv => whnf) | (refine condK_draw (by kernel_rfl) ?_; conv => whnf) | (refine condK_of rfl ?_; conv => whnf) | (refine condK_of (by decide) ?_; conv => whnf) | (refine condK_of (by omega) ?_; conv => whnf) | (refine wrapK_in (w64 (by omega) (by omega)) ?_; conv => whnf))
  have eC : chkM m l = chkGo m 0 (srt leD l) := by rw [chkM, if_neg (by omega), if_neg (by simpa using h2), if_neg (by simpa using h3)]
  obtain ⟨s, hs⟩ : ∃ s, srt leD l = s := ⟨_, rfl⟩
  have hsl : s.length = l.length := by rw [← hs, srt_len]
  have hms : (s.map encE).length = s.length := List.length_map ..
  rw [hs] at eC
  rw [hs, eC]
  refine aloop (ι := Nat × List Pg) (fun k => [(1, .d (.lst (l.map encE))), (2, .ptr 2 0 0), (4, .ptr 4 0 0), (24, .own 24), (25, .d (.int .i64 (s.map encE).length)), (26, .d (.int .i64 k.1))]) (fun k => [(2, .box [.d (.lst (k.2.map encP))] false), (4, .box [.nil] false), (24, .row (s.map encE) 11 false)])
    (fun k => k.1 ≤ s.length ∧ k.2.length ≤ 500 + k.1 ∧ chkGo m 0 s = chkGo k.2 k.1 (s.drop k.1)) (fun k => s.length - k.1) (0, m) ⟨by omega, by omega, rfl⟩ (le0 (le_of_cov ⟨rfl, rfl, rfl, rfl, rfl, rfl, trivial⟩ ⟨rfl, rfl, rfl, trivial⟩ ⟨rfl, rfl, rfl, rfl⟩)) ?_
  rintro ⟨k, n⟩ ⟨hk, hn, hC⟩
  simp only at hk hn hC ⊢
  rw [hC]
  conv => whnf
  refine bcase_p (fun h5 => ?_) (fun h5 => ?_) <;> conv => whnf
  · have hk2 : k < s.length := by omega
    refine idxK_nat (by omega) ?_
    conv => whnf
    refine getRow_of (x := encE s[k]) (by simp [hk2]) ?_
    conv => whnf
    repeat (first | (refine bcase_f rfl ?_; conv => whnf) | (refine bcase_t rfl ?_; conv => whnf) | (refine condK_draw (by kernel_rfl) ?_; conv => whnf) | (refine condK_of rfl ?_; conv => whnf) | (refine condK_of (by decide) ?_; conv => whnf) | (refine condK_of (by omega) ?_; conv => whnf) | (refine wrapK_in (w64 (by omega) (by omega)) ?_; conv => whnf))
    refine bcase_intro (fun h6 => ?_) (fun h6 => ?_) <;> conv => whnf
    · have hf : resE s[k] = failR := by
        simp at h6
        simp [resE, failR, zP, h6]
      rw [go_fail hk2 hf]
      repeat (first | (refine bcase_f rfl ?_; conv => whnf) | (refine bcase_t rfl ?_; conv => whnf) | (refine condK_draw (by kernel_rfl) ?_; conv => whnf) | (refine condK_of rfl ?_; conv => whnf) | (refine condK_of (by decide) ?_; conv => whnf) | (refine condK_of (by omega) ?_; conv => whnf) | (refine wrapK_in (w64 (by omega) (by omega)) ?_; conv => whnf))
      refine ⟨(k + 1, n), ⟨by simp only []; omega, by simp only []; omega, rfl⟩, by simp only []; omega, le0 (le_of_cov ⟨?_, ?_, ?_, ?_, ?_, ?_, trivial⟩ ⟨?_, ?_, ?_, trivial⟩ ⟨?_, ?_, ?_, ?_⟩)⟩ <;> kernel_rfl
    · have hf : resE s[k] ≠ failR := by
        intro e
        simp [resE, failR, zP, Prod.ext_iff] at e
        simp [e] at h6
      repeat (first | (refine bcase_f rfl ?_; conv => whnf) | (refine bcase_t rfl ?_; conv => whnf) | (refine condK_draw (by kernel_rfl) ?_; conv => whnf) | (refine condK_of rfl ?_; conv => whnf) | (refine condK_of (by decide) ?_; conv => whnf) | (refine condK_of (by omega) ?_; conv => whnf) | (refine wrapK_in (w64 (by omega) (by omega)) ?_; conv => whnf))
      refine callX_pure (opsDo_ok n (opE s[k]) (by omega)) ?_
      conv => whnf
      repeat (first | (refine bcase_f rfl ?_; conv => whnf) | (refine bcase_t rfl ?_; conv => whnf) | (refine condK_draw (by kernel_rfl) ?_; conv => whnf) | (refine condK_of rfl ?_; conv => whnf) | (refine condK_of (by decide) ?_; conv => whnf) | (refine condK_of (by omega) ?_; conv => whnf) | (refine wrapK_in (w64 (by omega) (by omega)) ?_; conv => whnf))
      refine bcase_intro (fun h7 => ?_) (fun h7 => ?_) <;> conv => whnf
      · have hr : (doM n (opE s[k])).2 ≠ resE s[k] := by
          intro e
          rw [e] at h7
          simp [resE] at h7
        rw [go_no hk2 hf hr]
        repeat (first | (refine bcase_f rfl ?_; conv => whnf) | (refine bcase_t rfl ?_; conv => whnf) | (refine condK_draw (by kernel_rfl) ?_; conv => whnf) | (refine condK_of rfl ?_; conv => whnf) | (refine condK_of (by decide) ?_; conv => whnf) | (refine condK_of (by omega) ?_; conv => whnf) | (refine wrapK_in (w64 (by omega) (by omega)) ?_; conv => whnf))
        exact ret_of rfl rfl
      · have hr : (doM n (opE s[k])).2 = resE s[k] := by
          simp at h7
          exact Prod.ext h7.1 (Prod.ext h7.2.1 (Prod.ext h7.2.2.1 h7.2.2.2))
        rw [go_yes hk2 hf hr]
        have hd2 := doM_len n (opE s[k])
        repeat (first | (refine bcase_f rfl ?_; conv => whnf) | (refine bcase_t rfl ?_; conv => whnf) | (refine condK_draw (by kernel_rfl) ?_; conv => whnf) | (refine condK_of rfl ?_; conv => whnf) | (refine condK_of (by decide) ?_; conv => whnf) | (refine condK_of (by omega) ?_; conv => whnf) | (refine wrapK_in (w64 (by omega) (by omega)) ?_; conv => whnf))
        refine ⟨(k + 1, (doM n (opE s[k])).1), ⟨by simp only []; omega, by simp only []; omega, rfl⟩, by simp only []; omega, le0 (le_of_cov ⟨?_, ?_, ?_, ?_, ?_, ?_, trivial⟩ ⟨?_, ?_, ?_, trivial⟩ ⟨?_, ?_, ?_, ?_⟩)⟩ <;> kernel_rfl
  · repeat (first | (refine bcase_f rfl ?_; conv => whnf) | (refine bcase_t rfl ?_; conv => whnf) | (refine condK_draw (by kernel_rfl) ?_; conv => whnf) | (refine condK_of rfl ?_; conv => whnf) | (refine condK_of (by decide) ?_; conv => whnf) | (refine condK_of (by omega) ?_; conv => whnf) | (refine wrapK_in (w64 (by omega) (by omega)) ?_; conv => whnf))
    rw [go_end (by omega)]
    have ek : k = (l.map encE).length := by omega
    subst ek
    exact ret_of rfl rfl
end Go.Lk

set_option linter.unusedSimpArgs false
set_option linter.unusedVariables false
set_option linter.unnecessarySimpa false
namespace Go.Lk
open Go Go.Proofs Go.RowKit Go.Lk.St

theorem refDo2_ok (l : List Pg) (o : Op) (hl : l.length ≤ 1000) : ACall Try.prog 24 [.lst (l.map encP), .agg (encO o)] (.tup [.lst ((doM l o).1.map encP), .agg (encR (doM l o).2)]) := by
  rw [← rdM_eq]; exact refDo_ok l o hl

set_option maxHeartbeats 4000000 in
theorem refCheck_ok (m : List Pg) (l : List Ev) (hm : m.length ≤ 500) (hl : l.length ≤ 1000) : ACall Try.prog 14 [.lst (m.map encP), .lst (l.map encE)] (.tup [.lst ((chkM m l).1.map encP), .int .i64 (chkM m l).2.1, .int .i64 (chkM m l).2.2]) := by
  refine acall_of Try.func14 2 rfl (by kernel_rfl) ?_
  conv => whnf
  have hml : (l.map encE).length = l.length := List.length_map ..
  repeat (first | (refine bcase_f rfl ?_; conv => whnf) | (refine bcase_t rfl ?_; conv => whnf) | (refine condK_draw (by kernel_rfl) ?_; conv => whnf) | (refine condK_of rfl ?_; conv => whnf) | (refine condK_of (by decide) ?_; conv => whnf) | (refine condK_of (by omega) ?_; conv => whnf) | (refine wrapK_in (w64 (by omega) (by omega)) ?_; conv => whnf))
  refine bcase_p (fun h1 => ?_) (fun h1 => ?_) <;> conv => whnf
  · repeat (first | (refine bcase_f rfl ?_; conv => whnf) | (refine bcase_t rfl ?_; conv => whnf) | (refine condK_draw (by kernel_rfl) ?_; conv => whnf) | (refine condK_of rfl ?_; conv => whnf) | (refine condK_of (by decide) ?_; conv => whnf) | (refine condK_of (by omega) ?_; conv => whnf) | (refine wrapK_in (w64 (by omega) (by omega)) ?_; conv => whnf))
    have e : chkM m l = (m, 0, 5) := by rw [chkM, if_pos (by omega)]
    rw [e]
    exact ret_of rfl rfl
  repeat (first | (refine bcase_f rfl ?_; conv => whnf) | (refine bcase_t rfl ?_; conv => whnf) | (refine condK_draw (by kernel_rfl) ?_; conv => whnf) | (refine condK_of rfl ?_; conv => whnf) | (refine condK_of (by decide) ?_; conv => whnf) | (refine condK_of (by omega) ?_; conv => whnf) | (refine wrapK_in (w64 (by omega) (by omega)) ?_; conv => whnf))
  refine callX_pure (refRight_ok m (by omega)) ?_
  conv => whnf
  repeat (first | (refine bcase_f rfl ?_; conv => whnf) | (refine bcase_t rfl ?_; conv => whnf) | (refine condK_draw (by kernel_rfl) ?_; conv => whnf) | (refine condK_of rfl ?_; conv => whnf) | (refine condK_of (by decide) ?_; conv => whnf) | (refine condK_of (by omega) ?_; conv => whnf) | (refine wrapK_in (w64 (by omega) (by omega)) ?_; conv => whnf))
  refine bcase_intro (fun h2 => ?_) (fun h2 => ?_) <;> conv => whnf
  · repeat (first | (refine bcase_f rfl ?_; conv => whnf) | (refine bcase_t rfl ?_; conv => whnf) | (refine condK_draw (by kernel_rfl) ?_; conv => whnf) | (refine condK_of rfl ?_; conv => whnf) | (refine condK_of (by decide) ?_; conv => whnf) | (refine condK_of (by omega) ?_; conv => whnf) | (refine wrapK_in (w64 (by omega) (by omega)) ?_; conv => whnf))
    have e : chkM m l = (m, 0, 1) := by rw [chkM, if_neg (by omega), if_pos (by simpa using h2)]
    rw [e]
    exact ret_of rfl rfl
  repeat (first | (refine bcase_f rfl ?_; conv => whnf) | (refine bcase_t rfl ?_; conv => whnf) | (refine condK_draw (by kernel_rfl) ?_; conv => whnf) | (refine condK_of rfl ?_; conv => whnf) | (refine condK_of (by decide) ?_; conv => whnf) | (refine condK_of (by omega) ?_; conv => whnf) | (refine wrapK_in (w64 (by omega) (by omega)) ?_; conv => whnf))
  refine callX_pure (refApart_ok l (by omega)) ?_
  conv => whnf
  repeat (first | (refine bcase_f rfl ?_; conv => whnf) | (refine bcase_t rfl ?_; conv => whnf) | (refine condK_draw (by kernel_rfl) ?_; conv => whnf) | (refine condK_of rfl ?_; conv => whnf) | (refine condK_of (by decide) ?_; conv => whnf) | (refine condK_of (by omega) ?_; conv => whnf) | (refine wrapK_in (w64 (by omega) (by omega)) ?_; conv => whnf))
  refine bcase_intro (fun h3 => ?_) (fun h3 => ?_) <;> conv => whnf
  · repeat (first | (refine bcase_f rfl ?_; conv => whnf) | (refine bcase_t rfl ?_; conv => whnf) | (refine condK_draw (by kernel_rfl) ?_; conv => whnf) | (refine condK_of rfl ?_; conv => whnf) | (refine condK_of (by decide) ?_; conv => whnf) | (refine condK_of (by omega) ?_; conv => whnf) | (refine wrapK_in (w64 (by omega) (by omega)) ?_; conv => whnf))
    have e : chkM m l = (m, 0, 2) := by rw [chkM, if_neg (by omega), if_neg (by simpa using h2), if_pos (by simpa using h3)]
    rw [e]
    exact ret_of rfl rfl
  repeat (first | (refine bcase_f rfl ?_; conv => whnf) | (refine bcase_t rfl ?_; conv => whnf) | (refine condK_draw (by kernel_rfl) ?_; conv => whnf) | (refine condK_of rfl ?_; conv => whnf) | (refine condK_of (by decide) ?_; conv => whnf) | (refine condK_of (by omega) ?_; conv => whnf) | (refine wrapK_in (w64 (by omega) (by omega)) ?_; conv => whnf))
  refine callX_own (refSort_ok l (by omega)) ?_
  conv => whnf
  repeat (first | (refine bcase_f rfl ?_; conv => whnf) | (refine bcase_t rfl ?_; conv => whnf) | (refine condK_draw (by kernel_rfl) ?_; conv => whnf) | (refine condK_of rfl ?_; conv => whnf) | (refine condK_of (by decide) ?_; conv => whnf) | (refine condK_of (by omega) ?_; conv => whnf) | (refine wrapK_in (w64 (by omega) (by omega)) ?_; conv => whnf))
  have eC : chkM m l = chkGo m 0 (srt leD l) := by rw [chkM, if_neg (by omega), if_neg (by simpa using h2), if_neg (by simpa using h3)]
  obtain ⟨s, hs⟩ : ∃ s, srt leD l = s := ⟨_, rfl⟩
  have hsl : s.length = l.length := by rw [← hs, srt_len]
  have hms : (s.map encE).length = s.length := List.length_map ..
  rw [hs] at eC
  rw [hs, eC]
  refine aloop (ι := Nat × List Pg) (fun k => [(0, .d (.lst (k.2.map encP))), (1, .d (.lst (l.map encE))), (7, .own 24), (8, .d (.int .i64 k.1))]) (fun k => [(24, .row (s.map encE) 11 false)])
    (fun k => k.1 ≤ s.length ∧ k.2.length ≤ 500 + k.1 ∧ chkGo m 0 s = chkGo k.2 k.1 (s.drop k.1)) (fun k => s.length - k.1) (0, m) ⟨by omega, by omega, rfl⟩ (le0 (le_of_cov ⟨rfl, rfl, rfl, rfl, trivial⟩ ⟨rfl, trivial⟩ ⟨rfl, rfl, rfl, rfl⟩)) ?_
  rintro ⟨k, n⟩ ⟨hk, hn, hC⟩
  simp only at hk hn hC ⊢
  rw [hC]
  conv => whnf
  refine bcase_p (fun h5 => ?_) (fun h5 => ?_) <;> conv => whnf
  · have hk2 : k < s.length := by omega
    refine idxK_nat (by omega) ?_
    conv => whnf
    refine getRow_of (x := encE s[k]) (by simp [hk2]) ?_
    conv => whnf
    repeat (first | (refine bcase_f rfl ?_; conv => whnf) | (refine bcase_t rfl ?_; conv => whnf) | (refine condK_draw (by kernel_rfl) ?_; conv => whnf) | (refine condK_of rfl ?_; conv => whnf) | (refine condK_of (by decide) ?_; conv => whnf) | (refine condK_of (by omega) ?_; conv => whnf) | (refine wrapK_in (w64 (by omega) (by omega)) ?_; conv => whnf))
    refine bcase_p (fun q1 => ?_) (fun q1 => ?_) <;> conv => whnf
    · repeat (first | (refine bcase_f rfl ?_; conv => whnf) | (refine bcase_t rfl ?_; conv => whnf) | (refine condK_draw (by kernel_rfl) ?_; conv => whnf) | (refine condK_of rfl ?_; conv => whnf) | (refine condK_of (by decide) ?_; conv => whnf) | (refine condK_of (by omega) ?_; conv => whnf) | (refine wrapK_in (w64 (by omega) (by omega)) ?_; conv => whnf))
      refine idxK_nat (by omega) ?_
      conv => whnf
      refine getRow_of (x := encE s[k]) (by simp [hk2]) ?_
      conv => whnf
      repeat (first | (refine bcase_f rfl ?_; conv => whnf) | (refine bcase_t rfl ?_; conv => whnf) | (refine condK_draw (by kernel_rfl) ?_; conv => whnf) | (refine condK_of rfl ?_; conv => whnf) | (refine condK_of (by decide) ?_; conv => whnf) | (refine condK_of (by omega) ?_; conv => whnf) | (refine wrapK_in (w64 (by omega) (by omega)) ?_; conv => whnf))
      refine bcase_p (fun q2 => ?_) (fun q2 => ?_) <;> conv => whnf
      · repeat (first | (refine bcase_f rfl ?_; conv => whnf) | (refine bcase_t rfl ?_; conv => whnf) | (refine condK_draw (by kernel_rfl) ?_; conv => whnf) | (refine condK_of rfl ?_; conv => whnf) | (refine condK_of (by decide) ?_; conv => whnf) | (refine condK_of (by omega) ?_; conv => whnf) | (refine wrapK_in (w64 (by omega) (by omega)) ?_; conv => whnf))
        refine idxK_nat (by omega) ?_
        conv => whnf
        refine getRow_of (x := encE s[k]) (by simp [hk2]) ?_
        conv => whnf
        repeat (first | (refine bcase_f rfl ?_; conv => whnf) | (refine bcase_t rfl ?_; conv => whnf) | (refine condK_draw (by kernel_rfl) ?_; conv => whnf) | (refine condK_of rfl ?_; conv => whnf) | (refine condK_of (by decide) ?_; conv => whnf) | (refine condK_of (by omega) ?_; conv => whnf) | (refine wrapK_in (w64 (by omega) (by omega)) ?_; conv => whnf))
        refine bcase_p (fun q3 => ?_) (fun q3 => ?_) <;> conv => whnf
        · repeat (first | (refine bcase_f rfl ?_; conv => whnf) | (refine bcase_t rfl ?_; conv => whnf) | (refine condK_draw (by kernel_rfl) ?_; conv => whnf) | (refine condK_of rfl ?_; conv => whnf) | (refine condK_of (by decide) ?_; conv => whnf) | (refine condK_of (by omega) ?_; conv => whnf) | (refine wrapK_in (w64 (by omega) (by omega)) ?_; conv => whnf))
          refine idxK_nat (by omega) ?_
          conv => whnf
          refine getRow_of (x := encE s[k]) (by simp [hk2]) ?_
          conv => whnf
          repeat (first | (refine bcase_f rfl ?_; conv => whnf) | (refine bcase_t rfl ?_; conv => whnf) | (refine condK_draw (by kernel_rfl) ?_; conv => whnf) | (refine condK_of rfl ?_; conv => whnf) | (refine condK_of (by decide) ?_; conv => whnf) | (refine condK_of (by omega) ?_; conv => whnf) | (refine wrapK_in (w64 (by omega) (by omega)) ?_; conv => whnf))
          refine bcase_p (fun q4 => ?_) (fun q4 => ?_) <;> conv => whnf
          · have hf : resE s[k] = failR := Prod.ext q1 (Prod.ext q2 (Prod.ext q3 q4))
            rw [go_fail hk2 hf]
            repeat (first | (refine bcase_f rfl ?_; conv => whnf) | (refine bcase_t rfl ?_; conv => whnf) | (refine condK_draw (by kernel_rfl) ?_; conv => whnf) | (refine condK_of rfl ?_; conv => whnf) | (refine condK_of (by decide) ?_; conv => whnf) | (refine condK_of (by omega) ?_; conv => whnf) | (refine wrapK_in (w64 (by omega) (by omega)) ?_; conv => whnf))
            refine ⟨(k + 1, n), ⟨by simp only []; omega, by simp only []; omega, rfl⟩, by simp only []; omega, le0 (le_of_cov ⟨?_, ?_, ?_, ?_, trivial⟩ ⟨?_, trivial⟩ ⟨?_, ?_, ?_, ?_⟩)⟩ <;> kernel_rfl
          repeat (first | (refine bcase_f rfl ?_; conv => whnf) | (refine bcase_t rfl ?_; conv => whnf) | (refine condK_draw (by kernel_rfl) ?_; conv => whnf) | (refine condK_of rfl ?_; conv => whnf) | (refine condK_of (by decide) ?_; conv => whnf) | (refine condK_of (by omega) ?_; conv => whnf) | (refine wrapK_in (w64 (by omega) (by omega)) ?_; conv => whnf))
          have hf : resE s[k] ≠ failR := (fun e => q4 (congrArg (fun r : Res => r.2.2.2) e))
          refine idxK_nat (by omega) ?_
          conv => whnf
          refine getRow_of (x := encE s[k]) (by simp [hk2]) ?_
          conv => whnf
          repeat (first | (refine bcase_f rfl ?_; conv => whnf) | (refine bcase_t rfl ?_; conv => whnf) | (refine condK_draw (by kernel_rfl) ?_; conv => whnf) | (refine condK_of rfl ?_; conv => whnf) | (refine condK_of (by decide) ?_; conv => whnf) | (refine condK_of (by omega) ?_; conv => whnf) | (refine wrapK_in (w64 (by omega) (by omega)) ?_; conv => whnf))
          refine callX_pure (refDo2_ok n (opE s[k]) (by omega)) ?_
          conv => whnf
          repeat (first | (refine bcase_f rfl ?_; conv => whnf) | (refine bcase_t rfl ?_; conv => whnf) | (refine condK_draw (by kernel_rfl) ?_; conv => whnf) | (refine condK_of rfl ?_; conv => whnf) | (refine condK_of (by decide) ?_; conv => whnf) | (refine condK_of (by omega) ?_; conv => whnf) | (refine wrapK_in (w64 (by omega) (by omega)) ?_; conv => whnf))
          refine idxK_nat (by omega) ?_
          conv => whnf
          refine getRow_of (x := encE s[k]) (by simp [hk2]) ?_
          conv => whnf
          repeat (first | (refine bcase_f rfl ?_; conv => whnf) | (refine bcase_t rfl ?_; conv => whnf) | (refine condK_draw (by kernel_rfl) ?_; conv => whnf) | (refine condK_of rfl ?_; conv => whnf) | (refine condK_of (by decide) ?_; conv => whnf) | (refine condK_of (by omega) ?_; conv => whnf) | (refine wrapK_in (w64 (by omega) (by omega)) ?_; conv => whnf))
          refine bcase_n (fun a1 => ?_) (fun a1 => ?_) <;> conv => whnf
          · have hr : (doM n (opE s[k])).2 ≠ resE s[k] := fun e => a1 (by rw [e]; rfl)
            rw [go_no hk2 hf hr]
            repeat (first | (refine bcase_f rfl ?_; conv => whnf) | (refine bcase_t rfl ?_; conv => whnf) | (refine condK_draw (by kernel_rfl) ?_; conv => whnf) | (refine condK_of rfl ?_; conv => whnf) | (refine condK_of (by decide) ?_; conv => whnf) | (refine condK_of (by omega) ?_; conv => whnf) | (refine wrapK_in (w64 (by omega) (by omega)) ?_; conv => whnf))
            exact ret_of rfl rfl
          repeat (first | (refine bcase_f rfl ?_; conv => whnf) | (refine bcase_t rfl ?_; conv => whnf) | (refine condK_draw (by kernel_rfl) ?_; conv => whnf) | (refine condK_of rfl ?_; conv => whnf) | (refine condK_of (by decide) ?_; conv => whnf) | (refine condK_of (by omega) ?_; conv => whnf) | (refine wrapK_in (w64 (by omega) (by omega)) ?_; conv => whnf))
          refine idxK_nat (by omega) ?_
          conv => whnf
          refine getRow_of (x := encE s[k]) (by simp [hk2]) ?_
          conv => whnf
          repeat (first | (refine bcase_f rfl ?_; conv => whnf) | (refine bcase_t rfl ?_; conv => whnf) | (refine condK_draw (by kernel_rfl) ?_; conv => whnf) | (refine condK_of rfl ?_; conv => whnf) | (refine condK_of (by decide) ?_; conv => whnf) | (refine condK_of (by omega) ?_; conv => whnf) | (refine wrapK_in (w64 (by omega) (by omega)) ?_; conv => whnf))
          refine bcase_intro (fun h7 => ?_) (fun h7 => ?_) <;> conv => whnf
          · have hr : (doM n (opE s[k])).2 ≠ resE s[k] := by
              intro e
              rw [e] at h7
              simp [resE] at h7
            rw [go_no hk2 hf hr]
            repeat (first | (refine bcase_f rfl ?_; conv => whnf) | (refine bcase_t rfl ?_; conv => whnf) | (refine condK_draw (by kernel_rfl) ?_; conv => whnf) | (refine condK_of rfl ?_; conv => whnf) | (refine condK_of (by decide) ?_; conv => whnf) | (refine condK_of (by omega) ?_; conv => whnf) | (refine wrapK_in (w64 (by omega) (by omega)) ?_; conv => whnf))
            exact ret_of rfl rfl
          · have hr : (doM n (opE s[k])).2 = resE s[k] := by
              simp at h7
              exact Prod.ext a1 (Prod.ext h7.1 (Prod.ext h7.2.1 h7.2.2))
            rw [go_yes hk2 hf hr]
            have hd2 := doM_len n (opE s[k])
            repeat (first | (refine bcase_f rfl ?_; conv => whnf) | (refine bcase_t rfl ?_; conv => whnf) | (refine condK_draw (by kernel_rfl) ?_; conv => whnf) | (refine condK_of rfl ?_; conv => whnf) | (refine condK_of (by decide) ?_; conv => whnf) | (refine condK_of (by omega) ?_; conv => whnf) | (refine wrapK_in (w64 (by omega) (by omega)) ?_; conv => whnf))
            refine ⟨(k + 1, (doM n (opE s[k])).1), ⟨by simp only []; omega, by simp only []; omega, rfl⟩, by simp only []; omega, le0 (le_of_cov ⟨?_, ?_, ?_, ?_, trivial⟩ ⟨?_, trivial⟩ ⟨?_, ?_, ?_, ?_⟩)⟩ <;> kernel_rfl
        repeat (first | (refine bcase_f rfl ?_; conv => whnf) | (refine bcase_t rfl ?_; conv => whnf) | (refine condK_draw (by kernel_rfl) ?_; conv => whnf) | (refine condK_of rfl ?_; conv => whnf) | (refine condK_of (by decide) ?_; conv => whnf) | (refine condK_of (by omega) ?_; conv => whnf) | (refine wrapK_in (w64 (by omega) (by omega)) ?_; conv => whnf))
        have hf : resE s[k] ≠ failR := (fun e => q3 (congrArg (fun r : Res => r.2.2.1) e))
        refine idxK_nat (by omega) ?_
        conv => whnf
        refine getRow_of (x := encE s[k]) (by simp [hk2]) ?_
        conv => whnf
        repeat (first | (refine bcase_f rfl ?_; conv => whnf) | (refine bcase_t rfl ?_; conv => whnf) | (refine condK_draw (by kernel_rfl) ?_; conv => whnf) | (refine condK_of rfl ?_; conv => whnf) | (refine condK_of (by decide) ?_; conv => whnf) | (refine condK_of (by omega) ?_; conv => whnf) | (refine wrapK_in (w64 (by omega) (by omega)) ?_; conv => whnf))
        refine callX_pure (refDo2_ok n (opE s[k]) (by omega)) ?_
        conv => whnf
        repeat (first | (refine bcase_f rfl ?_; conv => whnf) | (refine bcase_t rfl ?_; conv => whnf) | (refine condK_draw (by kernel_rfl) ?_; conv => whnf) | (refine condK_of rfl ?_; conv => whnf) | (refine condK_of (by decide) ?_; conv => whnf) | (refine condK_of (by omega) ?_; conv => whnf) | (refine wrapK_in (w64 (by omega) (by omega)) ?_; conv => whnf))
        refine idxK_nat (by omega) ?_
        conv => whnf
        refine getRow_of (x := encE s[k]) (by simp [hk2]) ?_
        conv => whnf
        repeat (first | (refine bcase_f rfl ?_; conv => whnf) | (refine bcase_t rfl ?_; conv => whnf) | (refine condK_draw (by kernel_rfl) ?_; conv => whnf) | (refine condK_of rfl ?_; conv => whnf) | (refine condK_of (by decide) ?_; conv => whnf) | (refine condK_of (by omega) ?_; conv => whnf) | (refine wrapK_in (w64 (by omega) (by omega)) ?_; conv => whnf))
        refine bcase_n (fun a1 => ?_) (fun a1 => ?_) <;> conv => whnf
        · have hr : (doM n (opE s[k])).2 ≠ resE s[k] := fun e => a1 (by rw [e]; rfl)
          rw [go_no hk2 hf hr]
          repeat (first | (refine bcase_f rfl ?_; conv => whnf) | (refine bcase_t rfl ?_; conv => whnf) | (refine condK_draw (by kernel_rfl) ?_; conv => whnf) | (refine condK_of rfl ?_; conv => whnf) | (refine condK_of (by decide) ?_; conv => whnf) | (refine condK_of (by omega) ?_; conv => whnf) | (refine wrapK_in (w64 (by omega) (by omega)) ?_; conv => whnf))
          exact ret_of rfl rfl
        repeat (first | (refine bcase_f rfl ?_; conv => whnf) | (refine bcase_t rfl ?_; conv => whnf) | (refine condK_draw (by kernel_rfl) ?_; conv => whnf) | (refine condK_of rfl ?_; conv => whnf) | (refine condK_of (by decide) ?_; conv => whnf) | (refine condK_of (by omega) ?_; conv => whnf) | (refine wrapK_in (w64 (by omega) (by omega)) ?_; conv => whnf))
        refine idxK_nat (by omega) ?_
        conv => whnf
        refine getRow_of (x := encE s[k]) (by simp [hk2]) ?_
        conv => whnf
        repeat (first | (refine bcase_f rfl ?_; conv => whnf) | (refine bcase_t rfl ?_; conv => whnf) | (refine condK_draw (by kernel_rfl) ?_; conv => whnf) | (refine condK_of rfl ?_; conv => whnf) | (refine condK_of (by decide) ?_; conv => whnf) | (refine condK_of (by omega) ?_; conv => whnf) | (refine wrapK_in (w64 (by omega) (by omega)) ?_; conv => whnf))
        refine bcase_intro (fun h7 => ?_) (fun h7 => ?_) <;> conv => whnf
        · have hr : (doM n (opE s[k])).2 ≠ resE s[k] := by
            intro e
            rw [e] at h7
            simp [resE] at h7
          rw [go_no hk2 hf hr]
          repeat (first | (refine bcase_f rfl ?_; conv => whnf) | (refine bcase_t rfl ?_; conv => whnf) | (refine condK_draw (by kernel_rfl) ?_; conv => whnf) | (refine condK_of rfl ?_; conv => whnf) | (refine condK_of (by decide) ?_; conv => whnf) | (refine condK_of (by omega) ?_; conv => whnf) | (refine wrapK_in (w64 (by omega) (by omega)) ?_; conv => whnf))
          exact ret_of rfl rfl
        · have hr : (doM n (opE s[k])).2 = resE s[k] := by
            simp at h7
            exact Prod.ext a1 (Prod.ext h7.1 (Prod.ext h7.2.1 h7.2.2))
          rw [go_yes hk2 hf hr]
          have hd2 := doM_len n (opE s[k])
          repeat (first | (refine bcase_f rfl ?_; conv => whnf) | (refine bcase_t rfl ?_; conv => whnf) | (refine condK_draw (by kernel_rfl) ?_; conv => whnf) | (refine condK_of rfl ?_; conv => whnf) | (refine condK_of (by decide) ?_; conv => whnf) | (refine condK_of (by omega) ?_; conv => whnf) | (refine wrapK_in (w64 (by omega) (by omega)) ?_; conv => whnf))
          refine ⟨(k + 1, (doM n (opE s[k])).1), ⟨by simp only []; omega, by simp only []; omega, rfl⟩, by simp only []; omega, le0 (le_of_cov ⟨?_, ?_, ?_, ?_, trivial⟩ ⟨?_, trivial⟩ ⟨?_, ?_, ?_, ?_⟩)⟩ <;> kernel_rfl
      repeat (first | (refine bcase_f rfl ?_; conv => whnf) | (refine bcase_t rfl ?_; conv => whnf) | (refine condK_draw (by kernel_rfl) ?_; conv => whnf) | (refine condK_of rfl ?_; conv => whnf) | (refine condK_of (by decide) ?_; conv => whnf) | (refine condK_of (by omega) ?_; conv => whnf) | (refine wrapK_in (w64 (by omega) (by omega)) ?_; conv => whnf))
      have hf : resE s[k] ≠ failR := (fun e => q2 (congrArg (fun r : Res => r.2.1) e))
      refine idxK_nat (by omega) ?_
      conv => whnf
      refine getRow_of (x := encE s[k]) (by simp [hk2]) ?_
      conv => whnf
      repeat (first | (refine bcase_f rfl ?_; conv => whnf) | (refine bcase_t rfl ?_; conv => whnf) | (refine condK_draw (by kernel_rfl) ?_; conv => whnf) | (refine condK_of rfl ?_; conv => whnf) | (refine condK_of (by decide) ?_; conv => whnf) | (refine condK_of (by omega) ?_; conv => whnf) | (refine wrapK_in (w64 (by omega) (by omega)) ?_; conv => whnf))
      refine callX_pure (refDo2_ok n (opE s[k]) (by omega)) ?_
      conv => whnf
      repeat (first | (refine bcase_f rfl ?_; conv => whnf) | (refine bcase_t rfl ?_; conv => whnf) | (refine condK_draw (by kernel_rfl) ?_; conv => whnf) | (refine condK_of rfl ?_; conv => whnf) | (refine condK_of (by decide) ?_; conv => whnf) | (refine condK_of (by omega) ?_; conv => whnf) | (refine wrapK_in (w64 (by omega) (by omega)) ?_; conv => whnf))
      refine idxK_nat (by omega) ?_
      conv => whnf
      refine getRow_of (x := encE s[k]) (by simp [hk2]) ?_
      conv => whnf
      repeat (first | (refine bcase_f rfl ?_; conv => whnf) | (refine bcase_t rfl ?_; conv => whnf) | (refine condK_draw (by kernel_rfl) ?_; conv => whnf) | (refine condK_of rfl ?_; conv => whnf) | (refine condK_of (by decide) ?_; conv => whnf) | (refine condK_of (by omega) ?_; conv => whnf) | (refine wrapK_in (w64 (by omega) (by omega)) ?_; conv => whnf))
      refine bcase_n (fun a1 => ?_) (fun a1 => ?_) <;> conv => whnf
      · have hr : (doM n (opE s[k])).2 ≠ resE s[k] := fun e => a1 (by rw [e]; rfl)
        rw [go_no hk2 hf hr]
        repeat (first | (refine bcase_f rfl ?_; conv => whnf) | (refine bcase_t rfl ?_; conv => whnf) | (refine condK_draw (by kernel_rfl) ?_; conv => whnf) | (refine condK_of rfl ?_; conv => whnf) | (refine condK_of (by decide) ?_; conv => whnf) | (refine condK_of (by omega) ?_; conv => whnf) | (refine wrapK_in (w64 (by omega) (by omega)) ?_; conv => whnf))
        exact ret_of rfl rfl
      repeat (first | (refine bcase_f rfl ?_; conv => whnf) | (refine bcase_t rfl ?_; conv => whnf) | (refine condK_draw (by kernel_rfl) ?_; conv => whnf) | (refine condK_of rfl ?_; conv => whnf) | (refine condK_of (by decide) ?_; conv => whnf) | (refine condK_of (by omega) ?_; conv => whnf) | (refine wrapK_in (w64 (by omega) (by omega)) ?_; conv => whnf))
      refine idxK_nat (by omega) ?_
      conv => whnf
      refine getRow_of (x := encE s[k]) (by simp [hk2]) ?_
      conv => whnf
      repeat (first | (refine bcase_f rfl ?_; conv => whnf) | (refine bcase_t rfl ?_; conv => whnf) | (refine condK_draw (by kernel_rfl) ?_; conv => whnf) | (refine condK_of rfl ?_; conv => whnf) | (refine condK_of (by decide) ?_; conv => whnf) | (refine condK_of (by omega) ?_; conv => whnf) | (refine wrapK_in (w64 (by omega) (by omega)) ?_; conv => whnf))
      refine bcase_intro (fun h7 => ?_) (fun h7 => ?_) <;> conv => whnf
      · have hr : (doM n (opE s[k])).2 ≠ resE s[k] := by
          intro e
          rw [e] at h7
          simp [resE] at h7
        rw [go_no hk2 hf hr]
        repeat (first | (refine bcase_f rfl ?_; conv => whnf) | (refine bcase_t rfl ?_; conv => whnf) | (refine condK_draw (by kernel_rfl) ?_; conv => whnf) | (refine condK_of rfl ?_; conv => whnf) | (refine condK_of (by decide) ?_; conv => whnf) | (refine condK_of (by omega) ?_; conv => whnf) | (refine wrapK_in (w64 (by omega) (by omega)) ?_; conv => whnf))
        exact ret_of rfl rfl
      · have hr : (doM n (opE s[k])).2 = resE s[k] := by
          simp at h7
          exact Prod.ext a1 (Prod.ext h7.1 (Prod.ext h7.2.1 h7.2.2))
        rw [go_yes hk2 hf hr]
        have hd2 := doM_len n (opE s[k])
        repeat (first | (refine bcase_f rfl ?_; conv => whnf) | (refine bcase_t rfl ?_; conv => whnf) | (refine condK_draw (by kernel_rfl) ?_; conv => whnf) | (refine condK_of rfl ?_; conv => whnf) | (refine condK_of (by decide) ?_; conv => whnf) | (refine condK_of (by omega) ?_; conv => whnf) | (refine wrapK_in (w64 (by omega) (by omega)) ?_; conv => whnf))
        refine ⟨(k + 1, (doM n (opE s[k])).1), ⟨by simp only []; omega, by simp only []; omega, rfl⟩, by simp only []; omega, le0 (le_of_cov ⟨?_, ?_, ?_, ?_, trivial⟩ ⟨?_, trivial⟩ ⟨?_, ?_, ?_, ?_⟩)⟩ <;> kernel_rfl
    repeat (first | (refine bcase_f rfl ?_; conv => whnf) | (refine bcase_t rfl ?_; conv => whnf) | (refine condK_draw (by kernel_rfl) ?_; conv => whnf) | (refine condK_of rfl ?_; conv => whnf) | (refine condK_of (by decide) ?_; conv => whnf) | (refine condK_of (by omega) ?_; conv => whnf) | (refine wrapK_in (w64 (by omega) (by omega)) ?_; conv => whnf))
    have hf : resE s[k] ≠ failR := (fun e => q1 (congrArg (fun r : Res => r.1) e))
    refine idxK_nat (by omega) ?_
    conv => whnf
    refine getRow_of (x := encE s[k]) (by simp [hk2]) ?_
    conv => whnf
    repeat (first | (refine bcase_f rfl ?_; conv => whnf) | (refine bcase_t rfl ?_; conv => whnf) | (refine condK_draw (by kernel_rfl) ?_; conv => whnf) | (refine condK_of rfl ?_; conv => whnf) | (refine condK_of (by decide) ?_; conv => whnf) | (refine condK_of (by omega) ?_; conv => whnf) | (refine wrapK_in (w64 (by omega) (by omega)) ?_; conv => whnf))
    refine callX_pure (refDo2_ok n (opE s[k]) (by omega)) ?_
    conv => whnf
    repeat (first | (refine bcase_f rfl ?_; conv => whnf) | (refine bcase_t rfl ?_; conv => whnf) | (refine condK_draw (by kernel_rfl) ?_; conv => whnf) | (refine condK_of rfl ?_; conv => whnf) | (refine condK_of (by decide) ?_; conv => whnf) | (refine condK_of (by omega) ?_; conv => whnf) | (refine wrapK_in (w64 (by omega) (by omega)) ?_; conv => whnf))
    refine idxK_nat (by omega) ?_
    conv => whnf
    refine getRow_of (x := encE s[k]) (by simp [hk2]) ?_
    conv => whnf
    repeat (first | (refine bcase_f rfl ?_; conv => whnf) | (refine bcase_t rfl ?_; conv => whnf) | (refine condK_draw (by kernel_rfl) ?_; conv => whnf) | (refine condK_of rfl ?_; conv => whnf) | (refine condK_of (by decide) ?_; conv => whnf) | (refine condK_of (by omega) ?_; conv => whnf) | (refine wrapK_in (w64 (by omega) (by omega)) ?_; conv => whnf))
    refine bcase_n (fun a1 => ?_) (fun a1 => ?_) <;> conv => whnf
    · have hr : (doM n (opE s[k])).2 ≠ resE s[k] := fun e => a1 (by rw [e]; rfl)
      rw [go_no hk2 hf hr]
      repeat (first | (refine bcase_f rfl ?_; conv => whnf) | (refine bcase_t rfl ?_; conv => whnf) | (refine condK_draw (by kernel_rfl) ?_; conv => whnf) | (refine condK_of rfl ?_; conv => whnf) | (refine condK_of (by decide) ?_; conv => whnf) | (refine condK_of (by omega) ?_; conv => whnf) | (refine wrapK_in (w64 (by omega) (by omega)) ?_; conv => whnf))
      exact ret_of rfl rfl
    repeat (first | (refine bcase_f rfl ?_; conv => whnf) | (refine bcase_t rfl ?_; conv => whnf) | (refine condK_draw (by kernel_rfl) ?_; conv => whnf) | (refine condK_of rfl ?_; conv => whnf) | (refine condK_of (by decide) ?_; conv => whnf) | (refine condK_of (by omega) ?_; conv => whnf) | (refine wrapK_in (w64 (by omega) (by omega)) ?_; conv => whnf))
    refine idxK_nat (by omega) ?_
    conv => whnf
    refine getRow_of (x := encE s[k]) (by simp [hk2]) ?_
    conv => whnf
    repeat (first | (refine bcase_f rfl ?_; conv => whnf) | (refine bcase_t rfl ?_; conv => whnf) | (refine condK_draw (by kernel_rfl) ?_; conv => whnf) | (refine condK_of rfl ?_; conv => whnf) | (refine condK_of (by decide) ?_; conv => whnf) | (refine condK_of (by omega) ?_; conv => whnf) | (refine wrapK_in (w64 (by omega) (by omega)) ?_; conv => whnf))
    refine bcase_intro (fun h7 => ?_) (fun h7 => ?_) <;> conv => whnf
    · have hr : (doM n (opE s[k])).2 ≠ resE s[k] := by
        intro e
        rw [e] at h7
        simp [resE] at h7
      rw [go_no hk2 hf hr]
      repeat (first | (refine bcase_f rfl ?_; conv => whnf) | (refine bcase_t rfl ?_; conv => whnf) | (refine condK_draw (by kernel_rfl) ?_; conv => whnf) | (refine condK_of rfl ?_; conv => whnf) | (refine condK_of (by decide) ?_; conv => whnf) | (refine condK_of (by omega) ?_; conv => whnf) | (refine wrapK_in (w64 (by omega) (by omega)) ?_; conv => whnf))
      exact ret_of rfl rfl
    · have hr : (doM n (opE s[k])).2 = resE s[k] := by
        simp at h7
        exact Prod.ext a1 (Prod.ext h7.1 (Prod.ext h7.2.1 h7.2.2))
      rw [go_yes hk2 hf hr]
      have hd2 := doM_len n (opE s[k])
      repeat (first | (refine bcase_f rfl ?_; conv => whnf) | (refine bcase_t rfl ?_; conv => whnf) | (refine condK_draw (by kernel_rfl) ?_; conv => whnf) | (refine condK_of rfl ?_; conv => whnf) | (refine condK_of (by decide) ?_; conv => whnf) | (refine condK_of (by omega) ?_; conv => whnf) | (refine wrapK_in (w64 (by omega) (by omega)) ?_; conv => whnf))
      refine ⟨(k + 1, (doM n (opE s[k])).1), ⟨by simp only []; omega, by simp only []; omega, rfl⟩, by simp only []; omega, le0 (le_of_cov ⟨?_, ?_, ?_, ?_, trivial⟩ ⟨?_, trivial⟩ ⟨?_, ?_, ?_, ?_⟩)⟩ <;> kernel_rfl
  · repeat (first | (refine bcase_f rfl ?_; conv => whnf) | (refine bcase_t rfl ?_; conv => whnf) | (refine condK_draw (by kernel_rfl) ?_; conv => whnf) | (refine condK_of rfl ?_; conv => whnf) | (refine condK_of (by decide) ?_; conv => whnf) | (refine condK_of (by omega) ?_; conv => whnf) | (refine wrapK_in (w64 (by omega) (by omega)) ?_; conv => whnf))
    rw [go_end (by omega)]
    have ek : k = (l.map encE).length := by omega
    subst ek
    exact ret_of rfl rfl
end Go.Lk

set_option linter.unusedSimpArgs false
set_option linter.unusedVariables false
set_option linter.unnecessarySimpa false
namespace Go.Lk
open Go Go.Proofs Go.RowKit Go.Lk.St

structure SmP (l : List Ev) : Prop where
  len : l.length ≤ 60
  all : ∀ i, i < 60 → (hi : i < l.length) → l[i].body.size ≤ 100 ∧ l[i].text.size ≤ 100
open Classical in
noncomputable def smB (l : List Ev) : Bool := decide (SmP l)
theorem smB_t {l : List Ev} : smB l = true ↔ SmP l := by simp [smB]
theorem smB_f {l : List Ev} : smB l = false ↔ ¬ SmP l := by simp [smB]
theorem small_ok (l : List Ev) : ACall Try.prog 9 [.lst (l.map encE)] (.bool (smB l)) := by
  refine acall_of Try.func9 1 rfl (by kernel_rfl) ?_
  conv => whnf
  have hm : (l.map encE).length = l.length := List.length_map ..
  refine aloop (ι := Nat) (fun k => [(0, .d (.lst (l.map encE))), (3, .d (.int .i64 k))]) (fun _ => [])
    (fun k => k ≤ l.length ∧ k ≤ 60 ∧ ∀ i, i < k → (hi : i < l.length) → l[i].body.size ≤ 100 ∧ l[i].text.size ≤ 100) (fun k => l.length - k) 0 ⟨by omega, by omega, by omega⟩ (le0 (le_of_cov ⟨rfl, rfl, trivial⟩ trivial ⟨rfl, rfl, rfl, rfl⟩)) ?_
  rintro k ⟨hk, hk6, hR⟩
  conv => whnf
  refine bcase_p (fun h5 => ?_) (fun h5 => ?_) <;> conv => whnf
  · have hk2 : k < l.length := by omega
    repeat (first | (refine bcase_f rfl ?_; conv => whnf) | (refine bcase_t rfl ?_; conv => whnf) | (refine condK_draw (by kernel_rfl) ?_; conv => whnf) | (refine condK_of rfl ?_; conv => whnf) | (refine condK_of (by decide) ?_; conv => whnf) | (refine condK_of (by omega) ?_; conv => whnf) | (refine wrapK_in (w64 (by omega) (by omega)) ?_; conv => whnf))
    refine bcase_p (fun h6 => ?_) (fun h6 => ?_) <;> conv => whnf
    · repeat (first | (refine bcase_f rfl ?_; conv => whnf) | (refine bcase_t rfl ?_; conv => whnf) | (refine condK_draw (by kernel_rfl) ?_; conv => whnf) | (refine condK_of rfl ?_; conv => whnf) | (refine condK_of (by decide) ?_; conv => whnf) | (refine condK_of (by omega) ?_; conv => whnf) | (refine wrapK_in (w64 (by omega) (by omega)) ?_; conv => whnf))
      refine idxK_nat (by omega) ?_
      conv => whnf
      refine getRow_of (x := encE l[k]) (by simp [hk2]) ?_
      conv => whnf
      repeat (first | (refine bcase_f rfl ?_; conv => whnf) | (refine bcase_t rfl ?_; conv => whnf) | (refine condK_draw (by kernel_rfl) ?_; conv => whnf) | (refine condK_of rfl ?_; conv => whnf) | (refine condK_of (by decide) ?_; conv => whnf) | (refine condK_of (by omega) ?_; conv => whnf) | (refine wrapK_in (w64 (by omega) (by omega)) ?_; conv => whnf))
      refine bcase_p (fun g1 => ?_) (fun g1 => ?_) <;> conv => whnf
      · repeat (first | (refine bcase_f rfl ?_; conv => whnf) | (refine bcase_t rfl ?_; conv => whnf) | (refine condK_draw (by kernel_rfl) ?_; conv => whnf) | (refine condK_of rfl ?_; conv => whnf) | (refine condK_of (by decide) ?_; conv => whnf) | (refine condK_of (by omega) ?_; conv => whnf) | (refine wrapK_in (w64 (by omega) (by omega)) ?_; conv => whnf))
        exact ret_of rfl (congrArg D.bool (smB_f.2 fun h => by have := h.all k (by omega) hk2; omega).symm)
      repeat (first | (refine bcase_f rfl ?_; conv => whnf) | (refine bcase_t rfl ?_; conv => whnf) | (refine condK_draw (by kernel_rfl) ?_; conv => whnf) | (refine condK_of rfl ?_; conv => whnf) | (refine condK_of (by decide) ?_; conv => whnf) | (refine condK_of (by omega) ?_; conv => whnf) | (refine wrapK_in (w64 (by omega) (by omega)) ?_; conv => whnf))
      refine idxK_nat (by omega) ?_
      conv => whnf
      refine getRow_of (x := encE l[k]) (by simp [hk2]) ?_
      conv => whnf
      repeat (first | (refine bcase_f rfl ?_; conv => whnf) | (refine bcase_t rfl ?_; conv => whnf) | (refine condK_draw (by kernel_rfl) ?_; conv => whnf) | (refine condK_of rfl ?_; conv => whnf) | (refine condK_of (by decide) ?_; conv => whnf) | (refine condK_of (by omega) ?_; conv => whnf) | (refine wrapK_in (w64 (by omega) (by omega)) ?_; conv => whnf))
      refine bcase_p (fun g2 => ?_) (fun g2 => ?_) <;> conv => whnf
      · repeat (first | (refine bcase_f rfl ?_; conv => whnf) | (refine bcase_t rfl ?_; conv => whnf) | (refine condK_draw (by kernel_rfl) ?_; conv => whnf) | (refine condK_of rfl ?_; conv => whnf) | (refine condK_of (by decide) ?_; conv => whnf) | (refine condK_of (by omega) ?_; conv => whnf) | (refine wrapK_in (w64 (by omega) (by omega)) ?_; conv => whnf))
        exact ret_of rfl (congrArg D.bool (smB_f.2 fun h => by have := h.all k (by omega) hk2; omega).symm)
      repeat (first | (refine bcase_f rfl ?_; conv => whnf) | (refine bcase_t rfl ?_; conv => whnf) | (refine condK_draw (by kernel_rfl) ?_; conv => whnf) | (refine condK_of rfl ?_; conv => whnf) | (refine condK_of (by decide) ?_; conv => whnf) | (refine condK_of (by omega) ?_; conv => whnf) | (refine wrapK_in (w64 (by omega) (by omega)) ?_; conv => whnf))
      refine ⟨k + 1, ⟨by omega, by omega, fun i hi hi2 => by
        by_cases e : i = k
        · subst e; exact ⟨by omega, by omega⟩
        · exact hR i (by omega) hi2⟩, by omega, le0 (le_of_cov ⟨?_, ?_, trivial⟩ trivial ⟨?_, ?_, ?_, ?_⟩)⟩ <;> kernel_rfl
    · repeat (first | (refine bcase_f rfl ?_; conv => whnf) | (refine bcase_t rfl ?_; conv => whnf) | (refine condK_draw (by kernel_rfl) ?_; conv => whnf) | (refine condK_of rfl ?_; conv => whnf) | (refine condK_of (by decide) ?_; conv => whnf) | (refine condK_of (by omega) ?_; conv => whnf) | (refine wrapK_in (w64 (by omega) (by omega)) ?_; conv => whnf))
      refine ret_of rfl (congrArg D.bool ?_)
      have e1 : smB l = false := smB_f.2 fun h => by have := h.len; omega
      rw [e1, decide_eq_false_iff_not]
      omega
  · repeat (first | (refine bcase_f rfl ?_; conv => whnf) | (refine bcase_t rfl ?_; conv => whnf) | (refine condK_draw (by kernel_rfl) ?_; conv => whnf) | (refine condK_of rfl ?_; conv => whnf) | (refine condK_of (by decide) ?_; conv => whnf) | (refine condK_of (by omega) ?_; conv => whnf) | (refine wrapK_in (w64 (by omega) (by omega)) ?_; conv => whnf))
    refine ret_of rfl (congrArg D.bool ?_)
    have e1 : smB l = true := smB_t.2 ⟨by omega, fun i hi hi2 => hR i (by omega) hi2⟩
    rw [e1, decide_eq_true_eq]
    omega
structure PgP (l : List Pg) : Prop where
  len : l.length ≤ 40
  all : ∀ i, i < 40 → (hi : i < l.length) → l[i].2.2.size ≤ 100
open Classical in
noncomputable def pgB (l : List Pg) : Bool := decide (PgP l)
theorem pgB_t {l : List Pg} : pgB l = true ↔ PgP l := by simp [pgB]
theorem pgB_f {l : List Pg} : pgB l = false ↔ ¬ PgP l := by simp [pgB]
theorem pages_ok (l : List Pg) (hl : l.length ≤ 9223372036854775807) : ACall Try.prog 10 [.agg [.lst (l.map encP)]] (.bool (pgB l)) := by
  refine acall_of Try.func10 1 rfl (by kernel_rfl) ?_
  conv => whnf
  repeat (first | (refine bcase_f rfl ?_; conv => whnf) | (refine bcase_t rfl ?_; conv => whnf) | (refine condK_draw (by kernel_rfl) ?_; conv => whnf) | (refine condK_of rfl ?_; conv => whnf) | (refine condK_of (by decide) ?_; conv => whnf) | (refine condK_of (by omega) ?_; conv => whnf) | (refine wrapK_in (w64 (by omega) (by omega)) ?_; conv => whnf))
  have hm : (l.map encP).length = l.length := List.length_map ..
  refine aloop (ι := Nat) (fun k => [(1, .ptr 1 0 0), (6, .d (.lst (l.map encP))), (7, .d (.int .i64 (l.map encP).length)), (8, .d (.int .i64 k))]) (fun _ => [(1, .box [.d (.lst (l.map encP))] false)])
    (fun k => k ≤ l.length ∧ ∀ i, i < k → i < 40 → (hi : i < l.length) → l[i].2.2.size ≤ 100) (fun k => l.length - k) 0 ⟨by omega, by omega⟩ (le0 (le_of_cov ⟨rfl, rfl, rfl, rfl, trivial⟩ ⟨rfl, trivial⟩ ⟨rfl, rfl, rfl, rfl⟩)) ?_
  rintro k ⟨hk, hR⟩
  conv => whnf
  refine bcase_p (fun h5 => ?_) (fun h5 => ?_) <;> conv => whnf
  · have hk2 : k < l.length := by omega
    refine idxK_nat (by omega) ?_
    conv => whnf
    refine getRow_of (x := encP l[k]) (by simp [hk2]) ?_
    conv => whnf
    repeat (first | (refine bcase_f rfl ?_; conv => whnf) | (refine bcase_t rfl ?_; conv => whnf) | (refine condK_draw (by kernel_rfl) ?_; conv => whnf) | (refine condK_of rfl ?_; conv => whnf) | (refine condK_of (by decide) ?_; conv => whnf) | (refine condK_of (by omega) ?_; conv => whnf) | (refine wrapK_in (w64 (by omega) (by omega)) ?_; conv => whnf))
    refine bcase_p (fun g1 => ?_) (fun g1 => ?_) <;> conv => whnf
    · repeat (first | (refine bcase_f rfl ?_; conv => whnf) | (refine bcase_t rfl ?_; conv => whnf) | (refine condK_draw (by kernel_rfl) ?_; conv => whnf) | (refine condK_of rfl ?_; conv => whnf) | (refine condK_of (by decide) ?_; conv => whnf) | (refine condK_of (by omega) ?_; conv => whnf) | (refine wrapK_in (w64 (by omega) (by omega)) ?_; conv => whnf))
      refine bcase_p (fun g2 => ?_) (fun g2 => ?_) <;> conv => whnf
      · repeat (first | (refine bcase_f rfl ?_; conv => whnf) | (refine bcase_t rfl ?_; conv => whnf) | (refine condK_draw (by kernel_rfl) ?_; conv => whnf) | (refine condK_of rfl ?_; conv => whnf) | (refine condK_of (by decide) ?_; conv => whnf) | (refine condK_of (by omega) ?_; conv => whnf) | (refine wrapK_in (w64 (by omega) (by omega)) ?_; conv => whnf))
        exact ret_of rfl (congrArg D.bool (pgB_f.2 fun h => by have := h.all k (by omega) hk2; omega).symm)
      repeat (first | (refine bcase_f rfl ?_; conv => whnf) | (refine bcase_t rfl ?_; conv => whnf) | (refine condK_draw (by kernel_rfl) ?_; conv => whnf) | (refine condK_of rfl ?_; conv => whnf) | (refine condK_of (by decide) ?_; conv => whnf) | (refine condK_of (by omega) ?_; conv => whnf) | (refine wrapK_in (w64 (by omega) (by omega)) ?_; conv => whnf))
      refine ⟨k + 1, ⟨by omega, fun i hi h4 hi2 => by
        by_cases e : i = k
        · subst e; omega
        · exact hR i (by omega) h4 hi2⟩, by omega, le0 (le_of_cov ⟨?_, ?_, ?_, ?_, trivial⟩ ⟨?_, trivial⟩ ⟨?_, ?_, ?_, ?_⟩)⟩ <;> kernel_rfl
    · repeat (first | (refine bcase_f rfl ?_; conv => whnf) | (refine bcase_t rfl ?_; conv => whnf) | (refine condK_draw (by kernel_rfl) ?_; conv => whnf) | (refine condK_of rfl ?_; conv => whnf) | (refine condK_of (by decide) ?_; conv => whnf) | (refine condK_of (by omega) ?_; conv => whnf) | (refine wrapK_in (w64 (by omega) (by omega)) ?_; conv => whnf))
      refine ⟨k + 1, ⟨by omega, fun i hi h4 hi2 => by
        by_cases e : i = k
        · subst e; omega
        · exact hR i (by omega) h4 hi2⟩, by omega, le0 (le_of_cov ⟨?_, ?_, ?_, ?_, trivial⟩ ⟨?_, trivial⟩ ⟨?_, ?_, ?_, ?_⟩)⟩ <;> kernel_rfl
  · repeat (first | (refine bcase_f rfl ?_; conv => whnf) | (refine bcase_t rfl ?_; conv => whnf) | (refine condK_draw (by kernel_rfl) ?_; conv => whnf) | (refine condK_of rfl ?_; conv => whnf) | (refine condK_of (by decide) ?_; conv => whnf) | (refine condK_of (by omega) ?_; conv => whnf) | (refine wrapK_in (w64 (by omega) (by omega)) ?_; conv => whnf))
    refine ret_of rfl (congrArg D.bool ?_)
    by_cases h : l.length ≤ 40
    · have e1 : pgB l = true := pgB_t.2 ⟨h, fun i hi hi2 => hR i (by omega) hi hi2⟩
      rw [e1, decide_eq_true_eq]; omega
    · have e1 : pgB l = false := pgB_f.2 fun h2 => h h2.len
      rw [e1, decide_eq_false_iff_not]; omega
end Go.Lk

set_option linter.unusedSimpArgs false
set_option linter.unusedVariables false
set_option linter.unnecessarySimpa false
namespace Go.Lk
open Go Go.Proofs Go.RowKit Go.Lk.St

def evA : Ev := ⟨0, 1, 1, ByteArray.empty, 0, 1, 1, ByteArray.empty, 0, 1, 2⟩
def evB : Ev := ⟨0, 2, 1, ByteArray.empty, 0, 1, 2, ByteArray.empty, 3, 4, 5⟩
def pg1 : Pg := (1, 1, ByteArray.empty)
theorem map_nil : mapB [] = true := mapB_t.2 ⟨fun x hx => (List.not_mem_nil hx).elim, fun i hi => absurd hi (Nat.not_lt_zero _)⟩
theorem map_one : mapB [pg1] = true := mapB_t.2 ⟨fun x hx => by
  rw [List.mem_singleton] at hx; subst hx
  exact pgR_out.2 ⟨by decide, by decide, by decide, by decide, by decide⟩, fun i hi => by simp at hi⟩
theorem do_A : doM [] (opE evA) = ([pg1], (0, pg1)) := by
  rw [doM, if_neg (by rw [map_nil]; decide), if_pos (show (opE evA).1 = 1 from rfl), if_neg (by decide)]
  rfl
theorem do_B : doM [pg1] (opE evB) = ([pg1], (0, pg1)) := by
  have hb : plB [pg1] (opE evB).2.1 = true := by decide
  have hn : plN [pg1] (opE evB).2.1 = 0 := by decide
  rw [doM, if_neg (by rw [map_one]; decide), if_neg (show ¬ (opE evB).1 = 1 by decide), if_neg (by rw [hb]; decide), hn]
  rfl
theorem ap_A : apB [evA] = true := apB_t.2 ⟨fun x hx => by
  rw [List.mem_singleton] at hx; subst hx; exact ⟨by decide, by decide⟩, List.pairwise_singleton _ _, List.pairwise_singleton _ _⟩
theorem ap_AB : apB [evA, evB] = true := apB_t.2 ⟨fun x hx => by
  simp at hx
  rcases hx with rfl | rfl <;> exact ⟨by decide, by decide⟩, by simp [RD]; decide, by simp [RW]; decide⟩
theorem ap_BA : apB [evB, evA] = true := apB_t.2 ((AP.perm (.swap _ _ _)).1 (apB_t.1 ap_AB))
theorem ap_AA : apB [evA, evA] = false := apB_f.2 fun h => by
  have := h.rd
  simp [RD] at this
theorem chk_A : chkM [] [evA] = ([pg1], 1, 0) := by
  rw [chkM, if_neg (by decide), if_neg (by rw [map_nil]; decide), if_neg (by rw [ap_A]; decide)]
  show chkGo [] 0 [evA] = _
  rw [chkGo, if_neg (by intro e; exact absurd (congrArg Prod.fst e) (by decide)), do_A, if_pos (show (([pg1], 0, pg1) : List Pg × Res).2 = resE evA from rfl), chkGo]
theorem chk_BA : chkM [] [evB, evA] = ([pg1], 1, 2) := by
  rw [chkM, if_neg (by decide), if_neg (by rw [map_nil]; decide), if_neg (by rw [ap_BA]; decide)]
  show chkGo [] 0 [evA, evB] = _
  rw [chkGo, if_neg (by intro e; exact absurd (congrArg Prod.fst e) (by decide)), do_A, if_pos (show (([pg1], 0, pg1) : List Pg × Res).2 = resE evA from rfl), chkGo, if_neg (by intro e; exact absurd (congrArg Prod.fst e) (by decide)), do_B, if_neg (by intro e; exact absurd (congrArg (fun r : Res => r.2.2.1) e) (by decide))]

theorem awake_ok : ACall Try.prog 11 [] (.bool true) := by
  refine acall_of Try.func11 0 rfl (by kernel_rfl) ?_
  conv => whnf
  repeat (first | (refine bcase_f rfl ?_; conv => whnf) | (refine bcase_t rfl ?_; conv => whnf) | (refine condK_draw (by kernel_rfl) ?_; conv => whnf) | (refine condK_of rfl ?_; conv => whnf) | (refine condK_of (by decide) ?_; conv => whnf) | (refine condK_of (by omega) ?_; conv => whnf) | (refine wrapK_in (w64 (by omega) (by omega)) ?_; conv => whnf))
  refine callX_pure (check_ok [] [evA] (by decide) (by decide)) ?_
  conv => whnf
  repeat (first | (refine bcase_f rfl ?_; conv => whnf) | (refine bcase_t rfl ?_; conv => whnf) | (refine condK_draw (by kernel_rfl) ?_; conv => whnf) | (refine condK_of rfl ?_; conv => whnf) | (refine condK_of (by decide) ?_; conv => whnf) | (refine condK_of (by omega) ?_; conv => whnf) | (refine wrapK_in (w64 (by omega) (by omega)) ?_; conv => whnf))
  refine callX_pure (check_ok [] [evB, evA] (by decide) (by decide)) ?_
  conv => whnf
  repeat (first | (refine bcase_f rfl ?_; conv => whnf) | (refine bcase_t rfl ?_; conv => whnf) | (refine condK_draw (by kernel_rfl) ?_; conv => whnf) | (refine condK_of rfl ?_; conv => whnf) | (refine condK_of (by decide) ?_; conv => whnf) | (refine condK_of (by omega) ?_; conv => whnf) | (refine wrapK_in (w64 (by omega) (by omega)) ?_; conv => whnf))
  rw [chk_A, chk_BA]
  repeat (first | (refine bcase_f rfl ?_; conv => whnf) | (refine bcase_t rfl ?_; conv => whnf) | (refine condK_draw (by kernel_rfl) ?_; conv => whnf) | (refine condK_of rfl ?_; conv => whnf) | (refine condK_of (by decide) ?_; conv => whnf) | (refine condK_of (by omega) ?_; conv => whnf) | (refine wrapK_in (w64 (by omega) (by omega)) ?_; conv => whnf))
  refine callX_pure (apart_ok [evA, evB] (by decide)) ?_
  conv => whnf
  repeat (first | (refine bcase_f rfl ?_; conv => whnf) | (refine bcase_t rfl ?_; conv => whnf) | (refine condK_draw (by kernel_rfl) ?_; conv => whnf) | (refine condK_of rfl ?_; conv => whnf) | (refine condK_of (by decide) ?_; conv => whnf) | (refine condK_of (by omega) ?_; conv => whnf) | (refine wrapK_in (w64 (by omega) (by omega)) ?_; conv => whnf))
  rw [ap_AB]
  repeat (first | (refine bcase_f rfl ?_; conv => whnf) | (refine bcase_t rfl ?_; conv => whnf) | (refine condK_draw (by kernel_rfl) ?_; conv => whnf) | (refine condK_of rfl ?_; conv => whnf) | (refine condK_of (by decide) ?_; conv => whnf) | (refine condK_of (by omega) ?_; conv => whnf) | (refine wrapK_in (w64 (by omega) (by omega)) ?_; conv => whnf))
  refine callX_pure (apart_ok [evA, evA] (by decide)) ?_
  conv => whnf
  repeat (first | (refine bcase_f rfl ?_; conv => whnf) | (refine bcase_t rfl ?_; conv => whnf) | (refine condK_draw (by kernel_rfl) ?_; conv => whnf) | (refine condK_of rfl ?_; conv => whnf) | (refine condK_of (by decide) ?_; conv => whnf) | (refine condK_of (by omega) ?_; conv => whnf) | (refine wrapK_in (w64 (by omega) (by omega)) ?_; conv => whnf))
  rw [ap_AA]
  repeat (first | (refine bcase_f rfl ?_; conv => whnf) | (refine bcase_t rfl ?_; conv => whnf) | (refine condK_draw (by kernel_rfl) ?_; conv => whnf) | (refine condK_of rfl ?_; conv => whnf) | (refine condK_of (by decide) ?_; conv => whnf) | (refine condK_of (by omega) ?_; conv => whnf) | (refine wrapK_in (w64 (by omega) (by omega)) ?_; conv => whnf))
  exact ret_of rfl rfl
end Go.Lk

