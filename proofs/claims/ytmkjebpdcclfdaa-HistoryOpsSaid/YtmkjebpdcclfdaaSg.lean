/-
  Events, All, ref21.Sort.
-/
import Derived.Test.YtmkjebpdcclfdaaSf
set_option linter.unusedSectionVars false
set_option linter.unusedSimpArgs false
set_option linter.unusedVariables false
set_option linter.unnecessarySimpa false
namespace Go.Lk
open Go Go.Proofs Go.RowKit Go.Lk.St

theorem events_ok (l : List Ev) (hl : l.length ≤ 1000000) : OCall Try.prog 12 [.lst (l.map encE)] (l.map encE) 11 := by
  refine ocall_of Try.func12 1 rfl (by kernel_rfl) ?_
  conv => whnf
  have hm : (l.map encE).length = l.length := List.length_map ..
  refine aloop (ι := Nat) (fun k => [(3, .own 31), (6, .d (.lst (l.map encE))), (7, .d (.int .i64 (l.map encE).length)), (8, .d (.int .i64 k))]) (fun k => [(31, .row ((l.take k).map encE) 11 false)])
    (fun k => k ≤ l.length) (fun k => l.length - k) 0 (Nat.zero_le _) (le1 (.row 3 31 11) ⟨rfl, rfl⟩ (le_of_cov ⟨rfl, rfl, rfl, rfl, trivial⟩ ⟨rfl, trivial⟩ ⟨rfl, rfl, rfl, rfl⟩)) ?_
  intro k hk
  conv => whnf
  refine bcase_p (fun h5 => ?_) (fun h5 => ?_) <;> conv => whnf
  · have hk2 : k < l.length := by omega
    refine idxK_nat (by omega) ?_
    conv => whnf
    refine getRow_of (x := encE l[k]) (by simp [hk2]) ?_
    conv => whnf
    repeat (first | (refine bcase_f rfl ?_; conv => whnf) | (refine bcase_t rfl ?_; conv => whnf) | (refine condK_draw (by kernel_rfl) ?_; conv => whnf) | (refine condK_of rfl ?_; conv => whnf) | (refine condK_of (by decide) ?_; conv => whnf) | (refine condK_of (by omega) ?_; conv => whnf) | (refine wrapK_in (w64 (by omega) (by omega)) ?_; conv => whnf))
    refine roomK_le 1000100 1000 (by show List.length _ + 1 ≤ 1000100; rw [List.length_map, List.length_take]; omega) (by decide) (by decide) (by decide) ?_
    conv => whnf
    repeat (first | (refine bcase_f rfl ?_; conv => whnf) | (refine bcase_t rfl ?_; conv => whnf) | (refine condK_draw (by kernel_rfl) ?_; conv => whnf) | (refine condK_of rfl ?_; conv => whnf) | (refine condK_of (by decide) ?_; conv => whnf) | (refine condK_of (by omega) ?_; conv => whnf) | (refine wrapK_in (w64 (by omega) (by omega)) ?_; conv => whnf))
    have er : (l.take k).map encE ++ [encE l[k]] = (l.take (k + 1)).map encE := by rw [take_snoc hk2, List.map_append]; rfl
    refine ⟨k + 1, by omega, by omega, le0 (le_of_cov ⟨?_, ?_, ?_, ?_, trivial⟩ ⟨?_, trivial⟩ ⟨?_, ?_, ?_, ?_⟩)⟩
    · kernel_rfl
    · kernel_rfl
    · kernel_rfl
    · kernel_rfl
    rotate_left
    · kernel_rfl
    · kernel_rfl
    · kernel_rfl
    · kernel_rfl
    rw [← er]
    kernel_rfl
  · repeat (first | (refine bcase_f rfl ?_; conv => whnf) | (refine bcase_t rfl ?_; conv => whnf) | (refine condK_draw (by kernel_rfl) ?_; conv => whnf) | (refine condK_of rfl ?_; conv => whnf) | (refine condK_of (by decide) ?_; conv => whnf) | (refine condK_of (by omega) ?_; conv => whnf) | (refine wrapK_in (w64 (by omega) (by omega)) ?_; conv => whnf))
    have ek : l.take k = l := List.take_of_length_le (by omega)
    rw [ek]
    exact ⟨2, rfl, .inl ⟨31, rfl, rfl⟩⟩

end Go.Lk

set_option linter.unusedSimpArgs false
set_option linter.unusedVariables false
set_option linter.unnecessarySimpa false
namespace Go.Lk
open Go Go.Proofs Go.RowKit Go.Lk.St

/-! ### one behind the other -/
noncomputable def allM (l : List Pg) : List Op → List Pg × List Res
  | [] => (l, [])
  | o :: r => ((allM (doM l o).1 r).1, (doM l o).2 :: (allM (doM l o).1 r).2)
theorem allM_snoc (o : Op) : ∀ (w : List Op) (l : List Pg), allM l (w ++ [o]) = ((doM (allM l w).1 o).1, (allM l w).2 ++ [(doM (allM l w).1 o).2])
  | [], l => rfl
  | x :: r, l => by simp only [List.cons_append, allM, allM_snoc o r]
theorem doM_len (l : List Pg) (o : Op) : (doM l o).1.length ≤ l.length + 1 := by
  unfold doM
  split
  · simp
  split
  · split
    · simp
    · simp; omega
  split
  · simp
  split
  · simp
  split
  · simp
  split
  · simp; omega
  split
  · simp
  split
  · simp
  · simp
theorem allM_len : ∀ (w : List Op) (l : List Pg), (allM l w).1.length ≤ l.length + w.length
  | [], l => by simp [allM]
  | o :: r, l => by
    have h1 := allM_len r (doM l o).1
    have h2 := doM_len l o
    simp only [allM, List.length_cons]
    omega
theorem allM_len2 : ∀ (w : List Op) (l : List Pg), (allM l w).2.length = w.length
  | [], l => rfl
  | o :: r, l => by simp only [allM, List.length_cons, allM_len2 r]
theorem all_ok (l : List Pg) (w : List Op) (hl : l.length ≤ 500) (hw : w.length ≤ 400) : ACall Try.prog 21 [.agg [.lst (l.map encP)], .lst (w.map encO)] (.tup [.agg [.lst ((allM l w).1.map encP)], .lst ((allM l w).2.map encR)]) := by
  refine acall_of Try.func21 2 rfl (by kernel_rfl) ?_
  conv => whnf
  have hm : (w.map encO).length = w.length := List.length_map ..
  refine aloop (ι := Nat) (fun k => [(2, .ptr 2 0 0), (4, .ptr 4 0 0), (6, .own 25), (10, .d (.lst (w.map encO))), (11, .d (.int .i64 (w.map encO).length)), (12, .d (.int .i64 k))]) (fun k => [(2, .box [.d (.lst ((allM l (w.take k)).1.map encP))] false), (4, .box [.nil] false), (25, .row ((allM l (w.take k)).2.map encR) 4 false)])
    (fun k => k ≤ w.length) (fun k => w.length - k) 0 (Nat.zero_le _) (le1 (.row 6 25 4) ⟨rfl, rfl⟩ (le_of_cov ⟨rfl, rfl, rfl, rfl, rfl, rfl, trivial⟩ ⟨rfl, rfl, rfl, trivial⟩ ⟨rfl, rfl, rfl, rfl⟩)) ?_
  intro k hk
  conv => whnf
  refine bcase_p (fun h5 => ?_) (fun h5 => ?_) <;> conv => whnf
  · have hk2 : k < w.length := by omega
    refine idxK_nat (by omega) ?_
    conv => whnf
    refine getRow_of (x := encO w[k]) (by simp [hk2]) ?_
    conv => whnf
    repeat (first | (refine bcase_f rfl ?_; conv => whnf) | (refine bcase_t rfl ?_; conv => whnf) | (refine condK_draw (by kernel_rfl) ?_; conv => whnf) | (refine condK_of rfl ?_; conv => whnf) | (refine condK_of (by decide) ?_; conv => whnf) | (refine condK_of (by omega) ?_; conv => whnf) | (refine wrapK_in (w64 (by omega) (by omega)) ?_; conv => whnf))
    have hln := allM_len (w.take k) l
    rw [List.length_take] at hln
    refine callX_pure (opsDo_ok (allM l (w.take k)).1 w[k] (by omega)) ?_
    conv => whnf
    repeat (first | (refine bcase_f rfl ?_; conv => whnf) | (refine bcase_t rfl ?_; conv => whnf) | (refine condK_draw (by kernel_rfl) ?_; conv => whnf) | (refine condK_of rfl ?_; conv => whnf) | (refine condK_of (by decide) ?_; conv => whnf) | (refine condK_of (by omega) ?_; conv => whnf) | (refine wrapK_in (w64 (by omega) (by omega)) ?_; conv => whnf))
    refine roomK_le 1000100 1000 (by show List.length _ + 1 ≤ 1000100; rw [List.length_map, allM_len2, List.length_take]; omega) (by decide) (by decide) (by decide) ?_
    conv => whnf
    repeat (first | (refine bcase_f rfl ?_; conv => whnf) | (refine bcase_t rfl ?_; conv => whnf) | (refine condK_draw (by kernel_rfl) ?_; conv => whnf) | (refine condK_of rfl ?_; conv => whnf) | (refine condK_of (by decide) ?_; conv => whnf) | (refine condK_of (by omega) ?_; conv => whnf) | (refine wrapK_in (w64 (by omega) (by omega)) ?_; conv => whnf))
    have es := allM_snoc w[k] (w.take k) l
    rw [← take_snoc hk2] at es
    have e1 : ((doM (allM l (w.take k)).1 w[k]).1.map encP) = ((allM l (w.take (k + 1))).1.map encP) := by rw [es]
    have e2 : (allM l (w.take k)).2.map encR ++ [encR (doM (allM l (w.take k)).1 w[k]).2] = (allM l (w.take (k + 1))).2.map encR := by rw [es, List.map_append]; rfl
    refine ⟨k + 1, by omega, by omega, le0 (le_of_cov ⟨?_, ?_, ?_, ?_, ?_, ?_, trivial⟩ ⟨?_, ?_, ?_, trivial⟩ ⟨?_, ?_, ?_, ?_⟩)⟩
    · kernel_rfl
    · kernel_rfl
    · kernel_rfl
    · kernel_rfl
    · kernel_rfl
    · kernel_rfl
    · rw [← e1]; kernel_rfl
    · kernel_rfl
    · rw [← e2]; kernel_rfl
    · kernel_rfl
    · kernel_rfl
    · kernel_rfl
    · kernel_rfl
  · repeat (first | (refine bcase_f rfl ?_; conv => whnf) | (refine bcase_t rfl ?_; conv => whnf) | (refine condK_draw (by kernel_rfl) ?_; conv => whnf) | (refine condK_of rfl ?_; conv => whnf) | (refine condK_of (by decide) ?_; conv => whnf) | (refine condK_of (by omega) ?_; conv => whnf) | (refine wrapK_in (w64 (by omega) (by omega)) ?_; conv => whnf))
    have ek : w.take k = w := List.take_of_length_le (by omega)
    rw [ek]
    exact ret_of rfl rfl
end Go.Lk

set_option linter.unusedSimpArgs false
set_option linter.unusedVariables false
set_option linter.unnecessarySimpa false
namespace Go.Lk
open Go Go.Proofs Go.RowKit Go.Lk.St

def nxt (out : List Ev) (x : Ev) (k j : Nat) (p : Bool) : List Ev := bif p then out.take j ++ x :: (out.take k).drop j else out.take k
structure Nx (out : List Ev) (x : Ev) (k j : Nat) (p : Bool) : Prop where
  le : k ≤ out.length
  low : ∀ i, i < (bif p then j else k) → (hi : i < out.length) → out[i].done ≤ x.done
  at_ : p = true → ∃ h : j < out.length, j < k ∧ x.done < out[j].done
theorem nx_end {out l : List Ev} {x : Ev} {k j : Nat} {p : Bool} (h : Nx out x k j p) (hk : ¬ k < out.length) (hs : out = srt leD l) : (bif p then nxt out x k j p else nxt out x k j p ++ [x]) = srt leD (l ++ [x]) := by
  have hk : k = out.length := by have := h.le; omega
  subst hk
  have hx : srt leD ([x] : List Ev) = [x] := rfl
  have hfin : srt leD (out ++ [x]) = srt leD (l ++ [x]) := by rw [hs, ← hx, srt_app cmpD.tp, hx]
  have hsort : Sorted leD out := hs ▸ srt_sorted cmpD.tp l
  cases p with
  | false =>
    simp only [cond_false, nxt, List.take_length]
    rw [← hfin, ← List.append_nil (out ++ [x])]
    have := ins_at cmpD.tp (a := out) (b := []) (x := x) (by rw [List.append_nil]; exact hsort) (fun y hy => by
      obtain ⟨i, hi, rfl⟩ := List.mem_iff_getElem.1 hy
      have := h.low i hi hi
      simpa [leD] using this) (fun y hy => by cases hy)
    simpa using this
  | true =>
    obtain ⟨hj, hj2, hj3⟩ := h.at_ rfl
    simp only [cond_true, nxt, List.take_length]
    rw [← hfin]
    have := ins_at cmpD.tp (a := out.take j) (b := out.drop j) (x := x) (by rw [List.take_append_drop]; exact hsort) (fun y hy => by
      obtain ⟨i, hi, rfl⟩ := List.mem_iff_getElem.1 hy
      rw [List.length_take] at hi
      rw [List.getElem_take]
      have := h.low i (by show i < j; omega) (by omega)
      simpa [leD] using this) (fun y hy => by
      rw [List.drop_eq_getElem_cons hj] at hy
      have hq : x.done < y.done := by
        cases hy with
        | head => exact hj3
        | tail _ hy =>
          have hp := hsort
          rw [← List.take_append_drop j out, sorted_app, List.drop_eq_getElem_cons hj] at hp
          have h2 := (List.pairwise_cons.1 hp.2.1).1 y hy
          simp only [leD, decide_eq_true_eq] at h2
          omega
      simp only [leD, decide_eq_false_iff_not]; omega)
    rw [List.take_append_drop] at this
    exact this
theorem nx_len {out : List Ev} {x : Ev} {k j : Nat} {p : Bool} (h : Nx out x k j p) : (nxt out x k j p).length ≤ out.length + 1 := by
  cases p <;> simp [nxt] <;> omega

theorem nx_next {out : List Ev} {x : Ev} {k j : Nat} (h : Nx out x k j true) (hk : k < out.length) : nxt out x (k + 1) j true = nxt out x k j true ++ [out[k]] := by
  obtain ⟨_, hj, _⟩ := h.at_ rfl
  simp only [nxt, cond_true]
  rw [take_snoc hk, List.drop_append_of_le_length (by rw [List.length_take]; omega)]
  simp
theorem nx_t {out : List Ev} {x : Ev} {k j : Nat} (h : Nx out x k j true) (hk : k < out.length) : Nx out x (k + 1) j true := by
  obtain ⟨a, b, c⟩ := h.at_ rfl
  exact ⟨by omega, h.low, fun _ => ⟨a, by omega, c⟩⟩
theorem nx_f {out : List Ev} {x : Ev} {k j : Nat} (h : Nx out x k j false) (hk : k < out.length) (hq : out[k].done ≤ x.done) : Nx out x (k + 1) j false := by
  refine ⟨by omega, fun i hi hi2 => ?_, fun e => by cases e⟩
  have hi : i < k + 1 := hi
  by_cases q : i = k
  · subst q; exact hq
  · exact h.low i (by show i < k; omega) hi2
theorem nx_put {out : List Ev} {x : Ev} {k j : Nat} (h : Nx out x k j false) (hk : k < out.length) (hq : x.done < out[k].done) : Nx out x (k + 1) k true :=
  ⟨by omega, h.low, fun _ => ⟨hk, by omega, hq⟩⟩
theorem nx_put2 {out : List Ev} {x : Ev} {k j : Nat} (hk : k < out.length) : nxt out x (k + 1) k true = (nxt out x k j false ++ [x]) ++ [out[k]] := by
  simp only [nxt, cond_true, cond_false]
  rw [take_snoc hk, List.drop_append_of_le_length (by rw [List.length_take]; omega)]
  simp
set_option maxHeartbeats 4000000 in
theorem refSort_ok (l : List Ev) (hl : l.length ≤ 1000) : OCall Try.prog 16 [.lst (l.map encE)] ((srt leD l).map encE) 11 := by
  refine ocall_of Try.func16 1 rfl (by kernel_rfl) ?_
  conv => whnf
  have hm : (l.map encE).length = l.length := List.length_map ..
  refine aloop (ι := Nat × Bool) (fun s => [(0, .d (.lst (l.map encE))), (3, .own (bif s.2 then 100 else 200)), (4, .d (.int .i64 s.1))]) (fun s => [(bif s.2 then 100 else 200, .row ((srt leD (l.take s.1)).map encE) 11 false)])
    (fun s => s.1 ≤ l.length) (fun s => l.length - s.1) (0, true) (Nat.zero_le _) (le1 (.row 3 100 11) ⟨rfl, rfl⟩ (le_of_cov ⟨rfl, rfl, rfl, trivial⟩ ⟨rfl, trivial⟩ ⟨rfl, rfl, rfl, rfl⟩)) ?_
  rintro ⟨i, b⟩ hi
  simp only at hi ⊢
  cases b with
  | true =>
    have hO : (srt leD (l.take i)).length = i := by rw [srt_len, List.length_take]; omega
    obtain ⟨out, hout⟩ : ∃ out, srt leD (l.take i) = out := ⟨_, rfl⟩
    rw [hout] at hO
    rw [hout]
    conv => whnf
    refine bcase_p (fun h5 => ?_) (fun h5 => ?_) <;> conv => whnf
    · have hi2 : i < l.length := by omega
      repeat (first | (refine bcase_f rfl ?_; conv => whnf) | (refine bcase_t rfl ?_; conv => whnf) | (refine condK_draw (by kernel_rfl) ?_; conv => whnf) | (refine condK_of rfl ?_; conv => whnf) | (refine condK_of (by decide) ?_; conv => whnf) | (refine condK_of (by omega) ?_; conv => whnf) | (refine wrapK_in (w64 (by omega) (by omega)) ?_; conv => whnf))
      refine aloop (ι := Nat × Nat × Bool) (fun s => [(0, .d (.lst (l.map encE))), (3, .own 100), (4, .d (.int .i64 i)), (5, .own 200), (6, .d (.bool s.2.2)), (7, .d (.int .i64 s.1))]) (fun s => [(100, .row (out.map encE) 11 false), (200, .row ((nxt out l[i] s.1 s.2.1 s.2.2).map encE) 11 false)])
        (fun s => Nx out l[i] s.1 s.2.1 s.2.2) (fun s => out.length - s.1) (0, 0, false) ⟨by simp, by simp, by simp⟩ (len [.row 5 200 11, .wk 6 (.d (.bool false))] ⟨⟨rfl, rfl⟩, wk_ff, trivial⟩ (le_of_cov ⟨rfl, rfl, rfl, rfl, rfl, rfl, trivial⟩ ⟨rfl, rfl, trivial⟩ ⟨rfl, rfl, rfl, rfl⟩)) ?_
      rintro ⟨k, j, p⟩ hN
      simp only at hN ⊢
      have hln := nx_len hN
      have hmo : (out.map encE).length = out.length := List.length_map ..
      have hme : ∀ r : List Ev, (r.map encE).length = r.length := fun r => List.length_map ..
      cases p with
      | true =>
        conv => whnf
        refine bcase_p (fun h9 => ?_) (fun h9 => ?_) <;> conv => whnf
        · have hk2 : k < out.length := by omega
          repeat (first | (refine bcase_f rfl ?_; conv => whnf) | (refine bcase_t rfl ?_; conv => whnf) | (refine condK_draw (by kernel_rfl) ?_; conv => whnf) | (refine condK_of rfl ?_; conv => whnf) | (refine condK_of (by decide) ?_; conv => whnf) | (refine condK_of (by omega) ?_; conv => whnf) | (refine wrapK_in (w64 (by omega) (by omega)) ?_; conv => whnf))
          refine idxK_nat (by omega) ?_
          conv => whnf
          refine getRow_of (x := encE out[k]) (by simp [hk2]) ?_
          conv => whnf
          repeat (first | (refine bcase_f rfl ?_; conv => whnf) | (refine bcase_t rfl ?_; conv => whnf) | (refine condK_draw (by kernel_rfl) ?_; conv => whnf) | (refine condK_of rfl ?_; conv => whnf) | (refine condK_of (by decide) ?_; conv => whnf) | (refine condK_of (by omega) ?_; conv => whnf) | (refine wrapK_in (w64 (by omega) (by omega)) ?_; conv => whnf))
          refine roomK_le 1000100 1000 (by show List.length _ + 1 ≤ 1000100; rw [hme]; omega) (by decide) (by decide) (by decide) ?_
          conv => whnf
          repeat (first | (refine bcase_f rfl ?_; conv => whnf) | (refine bcase_t rfl ?_; conv => whnf) | (refine condK_draw (by kernel_rfl) ?_; conv => whnf) | (refine condK_of rfl ?_; conv => whnf) | (refine condK_of (by decide) ?_; conv => whnf) | (refine condK_of (by omega) ?_; conv => whnf) | (refine wrapK_in (w64 (by omega) (by omega)) ?_; conv => whnf))
          have er : (nxt out l[i] k j true).map encE ++ [encE out[k]] = (nxt out l[i] (k + 1) j true).map encE := by rw [nx_next hN hk2, List.map_append]; rfl
          refine ⟨(k + 1, j, true), nx_t hN hk2, by simp only []; omega, le0 (le_of_cov ⟨?_, ?_, ?_, ?_, ?_, ?_, trivial⟩ ⟨?_, ?_, trivial⟩ ⟨?_, ?_, ?_, ?_⟩)⟩
          · kernel_rfl
          · kernel_rfl
          · kernel_rfl
          · kernel_rfl
          · kernel_rfl
          · kernel_rfl
          · kernel_rfl
          · rw [← er]; kernel_rfl
          · kernel_rfl
          · kernel_rfl
          · kernel_rfl
          · kernel_rfl
        · repeat (first | (refine bcase_f rfl ?_; conv => whnf) | (refine bcase_t rfl ?_; conv => whnf) | (refine condK_draw (by kernel_rfl) ?_; conv => whnf) | (refine condK_of rfl ?_; conv => whnf) | (refine condK_of (by decide) ?_; conv => whnf) | (refine condK_of (by omega) ?_; conv => whnf) | (refine wrapK_in (w64 (by omega) (by omega)) ?_; conv => whnf))
          have he := nx_end hN (by omega) hout.symm
          simp only [cond_true] at he
          rw [← take_snoc hi2] at he
          refine ⟨(i + 1, false), by simp only []; omega, by simp only []; omega, le0 (le_of_cov ⟨?_, ?_, ?_, trivial⟩ ⟨?_, trivial⟩ ⟨?_, ?_, ?_, ?_⟩)⟩
          · kernel_rfl
          · kernel_rfl
          · kernel_rfl
          · simp only; rw [← he]; kernel_rfl
          · kernel_rfl
          · kernel_rfl
          · kernel_rfl
          · kernel_rfl
      | false =>
        conv => whnf
        refine bcase_p (fun h9 => ?_) (fun h9 => ?_) <;> conv => whnf
        · have hk2 : k < out.length := by omega
          repeat (first | (refine bcase_f rfl ?_; conv => whnf) | (refine bcase_t rfl ?_; conv => whnf) | (refine condK_draw (by kernel_rfl) ?_; conv => whnf) | (refine condK_of rfl ?_; conv => whnf) | (refine condK_of (by decide) ?_; conv => whnf) | (refine condK_of (by omega) ?_; conv => whnf) | (refine wrapK_in (w64 (by omega) (by omega)) ?_; conv => whnf))
          refine idxK_nat (by omega) ?_
          conv => whnf
          refine getRow_of (x := encE out[k]) (by simp [hk2]) ?_
          conv => whnf
          repeat (first | (refine bcase_f rfl ?_; conv => whnf) | (refine bcase_t rfl ?_; conv => whnf) | (refine condK_draw (by kernel_rfl) ?_; conv => whnf) | (refine condK_of rfl ?_; conv => whnf) | (refine condK_of (by decide) ?_; conv => whnf) | (refine condK_of (by omega) ?_; conv => whnf) | (refine wrapK_in (w64 (by omega) (by omega)) ?_; conv => whnf))
          refine idxK_nat (by omega) ?_
          conv => whnf
          refine getRow_of (x := encE l[i]) (by simp [hi2]) ?_
          conv => whnf
          repeat (first | (refine bcase_f rfl ?_; conv => whnf) | (refine bcase_t rfl ?_; conv => whnf) | (refine condK_draw (by kernel_rfl) ?_; conv => whnf) | (refine condK_of rfl ?_; conv => whnf) | (refine condK_of (by decide) ?_; conv => whnf) | (refine condK_of (by omega) ?_; conv => whnf) | (refine wrapK_in (w64 (by omega) (by omega)) ?_; conv => whnf))
          refine bcase_p (fun g => ?_) (fun g => ?_) <;> conv => whnf
          · repeat (first | (refine bcase_f rfl ?_; conv => whnf) | (refine bcase_t rfl ?_; conv => whnf) | (refine condK_draw (by kernel_rfl) ?_; conv => whnf) | (refine condK_of rfl ?_; conv => whnf) | (refine condK_of (by decide) ?_; conv => whnf) | (refine condK_of (by omega) ?_; conv => whnf) | (refine wrapK_in (w64 (by omega) (by omega)) ?_; conv => whnf))
            refine idxK_nat (by omega) ?_
            conv => whnf
            refine getRow_of (x := encE l[i]) (by simp [hi2]) ?_
            conv => whnf
            repeat (first | (refine bcase_f rfl ?_; conv => whnf) | (refine bcase_t rfl ?_; conv => whnf) | (refine condK_draw (by kernel_rfl) ?_; conv => whnf) | (refine condK_of rfl ?_; conv => whnf) | (refine condK_of (by decide) ?_; conv => whnf) | (refine condK_of (by omega) ?_; conv => whnf) | (refine wrapK_in (w64 (by omega) (by omega)) ?_; conv => whnf))
            refine roomK_le 1000100 1000 (by show List.length _ + 1 ≤ 1000100; rw [hme]; omega) (by decide) (by decide) (by decide) ?_
            conv => whnf
            repeat (first | (refine bcase_f rfl ?_; conv => whnf) | (refine bcase_t rfl ?_; conv => whnf) | (refine condK_draw (by kernel_rfl) ?_; conv => whnf) | (refine condK_of rfl ?_; conv => whnf) | (refine condK_of (by decide) ?_; conv => whnf) | (refine condK_of (by omega) ?_; conv => whnf) | (refine wrapK_in (w64 (by omega) (by omega)) ?_; conv => whnf))
            refine idxK_nat (by omega) ?_
            conv => whnf
            refine getRow_of (x := encE out[k]) (by simp [hk2]) ?_
            conv => whnf
            repeat (first | (refine bcase_f rfl ?_; conv => whnf) | (refine bcase_t rfl ?_; conv => whnf) | (refine condK_draw (by kernel_rfl) ?_; conv => whnf) | (refine condK_of rfl ?_; conv => whnf) | (refine condK_of (by decide) ?_; conv => whnf) | (refine condK_of (by omega) ?_; conv => whnf) | (refine wrapK_in (w64 (by omega) (by omega)) ?_; conv => whnf))
            refine roomK_le 1000100 1000 (by show List.length (_ ++ _) + 1 ≤ 1000100; rw [List.length_append, hme]; show _ + 1 + 1 ≤ 1000100; omega) (by decide) (by decide) (by decide) ?_
            conv => whnf
            repeat (first | (refine bcase_f rfl ?_; conv => whnf) | (refine bcase_t rfl ?_; conv => whnf) | (refine condK_draw (by kernel_rfl) ?_; conv => whnf) | (refine condK_of rfl ?_; conv => whnf) | (refine condK_of (by decide) ?_; conv => whnf) | (refine condK_of (by omega) ?_; conv => whnf) | (refine wrapK_in (w64 (by omega) (by omega)) ?_; conv => whnf))
            have er : ((nxt out l[i] k j false).map encE ++ [encE l[i]]) ++ [encE out[k]] = (nxt out l[i] (k + 1) k true).map encE := by rw [nx_put2 (j := j) hk2, List.map_append, List.map_append]; rfl
            refine ⟨(k + 1, k, true), nx_put hN hk2 g, by simp only []; omega, len [.wk 6 (.d (.bool true))] ⟨wk_tt, trivial⟩ (le_of_cov ⟨?_, ?_, ?_, ?_, ?_, ?_, trivial⟩ ⟨?_, ?_, trivial⟩ ⟨?_, ?_, ?_, ?_⟩)⟩
            · kernel_rfl
            · kernel_rfl
            · kernel_rfl
            · kernel_rfl
            · kernel_rfl
            · kernel_rfl
            · kernel_rfl
            · rw [← er]; kernel_rfl
            · kernel_rfl
            · kernel_rfl
            · kernel_rfl
            · kernel_rfl
          · repeat (first | (refine bcase_f rfl ?_; conv => whnf) | (refine bcase_t rfl ?_; conv => whnf) | (refine condK_draw (by kernel_rfl) ?_; conv => whnf) | (refine condK_of rfl ?_; conv => whnf) | (refine condK_of (by decide) ?_; conv => whnf) | (refine condK_of (by omega) ?_; conv => whnf) | (refine wrapK_in (w64 (by omega) (by omega)) ?_; conv => whnf))
            refine idxK_nat (by omega) ?_
            conv => whnf
            refine getRow_of (x := encE out[k]) (by simp [hk2]) ?_
            conv => whnf
            repeat (first | (refine bcase_f rfl ?_; conv => whnf) | (refine bcase_t rfl ?_; conv => whnf) | (refine condK_draw (by kernel_rfl) ?_; conv => whnf) | (refine condK_of rfl ?_; conv => whnf) | (refine condK_of (by decide) ?_; conv => whnf) | (refine condK_of (by omega) ?_; conv => whnf) | (refine wrapK_in (w64 (by omega) (by omega)) ?_; conv => whnf))
            refine roomK_le 1000100 1000 (by show List.length _ + 1 ≤ 1000100; rw [hme]; omega) (by decide) (by decide) (by decide) ?_
            conv => whnf
            repeat (first | (refine bcase_f rfl ?_; conv => whnf) | (refine bcase_t rfl ?_; conv => whnf) | (refine condK_draw (by kernel_rfl) ?_; conv => whnf) | (refine condK_of rfl ?_; conv => whnf) | (refine condK_of (by decide) ?_; conv => whnf) | (refine condK_of (by omega) ?_; conv => whnf) | (refine wrapK_in (w64 (by omega) (by omega)) ?_; conv => whnf))
            have er : (nxt out l[i] k j false).map encE ++ [encE out[k]] = (nxt out l[i] (k + 1) j false).map encE := by
              simp only [nxt, cond_false]; rw [take_snoc hk2, List.map_append]; rfl
            refine ⟨(k + 1, j, false), nx_f hN hk2 (by omega), by simp only []; omega, le0 (le_of_cov ⟨?_, ?_, ?_, ?_, ?_, ?_, trivial⟩ ⟨?_, ?_, trivial⟩ ⟨?_, ?_, ?_, ?_⟩)⟩
            · kernel_rfl
            · kernel_rfl
            · kernel_rfl
            · kernel_rfl
            · kernel_rfl
            · kernel_rfl
            · kernel_rfl
            · rw [← er]; kernel_rfl
            · kernel_rfl
            · kernel_rfl
            · kernel_rfl
            · kernel_rfl
        · repeat (first | (refine bcase_f rfl ?_; conv => whnf) | (refine bcase_t rfl ?_; conv => whnf) | (refine condK_draw (by kernel_rfl) ?_; conv => whnf) | (refine condK_of rfl ?_; conv => whnf) | (refine condK_of (by decide) ?_; conv => whnf) | (refine condK_of (by omega) ?_; conv => whnf) | (refine wrapK_in (w64 (by omega) (by omega)) ?_; conv => whnf))
          refine idxK_nat (by omega) ?_
          conv => whnf
          refine getRow_of (x := encE l[i]) (by simp [hi2]) ?_
          conv => whnf
          repeat (first | (refine bcase_f rfl ?_; conv => whnf) | (refine bcase_t rfl ?_; conv => whnf) | (refine condK_draw (by kernel_rfl) ?_; conv => whnf) | (refine condK_of rfl ?_; conv => whnf) | (refine condK_of (by decide) ?_; conv => whnf) | (refine condK_of (by omega) ?_; conv => whnf) | (refine wrapK_in (w64 (by omega) (by omega)) ?_; conv => whnf))
          refine roomK_le 1000100 1000 (by show List.length _ + 1 ≤ 1000100; rw [hme]; omega) (by decide) (by decide) (by decide) ?_
          conv => whnf
          repeat (first | (refine bcase_f rfl ?_; conv => whnf) | (refine bcase_t rfl ?_; conv => whnf) | (refine condK_draw (by kernel_rfl) ?_; conv => whnf) | (refine condK_of rfl ?_; conv => whnf) | (refine condK_of (by decide) ?_; conv => whnf) | (refine condK_of (by omega) ?_; conv => whnf) | (refine wrapK_in (w64 (by omega) (by omega)) ?_; conv => whnf))
          have he := nx_end hN (by omega) hout.symm
          simp only [cond_false] at he
          rw [← take_snoc hi2] at he
          have er : (nxt out l[i] k j false).map encE ++ [encE l[i]] = (srt leD (l.take (i + 1))).map encE := by rw [← he, List.map_append]; rfl
          refine ⟨(i + 1, false), by simp only []; omega, by simp only []; omega, le0 (le_of_cov ⟨?_, ?_, ?_, trivial⟩ ⟨?_, trivial⟩ ⟨?_, ?_, ?_, ?_⟩)⟩
          · kernel_rfl
          · kernel_rfl
          · kernel_rfl
          · simp only; rw [← er]; kernel_rfl
          · kernel_rfl
          · kernel_rfl
          · kernel_rfl
          · kernel_rfl
    · repeat (first | (refine bcase_f rfl ?_; conv => whnf) | (refine bcase_t rfl ?_; conv => whnf) | (refine condK_draw (by kernel_rfl) ?_; conv => whnf) | (refine condK_of rfl ?_; conv => whnf) | (refine condK_of (by decide) ?_; conv => whnf) | (refine condK_of (by omega) ?_; conv => whnf) | (refine wrapK_in (w64 (by omega) (by omega)) ?_; conv => whnf))
      have ei : l.take i = l := List.take_of_length_le (by omega)
      rw [ei] at hout
      rw [hout]
      exact ⟨2, rfl, .inl ⟨100, rfl, rfl⟩⟩
  | false =>
    have hO : (srt leD (l.take i)).length = i := by rw [srt_len, List.length_take]; omega
    obtain ⟨out, hout⟩ : ∃ out, srt leD (l.take i) = out := ⟨_, rfl⟩
    rw [hout] at hO
    rw [hout]
    conv => whnf
    refine bcase_p (fun h5 => ?_) (fun h5 => ?_) <;> conv => whnf
    · have hi2 : i < l.length := by omega
      repeat (first | (refine bcase_f rfl ?_; conv => whnf) | (refine bcase_t rfl ?_; conv => whnf) | (refine condK_draw (by kernel_rfl) ?_; conv => whnf) | (refine condK_of rfl ?_; conv => whnf) | (refine condK_of (by decide) ?_; conv => whnf) | (refine condK_of (by omega) ?_; conv => whnf) | (refine wrapK_in (w64 (by omega) (by omega)) ?_; conv => whnf))
      refine aloop (ι := Nat × Nat × Bool) (fun s => [(0, .d (.lst (l.map encE))), (3, .own 200), (4, .d (.int .i64 i)), (5, .own 100), (6, .d (.bool s.2.2)), (7, .d (.int .i64 s.1))]) (fun s => [(200, .row (out.map encE) 11 false), (100, .row ((nxt out l[i] s.1 s.2.1 s.2.2).map encE) 11 false)])
        (fun s => Nx out l[i] s.1 s.2.1 s.2.2) (fun s => out.length - s.1) (0, 0, false) ⟨by simp, by simp, by simp⟩ (len [.row 5 100 11, .wk 6 (.d (.bool false))] ⟨⟨rfl, rfl⟩, wk_ff, trivial⟩ (le_of_cov ⟨rfl, rfl, rfl, rfl, rfl, rfl, trivial⟩ ⟨rfl, rfl, trivial⟩ ⟨rfl, rfl, rfl, rfl⟩)) ?_
      rintro ⟨k, j, p⟩ hN
      simp only at hN ⊢
      have hln := nx_len hN
      have hmo : (out.map encE).length = out.length := List.length_map ..
      have hme : ∀ r : List Ev, (r.map encE).length = r.length := fun r => List.length_map ..
      cases p with
      | true =>
        conv => whnf
        refine bcase_p (fun h9 => ?_) (fun h9 => ?_) <;> conv => whnf
        · have hk2 : k < out.length := by omega
          repeat (first | (refine bcase_f rfl ?_; conv => whnf) | (refine bcase_t rfl ?_; conv => whnf) | (refine condK_draw (by kernel_rfl) ?_; conv => whnf) | (refine condK_of rfl ?_; conv => whnf) | (refine condK_of (by decide) ?_; conv => whnf) | (refine condK_of (by omega) ?_; conv => whnf) | (refine wrapK_in (w64 (by omega) (by omega)) ?_; conv => whnf))
          refine idxK_nat (by omega) ?_
          conv => whnf
          refine getRow_of (x := encE out[k]) (by simp [hk2]) ?_
          conv => whnf
          repeat (first | (refine bcase_f rfl ?_; conv => whnf) | (refine bcase_t rfl ?_; conv => whnf) | (refine condK_draw (by kernel_rfl) ?_; conv => whnf) | (refine condK_of rfl ?_; conv => whnf) | (refine condK_of (by decide) ?_; conv => whnf) | (refine condK_of (by omega) ?_; conv => whnf) | (refine wrapK_in (w64 (by omega) (by omega)) ?_; conv => whnf))
          refine roomK_le 1000100 1000 (by show List.length _ + 1 ≤ 1000100; rw [hme]; omega) (by decide) (by decide) (by decide) ?_
          conv => whnf
          repeat (first | (refine bcase_f rfl ?_; conv => whnf) | (refine bcase_t rfl ?_; conv => whnf) | (refine condK_draw (by kernel_rfl) ?_; conv => whnf) | (refine condK_of rfl ?_; conv => whnf) | (refine condK_of (by decide) ?_; conv => whnf) | (refine condK_of (by omega) ?_; conv => whnf) | (refine wrapK_in (w64 (by omega) (by omega)) ?_; conv => whnf))
          have er : (nxt out l[i] k j true).map encE ++ [encE out[k]] = (nxt out l[i] (k + 1) j true).map encE := by rw [nx_next hN hk2, List.map_append]; rfl
          refine ⟨(k + 1, j, true), nx_t hN hk2, by simp only []; omega, le0 (le_of_cov ⟨?_, ?_, ?_, ?_, ?_, ?_, trivial⟩ ⟨?_, ?_, trivial⟩ ⟨?_, ?_, ?_, ?_⟩)⟩
          · kernel_rfl
          · kernel_rfl
          · kernel_rfl
          · kernel_rfl
          · kernel_rfl
          · kernel_rfl
          · kernel_rfl
          · rw [← er]; kernel_rfl
          · kernel_rfl
          · kernel_rfl
          · kernel_rfl
          · kernel_rfl
        · repeat (first | (refine bcase_f rfl ?_; conv => whnf) | (refine bcase_t rfl ?_; conv => whnf) | (refine condK_draw (by kernel_rfl) ?_; conv => whnf) | (refine condK_of rfl ?_; conv => whnf) | (refine condK_of (by decide) ?_; conv => whnf) | (refine condK_of (by omega) ?_; conv => whnf) | (refine wrapK_in (w64 (by omega) (by omega)) ?_; conv => whnf))
          have he := nx_end hN (by omega) hout.symm
          simp only [cond_true] at he
          rw [← take_snoc hi2] at he
          refine ⟨(i + 1, true), by simp only []; omega, by simp only []; omega, le0 (le_of_cov ⟨?_, ?_, ?_, trivial⟩ ⟨?_, trivial⟩ ⟨?_, ?_, ?_, ?_⟩)⟩
          · kernel_rfl
          · kernel_rfl
          · kernel_rfl
          · simp only; rw [← he]; kernel_rfl
          · kernel_rfl
          · kernel_rfl
          · kernel_rfl
          · kernel_rfl
      | false =>
        conv => whnf
        refine bcase_p (fun h9 => ?_) (fun h9 => ?_) <;> conv => whnf
        · have hk2 : k < out.length := by omega
          repeat (first | (refine bcase_f rfl ?_; conv => whnf) | (refine bcase_t rfl ?_; conv => whnf) | (refine condK_draw (by kernel_rfl) ?_; conv => whnf) | (refine condK_of rfl ?_; conv => whnf) | (refine condK_of (by decide) ?_; conv => whnf) | (refine condK_of (by omega) ?_; conv => whnf) | (refine wrapK_in (w64 (by omega) (by omega)) ?_; conv => whnf))
          refine idxK_nat (by omega) ?_
          conv => whnf
          refine getRow_of (x := encE out[k]) (by simp [hk2]) ?_
          conv => whnf
          repeat (first | (refine bcase_f rfl ?_; conv => whnf) | (refine bcase_t rfl ?_; conv => whnf) | (refine condK_draw (by kernel_rfl) ?_; conv => whnf) | (refine condK_of rfl ?_; conv => whnf) | (refine condK_of (by decide) ?_; conv => whnf) | (refine condK_of (by omega) ?_; conv => whnf) | (refine wrapK_in (w64 (by omega) (by omega)) ?_; conv => whnf))
          refine idxK_nat (by omega) ?_
          conv => whnf
          refine getRow_of (x := encE l[i]) (by simp [hi2]) ?_
          conv => whnf
          repeat (first | (refine bcase_f rfl ?_; conv => whnf) | (refine bcase_t rfl ?_; conv => whnf) | (refine condK_draw (by kernel_rfl) ?_; conv => whnf) | (refine condK_of rfl ?_; conv => whnf) | (refine condK_of (by decide) ?_; conv => whnf) | (refine condK_of (by omega) ?_; conv => whnf) | (refine wrapK_in (w64 (by omega) (by omega)) ?_; conv => whnf))
          refine bcase_p (fun g => ?_) (fun g => ?_) <;> conv => whnf
          · repeat (first | (refine bcase_f rfl ?_; conv => whnf) | (refine bcase_t rfl ?_; conv => whnf) | (refine condK_draw (by kernel_rfl) ?_; conv => whnf) | (refine condK_of rfl ?_; conv => whnf) | (refine condK_of (by decide) ?_; conv => whnf) | (refine condK_of (by omega) ?_; conv => whnf) | (refine wrapK_in (w64 (by omega) (by omega)) ?_; conv => whnf))
            refine idxK_nat (by omega) ?_
            conv => whnf
            refine getRow_of (x := encE l[i]) (by simp [hi2]) ?_
            conv => whnf
            repeat (first | (refine bcase_f rfl ?_; conv => whnf) | (refine bcase_t rfl ?_; conv => whnf) | (refine condK_draw (by kernel_rfl) ?_; conv => whnf) | (refine condK_of rfl ?_; conv => whnf) | (refine condK_of (by decide) ?_; conv => whnf) | (refine condK_of (by omega) ?_; conv => whnf) | (refine wrapK_in (w64 (by omega) (by omega)) ?_; conv => whnf))
            refine roomK_le 1000100 1000 (by show List.length _ + 1 ≤ 1000100; rw [hme]; omega) (by decide) (by decide) (by decide) ?_
            conv => whnf
            repeat (first | (refine bcase_f rfl ?_; conv => whnf) | (refine bcase_t rfl ?_; conv => whnf) | (refine condK_draw (by kernel_rfl) ?_; conv => whnf) | (refine condK_of rfl ?_; conv => whnf) | (refine condK_of (by decide) ?_; conv => whnf) | (refine condK_of (by omega) ?_; conv => whnf) | (refine wrapK_in (w64 (by omega) (by omega)) ?_; conv => whnf))
            refine idxK_nat (by omega) ?_
            conv => whnf
            refine getRow_of (x := encE out[k]) (by simp [hk2]) ?_
            conv => whnf
            repeat (first | (refine bcase_f rfl ?_; conv => whnf) | (refine bcase_t rfl ?_; conv => whnf) | (refine condK_draw (by kernel_rfl) ?_; conv => whnf) | (refine condK_of rfl ?_; conv => whnf) | (refine condK_of (by decide) ?_; conv => whnf) | (refine condK_of (by omega) ?_; conv => whnf) | (refine wrapK_in (w64 (by omega) (by omega)) ?_; conv => whnf))
            refine roomK_le 1000100 1000 (by show List.length (_ ++ _) + 1 ≤ 1000100; rw [List.length_append, hme]; show _ + 1 + 1 ≤ 1000100; omega) (by decide) (by decide) (by decide) ?_
            conv => whnf
            repeat (first | (refine bcase_f rfl ?_; conv => whnf) | (refine bcase_t rfl ?_; conv => whnf) | (refine condK_draw (by kernel_rfl) ?_; conv => whnf) | (refine condK_of rfl ?_; conv => whnf) | (refine condK_of (by decide) ?_; conv => whnf) | (refine condK_of (by omega) ?_; conv => whnf) | (refine wrapK_in (w64 (by omega) (by omega)) ?_; conv => whnf))
            have er : ((nxt out l[i] k j false).map encE ++ [encE l[i]]) ++ [encE out[k]] = (nxt out l[i] (k + 1) k true).map encE := by rw [nx_put2 (j := j) hk2, List.map_append, List.map_append]; rfl
            refine ⟨(k + 1, k, true), nx_put hN hk2 g, by simp only []; omega, len [.wk 6 (.d (.bool true))] ⟨wk_tt, trivial⟩ (le_of_cov ⟨?_, ?_, ?_, ?_, ?_, ?_, trivial⟩ ⟨?_, ?_, trivial⟩ ⟨?_, ?_, ?_, ?_⟩)⟩
            · kernel_rfl
            · kernel_rfl
            · kernel_rfl
            · kernel_rfl
            · kernel_rfl
            · kernel_rfl
            · kernel_rfl
            · rw [← er]; kernel_rfl
            · kernel_rfl
            · kernel_rfl
            · kernel_rfl
            · kernel_rfl
          · repeat (first | (refine bcase_f rfl ?_; conv => whnf) | (refine bcase_t rfl ?_; conv => whnf) | (refine condK_draw (by kernel_rfl) ?_; conv => whnf) | (refine condK_of rfl ?_; conv => whnf) | (refine condK_of (by decide) ?_; conv => whnf) | (refine condK_of (by omega) ?_; conv => whnf) | (refine wrapK_in (w64 (by omega) (by omega)) ?_; conv => whnf))
            refine idxK_nat (by omega) ?_
            conv => whnf
            refine getRow_of (x := encE out[k]) (by simp [hk2]) ?_
            conv => whnf
            repeat (first | (refine bcase_f rfl ?_; conv => whnf) | (refine bcase_t rfl ?_; conv => whnf) | (refine condK_draw (by kernel_rfl) ?_; conv => whnf) | (refine condK_of rfl ?_; conv => whnf) | (refine condK_of (by decide) ?_; conv => whnf) | (refine condK_of (by omega) ?_; conv => whnf) | (refine wrapK_in (w64 (by omega) (by omega)) ?_; conv => whnf))
            refine roomK_le 1000100 1000 (by show List.length _ + 1 ≤ 1000100; rw [hme]; omega) (by decide) (by decide) (by decide) ?_
            conv => whnf
            repeat (first | (refine bcase_f rfl ?_; conv => whnf) | (refine bcase_t rfl ?_; conv => whnf) | (refine condK_draw (by kernel_rfl) ?_; conv => whnf) | (refine condK_of rfl ?_; conv => whnf) | (refine condK_of (by decide) ?_; conv => whnf) | (refine condK_of (by omega) ?_; conv => whnf) | (refine wrapK_in (w64 (by omega) (by omega)) ?_; conv => whnf))
            have er : (nxt out l[i] k j false).map encE ++ [encE out[k]] = (nxt out l[i] (k + 1) j false).map encE := by
              simp only [nxt, cond_false]; rw [take_snoc hk2, List.map_append]; rfl
            refine ⟨(k + 1, j, false), nx_f hN hk2 (by omega), by simp only []; omega, le0 (le_of_cov ⟨?_, ?_, ?_, ?_, ?_, ?_, trivial⟩ ⟨?_, ?_, trivial⟩ ⟨?_, ?_, ?_, ?_⟩)⟩
            · kernel_rfl
            · kernel_rfl
            · kernel_rfl
            · kernel_rfl
            · kernel_rfl
            · kernel_rfl
            · kernel_rfl
            · rw [← er]; kernel_rfl
            · kernel_rfl
            · kernel_rfl
            · kernel_rfl
            · kernel_rfl
        · repeat (first | (refine bcase_f rfl ?_; conv => whnf) | (refine bcase_t rfl ?_; conv => whnf) | (refine condK_draw (by kernel_rfl) ?_; conv => whnf) | (refine condK_of rfl ?_; conv => whnf) | (refine condK_of (by decide) ?_; conv => whnf) | (refine condK_of (by omega) ?_; conv => whnf) | (refine wrapK_in (w64 (by omega) (by omega)) ?_; conv => whnf))
          refine idxK_nat (by omega) ?_
          conv => whnf
          refine getRow_of (x := encE l[i]) (by simp [hi2]) ?_
          conv => whnf
          repeat (first | (refine bcase_f rfl ?_; conv => whnf) | (refine bcase_t rfl ?_; conv => whnf) | (refine condK_draw (by kernel_rfl) ?_; conv => whnf) | (refine condK_of rfl ?_; conv => whnf) | (refine condK_of (by decide) ?_; conv => whnf) | (refine condK_of (by omega) ?_; conv => whnf) | (refine wrapK_in (w64 (by omega) (by omega)) ?_; conv => whnf))
          refine roomK_le 1000100 1000 (by show List.length _ + 1 ≤ 1000100; rw [hme]; omega) (by decide) (by decide) (by decide) ?_
          conv => whnf
          repeat (first | (refine bcase_f rfl ?_; conv => whnf) | (refine bcase_t rfl ?_; conv => whnf) | (refine condK_draw (by kernel_rfl) ?_; conv => whnf) | (refine condK_of rfl ?_; conv => whnf) | (refine condK_of (by decide) ?_; conv => whnf) | (refine condK_of (by omega) ?_; conv => whnf) | (refine wrapK_in (w64 (by omega) (by omega)) ?_; conv => whnf))
          have he := nx_end hN (by omega) hout.symm
          simp only [cond_false] at he
          rw [← take_snoc hi2] at he
          have er : (nxt out l[i] k j false).map encE ++ [encE l[i]] = (srt leD (l.take (i + 1))).map encE := by rw [← he, List.map_append]; rfl
          refine ⟨(i + 1, true), by simp only []; omega, by simp only []; omega, le0 (le_of_cov ⟨?_, ?_, ?_, trivial⟩ ⟨?_, trivial⟩ ⟨?_, ?_, ?_, ?_⟩)⟩
          · kernel_rfl
          · kernel_rfl
          · kernel_rfl
          · simp only; rw [← er]; kernel_rfl
          · kernel_rfl
          · kernel_rfl
          · kernel_rfl
          · kernel_rfl
    · repeat (first | (refine bcase_f rfl ?_; conv => whnf) | (refine bcase_t rfl ?_; conv => whnf) | (refine condK_draw (by kernel_rfl) ?_; conv => whnf) | (refine condK_of rfl ?_; conv => whnf) | (refine condK_of (by decide) ?_; conv => whnf) | (refine condK_of (by omega) ?_; conv => whnf) | (refine wrapK_in (w64 (by omega) (by omega)) ?_; conv => whnf))
      have ei : l.take i = l := List.take_of_length_le (by omega)
      rw [ei] at hout
      rw [hout]
      exact ⟨2, rfl, .inl ⟨200, rfl, rfl⟩⟩
end Go.Lk

