/-
  the stable sort: swapRange, rotate, insertion sort.
-/
import Derived.Test.YtmkjebpdcclfdaaSa
import Derived.Test.YtmkjebpdcclfdaaFj
set_option linter.unusedSectionVars false
set_option linter.unusedSimpArgs false
set_option linter.unusedVariables false
set_option linter.unnecessarySimpa false
namespace Go.Lk
open Go Go.Proofs Go.RowKit Go.Lk.St

/-! ### events -/
structure Ev where
  who : Int
  kind : Int
  id : Int
  body : ByteArray
  e : Int
  pid : Int
  ver : Int
  text : ByteArray
  began : Int
  done : Int
  ended : Int
def encE (x : Ev) : List D := [.int .i64 x.who, .int .i64 x.kind, .int .i64 x.id, .str x.body, .int .i64 x.e, .int .i64 x.pid, .int .i64 x.ver, .str x.text, .int .i64 x.began, .int .i64 x.done, .int .i64 x.ended]
theorem encE_ok : ∀ (l : List Ev), okRows 11 (l.map encE) = true
  | [] => rfl
  | _ :: r => encE_ok r
structure Cmp (cf : FuncId) (le : Ev → Ev → Bool) : Prop where
  tp : TP le
  call : ∀ x y, ∃ c : Int, ACall Try.prog cf [.agg (encE x), .agg (encE y)] (.int .i64 c) ∧ (c < 0 ↔ le y x = false)

theorem set_mid {α : Type} {P Q : List α} {x y : α} {i : Nat} (h : i = P.length) : (P ++ x :: Q).set i y = P ++ y :: Q := by subst h; simp
theorem get_mid {α : Type} {P Q : List α} {x : α} {i : Nat} (h : i = P.length) : (P ++ x :: Q)[i]? = some x := by subst h; simp
theorem setE_enc (l : List Ev) (i : Nat) (x : Ev) : (l.map encE).set i (encE x) = (l.set i x).map encE := by rw [List.map_set]
theorem getE_enc {l : List Ev} {i : Nat} {x : Ev} (h : l[i]? = some x) : (l.map encE)[i]? = some (encE x) := by rw [List.getElem?_map, h]; rfl

/-- two blocks, the first k of each swapped -/
def swR (A X B Y C : List Ev) (k : Nat) : List Ev := A ++ ((Y.take k ++ X.drop k) ++ (B ++ ((X.take k ++ Y.drop k) ++ C)))
theorem swR_one {A X B Y C : List Ev} {k : Nat} (hX : k < X.length) (hY : k < Y.length) : swR A X B Y C k = (A ++ Y.take k) ++ X[k] :: (X.drop (k + 1) ++ (B ++ ((X.take k ++ Y.drop k) ++ C))) := by
  rw [swR, drop_cons hX]; simp only [List.append_assoc, List.cons_append]
theorem swR_two {A X B Y C : List Ev} {k : Nat} (hX : k < X.length) (hY : k < Y.length) : swR A X B Y C k = (A ++ ((Y.take k ++ X.drop k) ++ (B ++ X.take k))) ++ Y[k] :: (Y.drop (k + 1) ++ C) := by
  rw [swR, drop_cons hY]; simp only [List.append_assoc, List.cons_append]
theorem swR_set {A X B Y C : List Ev} {k i j : Nat} (hX : k < X.length) (hY : k < Y.length) (hl : X.length = Y.length) (hi : i = A.length + k) (hj : j = A.length + X.length + B.length + k) :
    (swR A X B Y C k)[i]? = some X[k] ∧ (swR A X B Y C k)[j]? = some Y[k] ∧ ((swR A X B Y C k).set i Y[k])[j]? = some Y[k] ∧ ((swR A X B Y C k).set i Y[k]).set j X[k] = swR A X B Y C (k + 1) ∧ (swR A X B Y C k).length = A.length + X.length + B.length + Y.length + C.length := by
  have tX : (X.take k).length = k := by simp; omega
  have tY : (Y.take k).length = k := by simp; omega
  refine ⟨by rw [swR_one hX hY]; exact get_mid (by simp [tY, hi]), by rw [swR_two hX hY]; exact get_mid (by simp [tX, tY, hj]; omega), ?_, ?_, by simp [swR]; omega⟩
  · rw [swR_one hX hY, set_mid (by simp [tY, hi]), drop_cons hY]
    have : A ++ Y.take k ++ Y[k] :: (X.drop (k + 1) ++ (B ++ (X.take k ++ Y[k] :: Y.drop (k + 1) ++ C))) = (A ++ (Y.take k ++ (Y[k] :: (X.drop (k + 1) ++ (B ++ X.take k))))) ++ Y[k] :: (Y.drop (k + 1) ++ C) := by simp only [List.append_assoc, List.cons_append]
    rw [this]
    exact get_mid (by simp [tX, tY, hj]; omega)
  · rw [swR_one hX hY, set_mid (by simp [tY, hi]), drop_cons hY]
    have : A ++ Y.take k ++ Y[k] :: (X.drop (k + 1) ++ (B ++ (X.take k ++ Y[k] :: Y.drop (k + 1) ++ C))) = (A ++ (Y.take k ++ (Y[k] :: (X.drop (k + 1) ++ (B ++ X.take k))))) ++ Y[k] :: (Y.drop (k + 1) ++ C) := by simp only [List.append_assoc, List.cons_append]
    rw [this, set_mid (by simp [tX, tY, hj]; omega), swR, take_snoc hX, take_snoc hY]
    simp only [List.append_assoc, List.cons_append, List.nil_append]

theorem swapRange_ok (cf : FuncId) (A X B Y C : List Ev) (hl : X.length = Y.length) (hm : A.length + X.length + B.length + Y.length + C.length ≤ 1000000) :
    HCall Try.prog 46 [.own 1000000, .d (.int .i64 A.length), .d (.int .i64 ((A.length + X.length + B.length : Nat) : Int)), .d (.int .i64 X.length), .d (.fn cf [])] [(1000000, .row ((A ++ (X ++ (B ++ (Y ++ C)))).map encE) 11 false)] [(1000000, .row ((A ++ (Y ++ (B ++ (X ++ C)))).map encE) 11 false)] (.tup []) := by
  refine hcall_of Try.func46 5 rfl (by kernel_rfl) (by rfl) ?_
  conv => whnf
  refine aloop (ι := Nat) (fun k => [(0, .own 1000000), (1, .d (.int .i64 A.length)), (2, .d (.int .i64 ((A.length + X.length + B.length : Nat) : Int))), (3, .d (.int .i64 X.length)), (10, .d (.int .i64 k))]) (fun k => [(1000000, .row ((swR A X B Y C k).map encE) 11 false)])
    (fun k => k ≤ X.length) (fun k => X.length - k) 0 (Nat.zero_le _) (le0 (le_of_cov ⟨rfl, rfl, rfl, rfl, rfl, trivial⟩ ⟨rfl, trivial⟩ ⟨rfl, rfl, rfl, rfl⟩)) ?_
  intro k hk
  conv => whnf
  refine bcase_p (fun h => ?_) (fun h => ?_) <;> conv => whnf
  · have hX : k < X.length := by omega
    have hY : k < Y.length := by omega
    obtain ⟨g1, g2, g3, g4, g5⟩ := swR_set (A := A) (B := B) (C := C) hX hY hl rfl rfl
    have hml : ((swR A X B Y C k).map encE).length = A.length + X.length + B.length + Y.length + C.length := by rw [List.length_map, g5]
    have e1 : (A.length : Int) + (k : Int) = ((A.length + k : Nat) : Int) := by omega
    have e2 : ((A.length + X.length + B.length : Nat) : Int) + (k : Int) = ((A.length + X.length + B.length + k : Nat) : Int) := by omega
    repeat (first | (refine bcase_f rfl ?_; conv => whnf) | (refine bcase_t rfl ?_; conv => whnf) | (refine condK_draw (by kernel_rfl) ?_; conv => whnf) | (refine condK_of rfl ?_; conv => whnf) | (refine condK_of (by decide) ?_; conv => whnf) | (refine condK_of (by omega) ?_; conv => whnf) | (refine wrapK_in (w64 (by omega) (by omega)) ?_; conv => whnf))
    rw [e1, e2]
    refine idxK_nat (by omega) ?_
    conv => whnf
    refine getRow_of (getE_enc g2) ?_
    conv => whnf
    repeat (first | (refine bcase_f rfl ?_; conv => whnf) | (refine bcase_t rfl ?_; conv => whnf) | (refine condK_draw (by kernel_rfl) ?_; conv => whnf) | (refine condK_of rfl ?_; conv => whnf) | (refine condK_of (by decide) ?_; conv => whnf) | (refine condK_of (by omega) ?_; conv => whnf) | (refine wrapK_in (w64 (by omega) (by omega)) ?_; conv => whnf))
    refine idxK_nat (by omega) ?_
    conv => whnf
    refine getRow_of (getE_enc g1) ?_
    conv => whnf
    repeat (first | (refine bcase_f rfl ?_; conv => whnf) | (refine bcase_t rfl ?_; conv => whnf) | (refine condK_draw (by kernel_rfl) ?_; conv => whnf) | (refine condK_of rfl ?_; conv => whnf) | (refine condK_of (by decide) ?_; conv => whnf) | (refine condK_of (by omega) ?_; conv => whnf) | (refine wrapK_in (w64 (by omega) (by omega)) ?_; conv => whnf))
    refine idxK_nat (by omega) ?_
    conv => whnf
    refine getRow_of (getE_enc g1) ?_
    conv => whnf
    have s1 : ((swR A X B Y C k).map encE).set (A.length + k) (splice (encE X[k]) 0 (encE Y[k])) = ((swR A X B Y C k).set (A.length + k) Y[k]).map encE := setE_enc _ _ _
    repeat (first | (refine bcase_f rfl ?_; conv => whnf) | (refine bcase_t rfl ?_; conv => whnf) | (refine condK_draw (by kernel_rfl) ?_; conv => whnf) | (refine condK_of rfl ?_; conv => whnf) | (refine condK_of (by decide) ?_; conv => whnf) | (refine condK_of (by omega) ?_; conv => whnf) | (refine wrapK_in (w64 (by omega) (by omega)) ?_; conv => whnf))
    refine idxK_nat (by show _ < (List.set _ _ _).length; rw [List.length_set]; omega) ?_
    conv => whnf
    refine getRow_of (x := encE Y[k]) (by show (List.set _ _ (splice (encE X[k]) 0 (encE Y[k])))[_]? = _; rw [s1]; exact getE_enc g3) ?_
    conv => whnf
    repeat (first | (refine bcase_f rfl ?_; conv => whnf) | (refine bcase_t rfl ?_; conv => whnf) | (refine condK_draw (by kernel_rfl) ?_; conv => whnf) | (refine condK_of rfl ?_; conv => whnf) | (refine condK_of (by decide) ?_; conv => whnf) | (refine condK_of (by omega) ?_; conv => whnf) | (refine wrapK_in (w64 (by omega) (by omega)) ?_; conv => whnf))
    have s2 : (((swR A X B Y C k).map encE).set (A.length + k) (splice (encE X[k]) 0 (encE Y[k]))).set (A.length + X.length + B.length + k) (splice (encE Y[k]) 0 (encE X[k])) = (swR A X B Y C (k + 1)).map encE := by rw [s1, ← g4]; exact setE_enc _ _ _
    exact ⟨k + 1, by omega, by omega, le0 (le_of_cov ⟨rfl, rfl, rfl, rfl, rfl, trivial⟩ ⟨by rw [← s2]; rfl, trivial⟩ ⟨by show some (Blk.row ((swR A X B Y C (k + 1)).map encE) 11 false) = _; rw [← s2]; rfl, rfl, rfl, rfl⟩)⟩
  · have hkl : k = X.length := by omega
    subst hkl
    have e : swR A X B Y C X.length = A ++ (Y ++ (B ++ (X ++ C))) := by simp [swR, List.take_of_length_le, hl]
    rw [e]
    exact hret_of rfl rfl rfl ⟨rfl, trivial⟩
end Go.Lk

set_option linter.unusedSimpArgs false
set_option linter.unusedVariables false
set_option linter.unnecessarySimpa false
namespace Go.Lk
open Go Go.Proofs Go.RowKit Go.Lk.St

theorem split_at {α : Type} {X : List α} {n : Nat} (h : n ≤ X.length) : ∃ X1 X2, X = X1 ++ X2 ∧ X1.length = n := ⟨X.take n, X.drop n, (List.take_append_drop n X).symm, by simp; omega⟩
theorem rotate_ok (cf : FuncId) (A L R C : List Ev) (hL : L ≠ []) (hR : R ≠ []) (hm : A.length + L.length + R.length + C.length ≤ 1000000) :
    HCall Try.prog 44 [.own 1000000, .d (.int .i64 A.length), .d (.int .i64 ((A.length + L.length : Nat) : Int)), .d (.int .i64 ((A.length + L.length + R.length : Nat) : Int)), .d (.fn cf [])] [(1000000, .row ((A ++ (L ++ (R ++ C))).map encE) 11 false)] [(1000000, .row ((A ++ (R ++ (L ++ C))).map encE) 11 false)] (.tup []) := by
  refine hcall_of Try.func44 5 rfl (by kernel_rfl) (by rfl) ?_
  conv => whnf
  have l0 : 0 < L.length := List.length_pos_iff.2 hL
  have r0 : 0 < R.length := List.length_pos_iff.2 hR
  have e1 : ((A.length + L.length : Nat) : Int) - (A.length : Int) = ((L.length : Nat) : Int) := by omega
  have e2 : ((A.length + L.length + R.length : Nat) : Int) - ((A.length + L.length : Nat) : Int) = ((R.length : Nat) : Int) := by omega
  repeat (first | (refine bcase_f rfl ?_; conv => whnf) | (refine bcase_t rfl ?_; conv => whnf) | (refine condK_draw (by kernel_rfl) ?_; conv => whnf) | (refine condK_of rfl ?_; conv => whnf) | (refine condK_of (by decide) ?_; conv => whnf) | (refine condK_of (by omega) ?_; conv => whnf) | (refine wrapK_in (w64 (by omega) (by omega)) ?_; conv => whnf))
  rw [e1, e2]
  refine aloop (ι := List Ev × List Ev × List Ev × List Ev) (fun s => [(0, .own 1000000), (2, .d (.int .i64 ((A.length + L.length : Nat) : Int))), (4, .d (.fn cf [])), (10, .d (.int .i64 s.2.1.length)), (11, .d (.int .i64 s.2.2.1.length))]) (fun s => [(1000000, .row ((s.1 ++ (s.2.1 ++ (s.2.2.1 ++ s.2.2.2))).map encE) 11 false)])
    (fun s => 0 < s.2.1.length ∧ 0 < s.2.2.1.length ∧ s.1.length + s.2.1.length = A.length + L.length ∧ s.1.length + s.2.1.length + s.2.2.1.length + s.2.2.2.length = A.length + L.length + R.length + C.length ∧ s.1 ++ (s.2.2.1 ++ (s.2.1 ++ s.2.2.2)) = A ++ (R ++ (L ++ C))) (fun s => s.2.1.length + s.2.2.1.length) (A, L, R, C) ⟨l0, r0, rfl, rfl, rfl⟩ (le0 (le_of_cov ⟨rfl, rfl, rfl, rfl, rfl, trivial⟩ ⟨rfl, trivial⟩ ⟨rfl, rfl, rfl, rfl⟩)) ?_
  rintro ⟨A', X, Y, C'⟩ ⟨x0, y0, hpos, htot, hfin⟩
  simp only at x0 y0 hpos htot hfin ⊢
  conv => whnf
  have ei : ((A.length + L.length : Nat) : Int) - (X.length : Int) = ((A'.length : Nat) : Int) := by omega
  refine bcase_n (fun hne => ?_) (fun hne => ?_) <;> conv => whnf
  · repeat (first | (refine bcase_f rfl ?_; conv => whnf) | (refine bcase_t rfl ?_; conv => whnf) | (refine condK_draw (by kernel_rfl) ?_; conv => whnf) | (refine condK_of rfl ?_; conv => whnf) | (refine condK_of (by decide) ?_; conv => whnf) | (refine condK_of (by omega) ?_; conv => whnf) | (refine wrapK_in (w64 (by omega) (by omega)) ?_; conv => whnf))
    refine bcase_p (fun hgt => ?_) (fun hgt => ?_) <;> conv => whnf
    · obtain ⟨X1, X2, rfl, hx1⟩ := split_at (X := X) (n := Y.length) (by omega)
      rw [List.length_append] at ei hpos htot hgt hne x0
      have ea : (X1 ++ X2) ++ (Y ++ C') = X1 ++ (X2 ++ (Y ++ C')) := by simp
      rw [ea, List.length_append]
      repeat (first | (refine bcase_f rfl ?_; conv => whnf) | (refine bcase_t rfl ?_; conv => whnf) | (refine condK_draw (by kernel_rfl) ?_; conv => whnf) | (refine condK_of rfl ?_; conv => whnf) | (refine condK_of (by decide) ?_; conv => whnf) | (refine condK_of (by omega) ?_; conv => whnf) | (refine wrapK_in (w64 (by omega) (by omega)) ?_; conv => whnf))
      rw [ei]
      have em : ((A.length + L.length : Nat) : Int) = ((A'.length + X1.length + X2.length : Nat) : Int) := by omega
      rw [em, ← hx1]
      refine callX_blk (swapRange_ok cf A' X1 X2 Y C' hx1 (by omega)) [(1000000, 1000000)] rfl ⟨rfl, trivial⟩ rfl ?_
      conv => whnf
      repeat (first | (refine bcase_f rfl ?_; conv => whnf) | (refine bcase_t rfl ?_; conv => whnf) | (refine condK_draw (by kernel_rfl) ?_; conv => whnf) | (refine condK_of rfl ?_; conv => whnf) | (refine condK_of (by decide) ?_; conv => whnf) | (refine condK_of (by omega) ?_; conv => whnf) | (refine wrapK_in (w64 (by omega) (by omega)) ?_; conv => whnf))
      have es : ((X1.length + X2.length : Nat) : Int) - (X1.length : Int) = ((X2.length : Nat) : Int) := by omega
      rw [es]
      have er : A' ++ (Y ++ (X2 ++ (X1 ++ C'))) = (A' ++ Y) ++ (X2 ++ (X1 ++ C')) := by simp
      exact ⟨(A' ++ Y, X2, X1, C'), ⟨by simp only []; omega, by simp only []; omega, by simp; omega, by simp; omega, by simp [← hfin]⟩, by simp only []; omega, le0 (le_of_cov ⟨rfl, rfl, rfl, rfl, rfl, trivial⟩ ⟨by rw [← er]; rfl, trivial⟩ ⟨by show some (Blk.row (((A' ++ Y) ++ (X2 ++ (X1 ++ C'))).map encE) 11 false) = _; rw [← er]; rfl, rfl, rfl, rfl⟩)⟩
    · obtain ⟨Y1, Y2, rfl, hy1⟩ := split_at (X := Y) (n := Y.length - X.length) (by omega)
      rw [List.length_append] at htot hgt hne y0 hy1
      have hy2 : X.length = Y2.length := by omega
      have ea : (Y1 ++ Y2) ++ C' = Y1 ++ (Y2 ++ C') := by simp
      rw [ea, List.length_append]
      repeat (first | (refine bcase_f rfl ?_; conv => whnf) | (refine bcase_t rfl ?_; conv => whnf) | (refine condK_draw (by kernel_rfl) ?_; conv => whnf) | (refine condK_of rfl ?_; conv => whnf) | (refine condK_of (by decide) ?_; conv => whnf) | (refine condK_of (by omega) ?_; conv => whnf) | (refine wrapK_in (w64 (by omega) (by omega)) ?_; conv => whnf))
      rw [ei]
      have em : ((A.length + L.length : Nat) : Int) + ((Y1.length + Y2.length : Nat) : Int) - (X.length : Int) = ((A'.length + X.length + Y1.length : Nat) : Int) := by omega
      rw [em]
      refine callX_blk (swapRange_ok cf A' X Y1 Y2 C' hy2 (by omega)) [(1000000, 1000000)] rfl ⟨rfl, trivial⟩ rfl ?_
      conv => whnf
      repeat (first | (refine bcase_f rfl ?_; conv => whnf) | (refine bcase_t rfl ?_; conv => whnf) | (refine condK_draw (by kernel_rfl) ?_; conv => whnf) | (refine condK_of rfl ?_; conv => whnf) | (refine condK_of (by decide) ?_; conv => whnf) | (refine condK_of (by omega) ?_; conv => whnf) | (refine wrapK_in (w64 (by omega) (by omega)) ?_; conv => whnf))
      have es : ((Y1.length + Y2.length : Nat) : Int) - (X.length : Int) = ((Y1.length : Nat) : Int) := by omega
      rw [es]
      exact ⟨(A', Y2, Y1, X ++ C'), ⟨by simp only []; omega, by simp only []; omega, by simp only []; omega, by simp only [List.length_append]; omega, by simp only []; rw [← hfin]; simp⟩, by simp only []; omega, le0 (le_of_cov ⟨rfl, rfl, rfl, by rw [← hy2]; rfl, rfl, trivial⟩ ⟨rfl, trivial⟩ ⟨rfl, rfl, rfl, rfl⟩)⟩
  · have hxy : X.length = Y.length := by omega
    repeat (first | (refine bcase_f rfl ?_; conv => whnf) | (refine bcase_t rfl ?_; conv => whnf) | (refine condK_draw (by kernel_rfl) ?_; conv => whnf) | (refine condK_of rfl ?_; conv => whnf) | (refine condK_of (by decide) ?_; conv => whnf) | (refine condK_of (by omega) ?_; conv => whnf) | (refine wrapK_in (w64 (by omega) (by omega)) ?_; conv => whnf))
    rw [ei]
    have em : ((A.length + L.length : Nat) : Int) = ((A'.length + X.length + ([] : List Ev).length : Nat) : Int) := by simp; omega
    rw [em]
    refine callX_blk (swapRange_ok cf A' X [] Y C' hxy (by simp; omega)) [(1000000, 1000000)] rfl ⟨rfl, trivial⟩ rfl ?_
    conv => whnf
    repeat (first | (refine bcase_f rfl ?_; conv => whnf) | (refine bcase_t rfl ?_; conv => whnf) | (refine condK_draw (by kernel_rfl) ?_; conv => whnf) | (refine condK_of rfl ?_; conv => whnf) | (refine condK_of (by decide) ?_; conv => whnf) | (refine condK_of (by omega) ?_; conv => whnf) | (refine wrapK_in (w64 (by omega) (by omega)) ?_; conv => whnf))
    refine hret_of rfl rfl rfl ⟨?_, trivial⟩
    rw [← hfin]
    rfl
end Go.Lk

set_option linter.unusedSimpArgs false
set_option linter.unusedVariables false
set_option linter.unnecessarySimpa false
namespace Go.Lk
open Go Go.Proofs Go.RowKit Go.Lk.St

theorem sorted_last {le : Ev → Ev → Bool} (h : TP le) {T : List Ev} {u x : Ev} (hs : Sorted le (T ++ [u])) (hu : le u x = true) : ∀ y ∈ T ++ [u], le y x = true := fun y hy => by
  rcases List.mem_append.1 hy with hy | hy
  · exact h.trans _ _ _ ((sorted_app.1 hs).2.2 y hy u (by simp)) hu
  · rw [List.mem_singleton.1 hy]; exact hu
theorem insSort_ok (cf : FuncId) (le : Ev → Ev → Bool) (hc : Cmp cf le) (A X C : List Ev) (hm : A.length + X.length + C.length ≤ 1000000) :
    HCall Try.prog 41 [.own 1000000, .d (.int .i64 A.length), .d (.int .i64 ((A.length + X.length : Nat) : Int)), .d (.fn cf [])] [(1000000, .row ((A ++ (X ++ C)).map encE) 11 false)] [(1000000, .row ((A ++ (srt le X ++ C)).map encE) 11 false)] (.tup []) := by
  refine hcall_of Try.func41 4 rfl (by kernel_rfl) (by rfl) ?_
  conv => whnf
  repeat (first | (refine bcase_f rfl ?_; conv => whnf) | (refine bcase_t rfl ?_; conv => whnf) | (refine condK_draw (by kernel_rfl) ?_; conv => whnf) | (refine condK_of rfl ?_; conv => whnf) | (refine condK_of (by decide) ?_; conv => whnf) | (refine condK_of (by omega) ?_; conv => whnf) | (refine wrapK_in (w64 (by omega) (by omega)) ?_; conv => whnf))
  have e0 : A ++ (X ++ C) = A ++ (srt le (X.take 1) ++ (X.drop 1 ++ C)) := by
    cases X with
    | nil => rfl
    | cons x r => rfl
  rw [e0]
  refine aloop (ι := Nat) (fun k => [(0, .own 1000000), (1, .d (.int .i64 A.length)), (2, .d (.int .i64 ((A.length + X.length : Nat) : Int))), (3, .d (.fn cf [])), (8, .d (.int .i64 ((A.length : Int) + (k : Int))))]) (fun k => [(1000000, .row ((A ++ (srt le (X.take k) ++ (X.drop k ++ C))).map encE) 11 false)])
    (fun k => 1 ≤ k ∧ (k ≤ X.length ∨ k = 1)) (fun k => X.length + 1 - k) 1 ⟨Nat.le_refl _, .inr rfl⟩ (le0 (le_of_cov ⟨rfl, rfl, rfl, rfl, rfl, trivial⟩ ⟨rfl, trivial⟩ ⟨rfl, rfl, rfl, rfl⟩)) ?_
  rintro k ⟨hk1, hk⟩
  conv => whnf
  refine bcase_p (fun h => ?_) (fun h => ?_) <;> conv => whnf
  · have hkX : k < X.length := by omega
    repeat (first | (refine bcase_f rfl ?_; conv => whnf) | (refine bcase_t rfl ?_; conv => whnf) | (refine condK_draw (by kernel_rfl) ?_; conv => whnf) | (refine condK_of rfl ?_; conv => whnf) | (refine condK_of (by decide) ?_; conv => whnf) | (refine condK_of (by omega) ?_; conv => whnf) | (refine wrapK_in (w64 (by omega) (by omega)) ?_; conv => whnf))
    have hd : X.drop k = X[k] :: X.drop (k + 1) := drop_cons hkX
    generalize hx : X[k] = x at hd
    rw [hd, List.cons_append]
    have hlen : (srt le (X.take k)).length = k := by rw [srt_len]; simp; omega
    have hdl : (X.drop (k + 1)).length + k + 1 = X.length := by simp; omega
    refine aloop (ι := List Ev × List Ev) (fun s => [(0, .own 1000000), (1, .d (.int .i64 A.length)), (2, .d (.int .i64 ((A.length + X.length : Nat) : Int))), (3, .d (.fn cf [])), (8, .d (.int .i64 ((A.length : Int) + (k : Int)))), (9, .d (.int .i64 ((A.length : Int) + (s.1.length : Int))))]) (fun s => [(1000000, .row ((A ++ (s.1 ++ (x :: (s.2 ++ (X.drop (k + 1) ++ C))))).map encE) 11 false)])
      (fun s => s.1 ++ s.2 = srt le (X.take k) ∧ ∀ y ∈ s.2, le y x = false) (fun s => s.1.length) (srt le (X.take k), []) ⟨by simp, fun y h => by cases h⟩ (le0 (le_of_cov ⟨rfl, rfl, rfl, rfl, rfl, by show AV.d (.int .i64 ((A.length : Int) + (k : Int))) = AV.d (.int .i64 ((A.length : Int) + ((srt le (X.take k)).length : Int))); rw [hlen], trivial⟩ ⟨rfl, trivial⟩ ⟨rfl, rfl, rfl, rfl⟩)) ?_
    rintro ⟨S1, S2⟩ ⟨h12, hS2⟩
    simp only at h12 hS2 ⊢
    have hS12 : S1.length + S2.length = k := by rw [← hlen, ← h12]; simp
    have hml : ((A ++ (S1 ++ (x :: (S2 ++ (X.drop (k + 1) ++ C))))).map encE).length = A.length + X.length + C.length := by simp only [List.length_map, List.length_append, List.length_cons]; omega
    conv => whnf
    refine bcase_p (fun h1 => ?_) (fun h1 => ?_) <;> conv => whnf
    · obtain ⟨T, u, rfl⟩ : ∃ T u, S1 = T ++ [u] := by
        rcases List.eq_nil_or_concat S1 with e | ⟨T, u, e⟩
        · subst e; simp at h1
        · exact ⟨T, u, by simpa using e⟩
      rw [List.length_append, List.length_singleton] at hS12
      have g1 : (A ++ ((T ++ [u]) ++ (x :: (S2 ++ (X.drop (k + 1) ++ C)))))[A.length + (T.length + 1)]? = some x := by
        have : A ++ ((T ++ [u]) ++ (x :: (S2 ++ (X.drop (k + 1) ++ C)))) = (A ++ (T ++ [u])) ++ x :: (S2 ++ (X.drop (k + 1) ++ C)) := by simp only [List.append_assoc, List.cons_append]
        rw [this]; exact get_mid (by simp)
      have hsh : A ++ ((T ++ [u]) ++ (x :: (S2 ++ (X.drop (k + 1) ++ C)))) = (A ++ T) ++ u :: (x :: (S2 ++ (X.drop (k + 1) ++ C))) := by simp only [List.append_assoc, List.cons_append, List.nil_append]
      have g2 : (A ++ ((T ++ [u]) ++ (x :: (S2 ++ (X.drop (k + 1) ++ C)))))[A.length + T.length]? = some u := by rw [hsh]; exact get_mid (by simp)
      have ej : (A.length : Int) + ((T ++ [u]).length : Int) = ((A.length + (T.length + 1) : Nat) : Int) := by rw [List.length_append, List.length_singleton]; omega
      have ej1 : ((A.length + (T.length + 1) : Nat) : Int) - 1 = ((A.length + T.length : Nat) : Int) := by omega
      rw [ej]
      repeat (first | (refine bcase_f rfl ?_; conv => whnf) | (refine bcase_t rfl ?_; conv => whnf) | (refine condK_draw (by kernel_rfl) ?_; conv => whnf) | (refine condK_of rfl ?_; conv => whnf) | (refine condK_of (by decide) ?_; conv => whnf) | (refine condK_of (by omega) ?_; conv => whnf) | (refine wrapK_in (w64 (by omega) (by omega)) ?_; conv => whnf))
      refine idxK_nat (by omega) ?_
      conv => whnf
      refine getRow_of (getE_enc g1) ?_
      conv => whnf
      repeat (first | (refine bcase_f rfl ?_; conv => whnf) | (refine bcase_t rfl ?_; conv => whnf) | (refine condK_draw (by kernel_rfl) ?_; conv => whnf) | (refine condK_of rfl ?_; conv => whnf) | (refine condK_of (by decide) ?_; conv => whnf) | (refine condK_of (by omega) ?_; conv => whnf) | (refine wrapK_in (w64 (by omega) (by omega)) ?_; conv => whnf))
      rw [ej1]
      refine idxK_nat (by omega) ?_
      conv => whnf
      refine getRow_of (getE_enc g2) ?_
      conv => whnf
      repeat (first | (refine bcase_f rfl ?_; conv => whnf) | (refine bcase_t rfl ?_; conv => whnf) | (refine condK_draw (by kernel_rfl) ?_; conv => whnf) | (refine condK_of rfl ?_; conv => whnf) | (refine condK_of (by decide) ?_; conv => whnf) | (refine condK_of (by omega) ?_; conv => whnf) | (refine wrapK_in (w64 (by omega) (by omega)) ?_; conv => whnf))
      obtain ⟨c, hcall, hlt⟩ := hc.call x u
      refine callX_pure hcall ?_
      conv => whnf
      repeat (first | (refine bcase_f rfl ?_; conv => whnf) | (refine bcase_t rfl ?_; conv => whnf) | (refine condK_draw (by kernel_rfl) ?_; conv => whnf) | (refine condK_of rfl ?_; conv => whnf) | (refine condK_of (by decide) ?_; conv => whnf) | (refine condK_of (by omega) ?_; conv => whnf) | (refine wrapK_in (w64 (by omega) (by omega)) ?_; conv => whnf))
      refine bcase_p (fun h2 => ?_) (fun h2 => ?_) <;> conv => whnf
      · have hlt2 := hlt.1 h2
        repeat (first | (refine bcase_f rfl ?_; conv => whnf) | (refine bcase_t rfl ?_; conv => whnf) | (refine condK_draw (by kernel_rfl) ?_; conv => whnf) | (refine condK_of rfl ?_; conv => whnf) | (refine condK_of (by decide) ?_; conv => whnf) | (refine condK_of (by omega) ?_; conv => whnf) | (refine wrapK_in (w64 (by omega) (by omega)) ?_; conv => whnf))
        rw [ej1]
        refine idxK_nat (by omega) ?_
        conv => whnf
        refine getRow_of (getE_enc g2) ?_
        conv => whnf
        repeat (first | (refine bcase_f rfl ?_; conv => whnf) | (refine bcase_t rfl ?_; conv => whnf) | (refine condK_draw (by kernel_rfl) ?_; conv => whnf) | (refine condK_of rfl ?_; conv => whnf) | (refine condK_of (by decide) ?_; conv => whnf) | (refine condK_of (by omega) ?_; conv => whnf) | (refine wrapK_in (w64 (by omega) (by omega)) ?_; conv => whnf))
        refine idxK_nat (by omega) ?_
        conv => whnf
        refine getRow_of (getE_enc g1) ?_
        conv => whnf
        repeat (first | (refine bcase_f rfl ?_; conv => whnf) | (refine bcase_t rfl ?_; conv => whnf) | (refine condK_draw (by kernel_rfl) ?_; conv => whnf) | (refine condK_of rfl ?_; conv => whnf) | (refine condK_of (by decide) ?_; conv => whnf) | (refine condK_of (by omega) ?_; conv => whnf) | (refine wrapK_in (w64 (by omega) (by omega)) ?_; conv => whnf))
        refine idxK_nat (by omega) ?_
        conv => whnf
        refine getRow_of (getE_enc g1) ?_
        conv => whnf
        have hsh2 : A ++ ((T ++ [u]) ++ (x :: (S2 ++ (X.drop (k + 1) ++ C)))) = (A ++ (T ++ [u])) ++ x :: (S2 ++ (X.drop (k + 1) ++ C)) := by simp only [List.append_assoc, List.cons_append]
        have hs1 : (A ++ ((T ++ [u]) ++ (x :: (S2 ++ (X.drop (k + 1) ++ C))))).set (A.length + (T.length + 1)) u = (A ++ T) ++ u :: (u :: (S2 ++ (X.drop (k + 1) ++ C))) := by rw [hsh2, set_mid (by simp)]; simp only [List.append_assoc, List.cons_append, List.nil_append]
        have hs2 : ((A ++ T) ++ u :: (u :: (S2 ++ (X.drop (k + 1) ++ C)))).set (A.length + T.length) x = A ++ (T ++ (x :: ((u :: S2) ++ (X.drop (k + 1) ++ C)))) := by rw [set_mid (by simp)]; simp only [List.append_assoc, List.cons_append]
        have s1 : ((A ++ ((T ++ [u]) ++ (x :: (S2 ++ (X.drop (k + 1) ++ C))))).map encE).set (A.length + (T.length + 1)) (splice (encE x) 0 (encE u)) = ((A ++ T) ++ u :: (u :: (S2 ++ (X.drop (k + 1) ++ C)))).map encE := by rw [← hs1]; exact setE_enc _ _ _
        repeat (first | (refine bcase_f rfl ?_; conv => whnf) | (refine bcase_t rfl ?_; conv => whnf) | (refine condK_draw (by kernel_rfl) ?_; conv => whnf) | (refine condK_of rfl ?_; conv => whnf) | (refine condK_of (by decide) ?_; conv => whnf) | (refine condK_of (by omega) ?_; conv => whnf) | (refine wrapK_in (w64 (by omega) (by omega)) ?_; conv => whnf))
        refine idxK_nat (by show _ < (List.set _ _ _).length; rw [List.length_set]; omega) ?_
        conv => whnf
        refine getRow_of (x := encE u) (by show (List.set _ _ (splice (encE x) 0 (encE u)))[_]? = _; rw [s1]; exact getE_enc (get_mid (by simp))) ?_
        conv => whnf
        repeat (first | (refine bcase_f rfl ?_; conv => whnf) | (refine bcase_t rfl ?_; conv => whnf) | (refine condK_draw (by kernel_rfl) ?_; conv => whnf) | (refine condK_of rfl ?_; conv => whnf) | (refine condK_of (by decide) ?_; conv => whnf) | (refine condK_of (by omega) ?_; conv => whnf) | (refine wrapK_in (w64 (by omega) (by omega)) ?_; conv => whnf))
        have s2 : (((A ++ ((T ++ [u]) ++ (x :: (S2 ++ (X.drop (k + 1) ++ C))))).map encE).set (A.length + (T.length + 1)) (splice (encE x) 0 (encE u))).set (A.length + T.length) (splice (encE u) 0 (encE x)) = (A ++ (T ++ (x :: ((u :: S2) ++ (X.drop (k + 1) ++ C))))).map encE := by rw [s1, ← hs2]; exact setE_enc _ _ _
        rw [ej1]
        exact ⟨(T, u :: S2), ⟨by rw [← h12]; simp, fun y hy => by rcases List.mem_cons.1 hy with e | e; rw [e]; exact hlt2; exact hS2 y e⟩, by simp, le0 (le_of_cov ⟨rfl, rfl, rfl, rfl, rfl, rfl, trivial⟩ ⟨by rw [← s2]; rfl, trivial⟩ ⟨by show some (Blk.row ((A ++ (T ++ (x :: ((u :: S2) ++ (X.drop (k + 1) ++ C))))).map encE) 11 false) = _; rw [← s2]; rfl, rfl, rfl, rfl⟩)⟩
      · have hle : le u x = true := by
          cases e : le u x with
          | true => rfl
          | false => exact absurd (hlt.2 e) h2
        have hle2 : ∀ y ∈ T ++ [u], le y x = true := sorted_last hc.tp (sorted_app.1 (by rw [h12]; exact srt_sorted hc.tp _ : Sorted le ((T ++ [u]) ++ S2))).1 hle
        generalize T ++ [u] = S1 at *
        repeat (first | (refine bcase_f rfl ?_; conv => whnf) | (refine bcase_t rfl ?_; conv => whnf) | (refine condK_draw (by kernel_rfl) ?_; conv => whnf) | (refine condK_of rfl ?_; conv => whnf) | (refine condK_of (by decide) ?_; conv => whnf) | (refine condK_of (by omega) ?_; conv => whnf) | (refine wrapK_in (w64 (by omega) (by omega)) ?_; conv => whnf))
        have hsrt : srt le (X.take (k + 1)) = S1 ++ x :: S2 := by rw [take_snoc hkX, hx, ins_at hc.tp (a := S1) (b := S2) (by rw [h12]; exact srt_sorted hc.tp _) hle2 hS2, h12]; exact srt_of hc.tp ((srt_same hc.tp _).app (Same.refl _))
        have er : A ++ (S1 ++ (x :: (S2 ++ (X.drop (k + 1) ++ C)))) = A ++ (srt le (X.take (k + 1)) ++ (X.drop (k + 1) ++ C)) := by rw [hsrt]; simp only [List.append_assoc, List.cons_append]
        exact ⟨k + 1, ⟨by omega, by omega⟩, by omega, le0 (le_of_cov ⟨rfl, rfl, rfl, rfl, rfl, trivial⟩ ⟨by rw [← er]; rfl, trivial⟩ ⟨by show some (Blk.row ((A ++ (srt le (X.take (k + 1)) ++ (X.drop (k + 1) ++ C))).map encE) 11 false) = _; rw [← er]; rfl, rfl, rfl, rfl⟩)⟩
    · have hS0 : S1 = [] := List.length_eq_zero_iff.1 (by omega)
      subst hS0
      have hq : ∀ y ∈ ([] : List Ev), le y x = true := fun y h => by cases h
      generalize ([] : List Ev) = S1 at *
      repeat (first | (refine bcase_f rfl ?_; conv => whnf) | (refine bcase_t rfl ?_; conv => whnf) | (refine condK_draw (by kernel_rfl) ?_; conv => whnf) | (refine condK_of rfl ?_; conv => whnf) | (refine condK_of (by decide) ?_; conv => whnf) | (refine condK_of (by omega) ?_; conv => whnf) | (refine wrapK_in (w64 (by omega) (by omega)) ?_; conv => whnf))
      have hsrt : srt le (X.take (k + 1)) = S1 ++ x :: S2 := by rw [take_snoc hkX, hx, ins_at hc.tp (a := S1) (b := S2) (by rw [h12]; exact srt_sorted hc.tp _) hq hS2, h12]; exact srt_of hc.tp ((srt_same hc.tp _).app (Same.refl _))
      have er : A ++ (S1 ++ (x :: (S2 ++ (X.drop (k + 1) ++ C)))) = A ++ (srt le (X.take (k + 1)) ++ (X.drop (k + 1) ++ C)) := by rw [hsrt]; simp only [List.append_assoc, List.cons_append]
      exact ⟨k + 1, ⟨by omega, by omega⟩, by omega, le0 (le_of_cov ⟨rfl, rfl, rfl, rfl, rfl, trivial⟩ ⟨by rw [← er]; rfl, trivial⟩ ⟨by show some (Blk.row ((A ++ (srt le (X.take (k + 1)) ++ (X.drop (k + 1) ++ C))).map encE) 11 false) = _; rw [← er]; rfl, rfl, rfl, rfl⟩)⟩
  · have e1 : srt le (X.take k) ++ (X.drop k ++ C) = srt le X ++ C := by
      rw [List.take_of_length_le (by omega), List.drop_eq_nil_of_le (by omega)]; rfl
    rw [e1]
    repeat (first | (refine bcase_f rfl ?_; conv => whnf) | (refine bcase_t rfl ?_; conv => whnf) | (refine condK_draw (by kernel_rfl) ?_; conv => whnf) | (refine condK_of rfl ?_; conv => whnf) | (refine condK_of (by decide) ?_; conv => whnf) | (refine condK_of (by omega) ?_; conv => whnf) | (refine wrapK_in (w64 (by omega) (by omega)) ?_; conv => whnf))
    exact hret_of rfl rfl rfl ⟨rfl, trivial⟩
end Go.Lk

