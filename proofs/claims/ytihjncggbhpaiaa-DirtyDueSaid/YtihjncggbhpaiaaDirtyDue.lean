/-
  What is proved here: DirtyDue returns true for every input, and its arguments read as before.
-/
import Derived.Test.YtihjncggbhpaiaaDa
import Derived.Test.YtihjncggbhpaiaaRows
import Derived.WalkKit
import Derived.ProofKit
import Derived.OpenShut
import Derived.JoinedCond
set_option linter.unusedSectionVars false
set_option linter.unusedSimpArgs false
set_option linter.unusedVariables false
set_option linter.unnecessarySimpa false
namespace Go.Lk
open Go Go.Proofs Go.RowKit

def wantF (l : List (Int × Int)) (now age : Int) (it : Int × Int) : Option Int := if rightB l = true ∧ 0 ≤ age then dueF now age it else none
theorem want_due {l : List (Int × Int)} {now age : Int} : l.filterMap (wantF l now age) = dueG l now age := by
  unfold dueG
  by_cases hr : rightB l = true
  · obtain ⟨_, hR⟩ := rightB_out hr
    by_cases ha : age < 0
    · rw [if_pos (.inl ha)]
      rw [List.filterMap_eq_nil_iff]
      intro x _; simp [wantF]; intros; omega
    · by_cases hn : now < 0
      · rw [if_pos (.inr (.inl hn)), List.filterMap_eq_nil_iff]
        intro x hx
        obtain ⟨k, hk, rfl⟩ := List.mem_iff_getElem.1 hx
        have := hR k hk
        simp [wantF, dueF]; intros; omega
      · rw [if_neg (by simp [ha, hn, hr])]
        congr 1
        funext x
        simp [wantF, hr]; omega
  · rw [if_pos (.inr (.inr (by simpa using hr))), List.filterMap_eq_nil_iff]
    intro x _; simp [wantF, hr]

theorem dirtyDue_ok (l : List (Int × Int)) (now age hard : Int) (hn0 : -9223372036854775808 ≤ now) (hn : now ≤ 9223372036854775807) : ACall Try.prog 3 [encIs l, .int .i64 now, .int .i64 age, .int .i64 hard] (.bool true) := by
  refine acall_of Try.func3 4 rfl (by kernel_rfl) ?_
  conv => whnf
  have hm : (l.map encI).length = l.length := List.length_map ..
  refine bcase_p (fun h1 => ?_) (fun h1 => ?_) <;> conv => whnf
  · refine callX_pure awake_ok ?_
    conv => whnf
    exact ret_of rfl rfl
  refine bcase_p (fun h2 => ?_) (fun h2 => ?_) <;> conv => whnf
  · refine callX_pure awake_ok ?_
    conv => whnf
    exact ret_of rfl rfl
  refine bcase_p (fun h3 => ?_) (fun h3 => ?_) <;> conv => whnf
  · refine callX_pure awake_ok ?_
    conv => whnf
    exact ret_of rfl rfl
  refine bcase_p (fun h4 => ?_) (fun h4 => ?_) <;> conv => whnf
  · refine callX_pure awake_ok ?_
    conv => whnf
    exact ret_of rfl rfl
  refine bcase_p (fun h5 => ?_) (fun h5 => ?_) <;> conv => whnf
  · refine callX_pure awake_ok ?_
    conv => whnf
    exact ret_of rfl rfl
  have hl : l.length ≤ 40 := by omega
  refine callX_pure (refs_ok l (by omega)) ?_
  conv => whnf
  refine callX_pure (rright_ok l (by omega)) ?_
  conv => whnf
  refine aloop (ι := Nat) (fun k => [(0, .d (encIs l)), (1, .d (.int .i64 now)), (2, .d (.int .i64 age)), (3, .d (.int .i64 hard)), (9, .own 59), (10, .d (.bool (rightB l))), (36, .d (encIs l)), (37, .d (.int .i64 (l.map encI).length)), (38, .d (.int .i64 k))]) (fun k => [(59, .row (((l.take k).filterMap (wantF l now age)).map enc1) 1 false)])
    (fun k => k ≤ l.length) (fun k => l.length - k) 0 (Nat.zero_le _) (le1 (.row 9 59 1) ⟨rfl, rfl⟩ (le_of_cov ⟨rfl, rfl, rfl, rfl, rfl, rfl, rfl, rfl, rfl, trivial⟩ ⟨rfl, trivial⟩ ⟨rfl, rfl, rfl, rfl⟩)) ?_
  intro k hk
  conv => whnf
  refine bcase_p (fun h => ?_) (fun h => ?_) <;> conv => whnf
  · have hk2 : k < l.length := by simpa using h
    have hlast (hw : wantF l now age l[k] = none) : ((l.take k).filterMap (wantF l now age)).map enc1 = ((l.take (k + 1)).filterMap (wantF l now age)).map enc1 := by
      rw [take_snoc hk2, List.filterMap_append]; simp [hw]
    refine idxK_nat (by simpa using hk2) ?_
    conv => whnf
    refine getRow_of (x := encI l[k]) (by simp [hk2]) ?_
    conv => whnf
    repeat (first | (refine bcase_f rfl ?_; conv => whnf) | (refine bcase_t rfl ?_; conv => whnf) | (refine condK_of rfl ?_; conv => whnf) | (refine condK_of (by decide) ?_; conv => whnf) | (refine condK_of (by omega) ?_; conv => whnf) | (refine wrapK_in (w64 (by omega) (by omega)) ?_; conv => whnf))
    refine bcase_intro (fun h6 => ?_) (fun h6 => ?_) <;> conv => whnf
    · refine bcase_p (fun h7 => ?_) (fun h7 => ?_) <;> conv => whnf
      · obtain ⟨hlen, hR⟩ := rightB_out h6
        obtain ⟨hok, b1, b2, b3, b4⟩ := hR k hk2
        repeat (first | (refine bcase_f rfl ?_; conv => whnf) | (refine bcase_t rfl ?_; conv => whnf) | (refine condK_of rfl ?_; conv => whnf) | (refine condK_of (by decide) ?_; conv => whnf) | (refine condK_of (by omega) ?_; conv => whnf) | (refine wrapK_in (w64 (by omega) (by omega)) ?_; conv => whnf))
        refine bcase_p (fun h8 => ?_) (fun h8 => ?_) <;> conv => whnf
        · repeat (first | (refine bcase_f rfl ?_; conv => whnf) | (refine bcase_t rfl ?_; conv => whnf) | (refine condK_of rfl ?_; conv => whnf) | (refine condK_of (by decide) ?_; conv => whnf) | (refine condK_of (by omega) ?_; conv => whnf) | (refine wrapK_in (w64 (by omega) (by omega)) ?_; conv => whnf))
          have hl2 := List.length_filterMap_le (wantF l now age) (l.take k)
          refine roomK_le 100 100 (by show List.length _ + 1 ≤ 100; simp at hl2 ⊢; omega) (by decide) (by decide) (by decide) ?_
          conv => whnf
          repeat (first | (refine bcase_f rfl ?_; conv => whnf) | (refine bcase_t rfl ?_; conv => whnf) | (refine condK_of rfl ?_; conv => whnf) | (refine condK_of (by decide) ?_; conv => whnf) | (refine condK_of (by omega) ?_; conv => whnf) | (refine wrapK_in (w64 (by omega) (by omega)) ?_; conv => whnf))
          exact ⟨k + 1, by omega, by omega, le0 (le_of_cov ⟨rfl, rfl, rfl, rfl, rfl, rfl, rfl, rfl, rfl, trivial⟩ ⟨by rw [take_snoc hk2, List.filterMap_append, List.map_append]; simp [wantF, dueF, h6, h7, h8]; rfl, trivial⟩ ⟨rfl, rfl, rfl, rfl⟩)⟩
        · repeat (first | (refine bcase_f rfl ?_; conv => whnf) | (refine bcase_t rfl ?_; conv => whnf) | (refine condK_of rfl ?_; conv => whnf) | (refine condK_of (by decide) ?_; conv => whnf) | (refine condK_of (by omega) ?_; conv => whnf) | (refine wrapK_in (w64 (by omega) (by omega)) ?_; conv => whnf))
          exact ⟨k + 1, by omega, by omega, le0 (le_of_cov ⟨rfl, rfl, rfl, rfl, rfl, by rw [h6]; rfl, rfl, rfl, rfl, trivial⟩ ⟨by rw [← hlast (by simp [wantF, dueF, h6, h7, h8])]; rfl, trivial⟩ ⟨rfl, rfl, rfl, rfl⟩)⟩
      · repeat (first | (refine bcase_f rfl ?_; conv => whnf) | (refine bcase_t rfl ?_; conv => whnf) | (refine condK_of rfl ?_; conv => whnf) | (refine condK_of (by decide) ?_; conv => whnf) | (refine condK_of (by omega) ?_; conv => whnf) | (refine wrapK_in (w64 (by omega) (by omega)) ?_; conv => whnf))
        exact ⟨k + 1, by omega, by omega, le0 (le_of_cov ⟨rfl, rfl, rfl, rfl, rfl, by rw [h6]; rfl, rfl, rfl, rfl, trivial⟩ ⟨by rw [← hlast (by simp [wantF, dueF, h7])]; rfl, trivial⟩ ⟨rfl, rfl, rfl, rfl⟩)⟩
    · repeat (first | (refine bcase_f rfl ?_; conv => whnf) | (refine bcase_t rfl ?_; conv => whnf) | (refine condK_of rfl ?_; conv => whnf) | (refine condK_of (by decide) ?_; conv => whnf) | (refine condK_of (by omega) ?_; conv => whnf) | (refine wrapK_in (w64 (by omega) (by omega)) ?_; conv => whnf))
      exact ⟨k + 1, by omega, by omega, le0 (le_of_cov ⟨rfl, rfl, rfl, rfl, rfl, by rw [h6]; rfl, rfl, rfl, rfl, trivial⟩ ⟨by rw [← hlast (by simp [wantF, dueF, h6])]; rfl, trivial⟩ ⟨rfl, rfl, rfl, rfl⟩)⟩
  · have : k = l.length := by omega
    subst this
    have hw : ((l.take l.length).filterMap (wantF l now age)) = dueG l now age := by rw [List.take_length, want_due]
    have hwl : (dueG l now age).length ≤ 1000 := by
      rw [← want_due]
      exact Nat.le_trans (List.length_filterMap_le _ _) (by omega)
    rw [hw]
    refine callX_pure (due_ok l now age (by omega) hn) ?_
    conv => whnf
    refine callX_pure (equal_ok (dueG l now age) (dueG l now age) (by omega) (by omega)) ?_
    conv => whnf
    refine bcase_intro (fun h9 => ?_) (fun h9 => ?_) <;> conv => whnf
    rotate_left
    · simp at h9
    refine callX_pure (over_ok l hard (by omega)) ?_
    conv => whnf
    refine bcase_intro (fun h10 => ?_) (fun h10 => ?_) <;> conv => whnf
    · refine bcase_t (by simp [h10]) ?_
      conv => whnf
      refine callX_pure awake_ok ?_
      conv => whnf
      exact ret_of rfl rfl
    · refine bcase_t (by simp [h10]) ?_
      conv => whnf
      refine callX_pure awake_ok ?_
      conv => whnf
      exact ret_of rfl rfl
end Go.Lk

set_option linter.unusedSimpArgs false
set_option linter.unusedVariables false
set_option linter.unnecessarySimpa false
namespace Go.Lk
open Go Go.Proofs Go.RowKit

theorem kids : Kids Try.prog (· < Try.prog.types.size) := kids_rows (by kernel_rfl) (by kernel_rfl)
def sliceSize (P : Program) : Bool := (List.range P.types.size).all fun t => match P.underlying t with
  | some (.slice e) => Nat.blt 0 (P.cellsOf e)
  | _ => true
theorem sliceSize_out {P : Program} (h : sliceSize P = true) : ∀ t e, t < P.types.size → P.underlying t = some (.slice e) → 0 < P.cellsOf e := by
  intro t e ht hu
  have := (List.all_eq_true.1 h) t (List.mem_range.2 ht)
  rw [hu] at this
  exact Nat.le_of_ble_eq_true this
theorem sizes : ∀ t e, t < Try.prog.types.size → Try.prog.underlying t = some (.slice e) → 0 < Try.prog.cellsOf e := sliceSize_out (by kernel_rfl)
theorem own : ownKnob Try.prog.godebug = none := by kernel_rfl

theorem items {n : Nat} {d : D} (h : FitV T n 22 d) : ∃ l : List (Int × Int), d = encIs l ∧ l.length ≤ maxLen ∧ ∀ a ∈ l, (Lit.int .i64 a.1).wf = true ∧ (Lit.int .i64 a.2).wf = true :=
  fitV_rows (e := 29) rfl h fun m x hx => by
    obtain ⟨a, b, e, h1, h2⟩ := fit_two (a := 3) (b := 3) rfl rfl rfl hx
    exact ⟨(a, b), e, h1, h2⟩

theorem dirtyDue_law : ∀ dds, FitAll T Try.f3.params.toList dds → ACall Try.prog 3 dds (.bool true) := by
  rintro dds ⟨n1, d1, r1, rfl, h1, n2, d2, r2, rfl, h2, n3, d3, r3, rfl, h3, n4, d4, r4, rfl, h4, rfl⟩
  obtain ⟨l, rfl, _⟩ := items h1
  obtain ⟨now, rfl, w1⟩ := fitV_int (k := .i64) rfl h2
  obtain ⟨age, rfl, w2⟩ := fitV_int (k := .i64) rfl h3
  obtain ⟨hard, rfl, w3⟩ := fitV_int (k := .i64) rfl h4
  exact dirtyDue_ok l now age hard (wf_i64 w1).1 (wf_i64 w1).2
end Go.Lk

namespace Go.Proofs.Ytihjncggbhpaiaa.dirtyDue
open Go.ChangeShapes Go.WideShapes Go.ChangeAt Go.RowKit Go.Lk
theorem spec {H : Type} : ∀ ds : List (DataW H), ds.length = Try.f3.params.toList.length → Rows.dirtyDueSpec.fn H ds = { results := [.lit (.bool true)], args := ds }
  | [_, _, _, _], _ => rfl
set_option maxRecDepth 100000 in
theorem lifted (os : Os) (started : os.Started) (H : Type) (enc : TypeId × Value → H) :
    ReturnsInHanded {} Try.checked os 3 .any (Rows.dirtyDueSpec.pre6 enc Try.prog Try.f3 Rows.dirtyDueRow.domain false) (Rows.dirtyDueSpec.post enc Try.prog Try.f3 false true false false) := by
  refine returnsInHanded_of_change (C := Try.checked) own started (by kernel_rfl) Try.func3
    (ChangeSpec.witness6 (enc := enc) (C := Try.checked) false ⟨#[], #[.slice none 0 0, .int .i64 0, .int .i64 0, .int .i64 0], []⟩ 8 (by kernel_rfl) (by kernel_rfl) (by kernel_rfl) (by kernel_rfl)) ?_
  intro W base args ds gs before hval hW _ _
  exact law_contract tabOk kids sizes (f := 3) (fn := Try.f3) (tb := 4) (fun t ht => by
    have : t = 22 ∨ t = 3 := by simp [Try.params3] at ht; omega
    rcases this with rfl | rfl
    · exact ⟨of_decide_eq_true (by kernel_rfl), 5, by kernel_rfl⟩
    · exact ⟨of_decide_eq_true (by kernel_rfl), 5, by kernel_rfl⟩) rfl Try.underlying4 rfl spec dirtyDue_law W base args ds gs before hval hW
theorem holds : Rows.DirtyDueSaid :=
  OpenClaim.holds_of_wide 3 Try.f3 rfl rfl rfl rfl rfl rfl rfl ⟨rfl, rfl, rfl, rfl, rfl⟩ rfl rfl rfl rfl rfl (by kernel_rfl) Try.func3 (by kernel_rfl)
    (of_decide_eq_true (by kernel_rfl)) (by unfold Func.isWrapper; first | (rw [if_pos (by decide +kernel)]; kernel_rfl) | (rw [if_neg (by decide +kernel)]; exact ⟨rfl, rfl⟩))
    (fun os started H enc _ => lifted os started H enc)
end Go.Proofs.Ytihjncggbhpaiaa.dirtyDue

