/-
  HistoryLate.
-/
import Derived.Test.YtmkjebpdcclfdaaTb
import Derived.Test.YtmkjebpdcclfdaaRows
import Derived.WalkKit
import Derived.ProofKit
import Derived.OpenShut
import Derived.JoinedCond
set_option linter.unusedSectionVars false
set_option linter.unusedVariables false


namespace Go.Proofs.Ytmkjebpdcclfdaa.historyLate
open Go.ChangeShapes Go.WideShapes Go.ChangeAt Go.RowKit Go.Lk
theorem spec {H : Type} : ∀ ds : List (DataW H), ds.length = Try.f7.params.toList.length → Rows.historyLateSpec.fn H ds = { results := [.lit (.bool true)], args := ds }
  | [_, _, _, _], _ => rfl
set_option maxRecDepth 100000 in
theorem lifted (os : Os) (started : os.Started) (H : Type) (enc : TypeId × Value → H) :
    ReturnsInHanded {} Try.checked os 7 .any (Rows.historyLateSpec.pre6 enc Try.prog Try.f7 Rows.historyLateRow.domain false) (Rows.historyLateSpec.post enc Try.prog Try.f7 false true false false) := by
  refine returnsInHanded_of_change (C := Try.checked) own started (by kernel_rfl) Try.func7
    (ChangeSpec.witness6 (enc := enc) (C := Try.checked) false ⟨#[], #[.int .i64 0, .int .i64 0, .int .i64 0, .int .i64 0], []⟩ 8 (by kernel_rfl) (by kernel_rfl) (by kernel_rfl) (by kernel_rfl)) ?_
  intro W base args ds gs before hval hW _ _
  exact law_contract tabOk kids sizes (f := 7) (fn := Try.f7) (tb := 4) (params_ok (by kernel_rfl)) rfl Try.underlying4 rfl spec historyLate_law W base args ds gs before hval hW
theorem holds : Rows.HistoryLateSaid :=
  OpenClaim.holds_of_wide 7 Try.f7 rfl rfl rfl rfl rfl rfl rfl ⟨rfl, rfl, rfl, rfl, rfl⟩ rfl rfl rfl rfl rfl (by kernel_rfl) Try.func7 (by kernel_rfl)
    (of_decide_eq_true (by kernel_rfl)) (by unfold Func.isWrapper; first | (rw [if_pos (by decide +kernel)]; kernel_rfl) | (rw [if_neg (by decide +kernel)]; exact ⟨rfl, rfl⟩))
    (fun os started H enc _ => lifted os started H enc)
end Go.Proofs.Ytmkjebpdcclfdaa.historyLate

