/-
  HistoryAny.
-/
import Derived.Test.YtmkjebpdcclfdaaTb
import Derived.Test.YtmkjebpdcclfdaaRows
import Derived.WalkKit
import Derived.ProofKit
import Derived.OpenShut
import Derived.JoinedCond
set_option linter.unusedSectionVars false
set_option linter.unusedVariables false


namespace Go.Proofs.Ytmkjebpdcclfdaa.historyAny
open Go.ChangeShapes Go.WideShapes Go.ChangeAt Go.RowKit Go.Lk
theorem spec {H : Type} : ∀ ds : List (DataW H), ds.length = Try.f6.params.toList.length → Rows.historyAnySpec.fn H ds = { results := [.lit (.bool true)], args := ds }
  | [_, _, _], _ => rfl
set_option maxRecDepth 100000 in
theorem lifted (os : Os) (started : os.Started) (H : Type) (enc : TypeId × Value → H) :
    ReturnsInHanded {} Try.checked os 6 .any (Rows.historyAnySpec.pre6 enc Try.prog Try.f6 Rows.historyAnyRow.domain false) (Rows.historyAnySpec.post enc Try.prog Try.f6 false true false false) := by
  refine returnsInHanded_of_change (C := Try.checked) own started (by kernel_rfl) Try.func6
    (ChangeSpec.witness6 (enc := enc) (C := Try.checked) false ⟨#[], #[.agg #[.slice none 0 0], .slice none 0 0, .int .u8 0], []⟩ 8 (by kernel_rfl) (by kernel_rfl) (by kernel_rfl) (by kernel_rfl)) ?_
  intro W base args ds gs before hval hW _ _
  exact law_contract tabOk kids sizes (f := 6) (fn := Try.f6) (tb := 4) (params_ok (by kernel_rfl)) rfl Try.underlying4 rfl spec historyAny_law W base args ds gs before hval hW
theorem holds : Rows.HistoryAnySaid :=
  OpenClaim.holds_of_wide 6 Try.f6 rfl rfl rfl rfl rfl rfl rfl ⟨rfl, rfl, rfl, rfl, rfl⟩ rfl rfl rfl rfl rfl (by kernel_rfl) Try.func6 (by kernel_rfl)
    (of_decide_eq_true (by kernel_rfl)) (by unfold Func.isWrapper; first | (rw [if_pos (by decide +kernel)]; kernel_rfl) | (rw [if_neg (by decide +kernel)]; exact ⟨rfl, rfl⟩))
    (fun os started H enc _ => lifted os started H enc)
end Go.Proofs.Ytmkjebpdcclfdaa.historyAny

