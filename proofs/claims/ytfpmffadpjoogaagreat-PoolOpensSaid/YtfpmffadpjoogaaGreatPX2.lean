/-
  What is proved here: the given statement PoolOpensSaid, for every input.
-/
import Derived.Test.YtfpmffadpjoogaaGreatBAn
import Derived.Test.YtfpmffadpjoogaaGreatPq10
import Derived.Test.YtfpmffadpjoogaaGreatRows
import Derived.WalkKit
import Derived.ProofKit
import Derived.OpenShut
import Derived.JoinedCond
set_option linter.unusedSimpArgs false
set_option linter.unusedVariables false
set_option linter.unnecessarySimpa false
set_option linter.unusedSectionVars false
namespace Go.Lk
open Go Go.Proofs Go.RowKit
theorem poolOpens_law : ∀ dds, FitAll T Tryz.f4.params.toList dds → ACall Tryz.prog 4 dds (.bool true) := by
  rintro dds ⟨n1, d1, r1, rfl, h1, n2, d2, r2, rfl, h2, rfl⟩
  obtain ⟨d, rfl⟩ := disk_arg h1
  obtain ⟨n, rfl, _⟩ := fitV_int (k := .i64) rfl h2
  exact poolOpens_ok d n
end Go.Lk

namespace Go.Proofs.YtfpmffadpjoogaaGreat.poolOpens
open Go.ChangeShapes Go.WideShapes Go.ChangeAt Go.RowKit Go.Lk
theorem spec {H : Type} : ∀ ds : List (DataW H), ds.length = Tryz.f4.params.toList.length → Rows.poolOpensSpec.fn H ds = { results := [.lit (.bool true)], args := ds }
  | [_, _], _ => rfl
set_option maxRecDepth 100000 in
theorem lifted (os : Os) (started : os.Started) (H : Type) (enc : TypeId × Value → H) :
    ReturnsInHanded {} Tryz.checked os 4 .any (Rows.poolOpensSpec.pre6 enc Tryz.prog Tryz.f4 Rows.poolOpensRow.domain false) (Rows.poolOpensSpec.post enc Tryz.prog Tryz.f4 false true false false) := by
  refine returnsInHanded_of_change (C := Tryz.checked) own started (by kernel_rfl) Tryz.func4
    (ChangeSpec.witness6 (enc := enc) (C := Tryz.checked) false ⟨#[], #[.agg #[.slice none 0 0, .slice none 0 0], .int .i64 0], []⟩ 8 (by kernel_rfl) (by kernel_rfl) (by kernel_rfl) (by kernel_rfl)) ?_
  intro W base args ds gs before hval hW _ _
  exact law_contract tabOk kids sizes (f := 4) (fn := Tryz.f4) (tb := 4) (params_ok (by kernel_rfl)) rfl Tryz.underlying4 rfl spec poolOpens_law W base args ds gs before hval hW
theorem holds : Rows.PoolOpensSaid :=
  OpenClaim.holds_of_wide 4 Tryz.f4 rfl rfl rfl rfl rfl rfl rfl ⟨rfl, rfl, rfl, rfl, rfl⟩ rfl rfl rfl rfl rfl (by kernel_rfl) Tryz.func4 (by kernel_rfl)
    (of_decide_eq_true (by kernel_rfl)) (by unfold Func.isWrapper; first | (rw [if_pos (by decide +kernel)]; kernel_rfl) | (rw [if_neg (by decide +kernel)]; exact ⟨rfl, rfl⟩))
    (fun os started H enc _ => lifted os started H enc)
end Go.Proofs.YtfpmffadpjoogaaGreat.poolOpens

