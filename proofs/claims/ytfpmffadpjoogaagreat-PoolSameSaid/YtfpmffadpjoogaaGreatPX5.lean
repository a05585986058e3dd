/-
  What is proved here: the given statement PoolSameSaid, for every input.
-/
import Derived.Test.YtfpmffadpjoogaaGreatBAn
import Derived.Test.YtfpmffadpjoogaaGreatPq9
import Derived.Test.YtfpmffadpjoogaaGreatRows
import Derived.WalkKit
import Derived.ProofKit
import Derived.OpenShut
import Derived.JoinedCond
set_option linter.unusedSimpArgs false
set_option linter.unusedVariables false
set_option linter.unnecessarySimpa false
set_option linter.unusedSectionVars false
namespace Go.Lk
open Go Go.Proofs Go.RowKit
theorem poolSame_law : ∀ dds, FitAll T Tryz.f7.params.toList dds → ACall Tryz.prog 7 dds (.bool true) := by
  rintro dds ⟨n1, d1, r1, rfl, h1, n2, d2, r2, rfl, h2, rfl⟩
  obtain ⟨a, rfl, a0, a1⟩ := u8_arg h1
  obtain ⟨l, rfl⟩ := acts_arg h2
  exact poolSame_ok a a0 a1 l
end Go.Lk

namespace Go.Proofs.YtfpmffadpjoogaaGreat.poolSame
open Go.ChangeShapes Go.WideShapes Go.ChangeAt Go.RowKit Go.Lk
theorem spec {H : Type} : ∀ ds : List (DataW H), ds.length = Tryz.f7.params.toList.length → Rows.poolSameSpec.fn H ds = { results := [.lit (.bool true)], args := ds }
  | [_, _], _ => rfl
set_option maxRecDepth 100000 in
theorem lifted (os : Os) (started : os.Started) (H : Type) (enc : TypeId × Value → H) :
    ReturnsInHanded {} Tryz.checked os 7 .any (Rows.poolSameSpec.pre6 enc Tryz.prog Tryz.f7 Rows.poolSameRow.domain false) (Rows.poolSameSpec.post enc Tryz.prog Tryz.f7 false true false false) := by
  refine returnsInHanded_of_change (C := Tryz.checked) own started (by kernel_rfl) Tryz.func7
    (ChangeSpec.witness6 (enc := enc) (C := Tryz.checked) false ⟨#[], #[.int .u8 0, .slice none 0 0], []⟩ 8 (by kernel_rfl) (by kernel_rfl) (by kernel_rfl) (by kernel_rfl)) ?_
  intro W base args ds gs before hval hW _ _
  exact law_contract tabOk kids sizes (f := 7) (fn := Tryz.f7) (tb := 4) (params_ok (by kernel_rfl)) rfl Tryz.underlying4 rfl spec poolSame_law W base args ds gs before hval hW
theorem holds : Rows.PoolSameSaid :=
  OpenClaim.holds_of_wide 7 Tryz.f7 rfl rfl rfl rfl rfl rfl rfl ⟨rfl, rfl, rfl, rfl, rfl⟩ rfl rfl rfl rfl rfl (by kernel_rfl) Tryz.func7 (by kernel_rfl)
    (of_decide_eq_true (by kernel_rfl)) (by unfold Func.isWrapper; first | (rw [if_pos (by decide +kernel)]; kernel_rfl) | (rw [if_neg (by decide +kernel)]; exact ⟨rfl, rfl⟩))
    (fun os started H enc _ => lifted os started H enc)
end Go.Proofs.YtfpmffadpjoogaaGreat.poolSame

