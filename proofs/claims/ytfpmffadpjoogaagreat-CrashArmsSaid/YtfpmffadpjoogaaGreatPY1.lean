/-
  What is proved here: the given statement CrashArmsSaid, for every input.
-/
import Derived.Test.YtfpmffadpjoogaaGreatBAl
import Derived.Test.YtfpmffadpjoogaaGreatPc8
import Derived.Test.YtfpmffadpjoogaaGreatRows
import Derived.WalkKit
import Derived.ProofKit
import Derived.OpenShut
import Derived.JoinedCond
set_option linter.unusedSimpArgs false
set_option linter.unusedVariables false
set_option linter.unnecessarySimpa false
set_option linter.unusedSectionVars false
namespace Go.Lk
open Go Go.Proofs Go.RowKit
theorem crashArms_law : ∀ dds, FitAll T Tryz.f11.params.toList dds → ACall Tryz.prog 11 dds (.bool true) := by
  rintro dds ⟨n1, d1, r1, rfl, h1, n2, d2, r2, rfl, h2, n3, d3, r3, rfl, h3, rfl⟩
  obtain ⟨a, rfl, a0, a1⟩ := u8_arg h1
  obtain ⟨l, rfl⟩ := acts_arg h2
  obtain ⟨ds, e0, h'⟩ := fitV_agg (T := T) (t := 54) rfl h3
  subst e0
  obtain ⟨x, rfl, _⟩ := fit_act h'
  exact crashArms_ok a a0 a1 l x
end Go.Lk

namespace Go.Proofs.YtfpmffadpjoogaaGreat.crashArms
open Go.ChangeShapes Go.WideShapes Go.ChangeAt Go.RowKit Go.Lk
theorem spec {H : Type} : ∀ ds : List (DataW H), ds.length = Tryz.f11.params.toList.length → Rows.crashArmsSpec.fn H ds = { results := [.lit (.bool true)], args := ds }
  | [_, _, _], _ => rfl
set_option maxRecDepth 100000 in
theorem lifted (os : Os) (started : os.Started) (H : Type) (enc : TypeId × Value → H) :
    ReturnsInHanded {} Tryz.checked os 11 .any (Rows.crashArmsSpec.pre6 enc Tryz.prog Tryz.f11 Rows.crashArmsRow.domain false) (Rows.crashArmsSpec.post enc Tryz.prog Tryz.f11 false true false false) := by
  refine returnsInHanded_of_change (C := Tryz.checked) own started (by kernel_rfl) Tryz.func11
    (ChangeSpec.witness6 (enc := enc) (C := Tryz.checked) false ⟨#[], #[.int .u8 0, .slice none 0 0, .agg #[.int .i64 0, .int .i64 0, .string .empty]], []⟩ 8 (by kernel_rfl) (by kernel_rfl) (by kernel_rfl) (by kernel_rfl)) ?_
  intro W base args ds gs before hval hW _ _
  exact law_contract tabOk kids sizes (f := 11) (fn := Tryz.f11) (tb := 4) (params_ok (by kernel_rfl)) rfl Tryz.underlying4 rfl spec crashArms_law W base args ds gs before hval hW
theorem holds : Rows.CrashArmsSaid :=
  OpenClaim.holds_of_wide 11 Tryz.f11 rfl rfl rfl rfl rfl rfl rfl ⟨rfl, rfl, rfl, rfl, rfl⟩ rfl rfl rfl rfl rfl (by kernel_rfl) Tryz.func11 (by kernel_rfl)
    (of_decide_eq_true (by kernel_rfl)) (by unfold Func.isWrapper; first | (rw [if_pos (by decide +kernel)]; kernel_rfl) | (rw [if_neg (by decide +kernel)]; exact ⟨rfl, rfl⟩))
    (fun os started H enc _ => lifted os started H enc)
end Go.Proofs.YtfpmffadpjoogaaGreat.crashArms

