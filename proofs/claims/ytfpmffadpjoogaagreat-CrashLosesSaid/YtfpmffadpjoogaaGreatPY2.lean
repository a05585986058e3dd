/-
  What is proved here: the given statement CrashLosesSaid, for every input.
-/
import Derived.Test.YtfpmffadpjoogaaGreatBAi
import Derived.Test.YtfpmffadpjoogaaGreatPc11
import Derived.Test.YtfpmffadpjoogaaGreatRows
import Derived.WalkKit
import Derived.ProofKit
import Derived.OpenShut
import Derived.JoinedCond
set_option linter.unusedSimpArgs false
set_option linter.unusedVariables false
set_option linter.unnecessarySimpa false
set_option linter.unusedSectionVars false
namespace Go.Lk
open Go Go.Proofs Go.RowKit
theorem fit_n {m : Nat} {ds : List D} (h : Fit T m 3 ds) : ∃ s : Int, ds = encN s ∧ True := by
  obtain ⟨x, rfl, _⟩ := fit_int (k := .i64) rfl h
  exact ⟨x, rfl, trivial⟩
theorem ns_arg {n : Nat} {d : D} (h : FitV T n 86 d) : ∃ l : List Int, d = .lst (l.map encN) := by
  obtain ⟨l, rfl, _, _⟩ := fitV_rows (f := encN) (Q := fun _ => True) (e := 3) rfl h fun m x h => fit_n h
  exact ⟨l, rfl⟩
theorem strs_arg {n : Nat} {d : D} (h : FitV T n 35 d) : ∃ l : List ByteArray, d = .lst (l.map encB) := by
  obtain ⟨l, rfl, _, _⟩ := fitV_rows (f := encB) (Q := fun _ => True) (e := 9) rfl h fun m x h => fit_bytes h
  exact ⟨l, rfl⟩
theorem crashLoses_law : ∀ dds, FitAll T Tryz.f12.params.toList dds → ACall Tryz.prog 12 dds (.bool true) := by
  rintro dds ⟨n1, d1, r1, rfl, h1, n2, d2, r2, rfl, h2, n3, d3, r3, rfl, h3, rfl⟩
  obtain ⟨a, rfl, a0, a1⟩ := u8_arg h1
  obtain ⟨b, rfl⟩ := strs_arg h2
  obtain ⟨k, rfl⟩ := ns_arg h3
  exact crashLoses_ok a a0 a1 b k
end Go.Lk

namespace Go.Proofs.YtfpmffadpjoogaaGreat.crashLoses
open Go.ChangeShapes Go.WideShapes Go.ChangeAt Go.RowKit Go.Lk
theorem spec {H : Type} : ∀ ds : List (DataW H), ds.length = Tryz.f12.params.toList.length → Rows.crashLosesSpec.fn H ds = { results := [.lit (.bool true)], args := ds }
  | [_, _, _], _ => rfl
set_option maxRecDepth 100000 in
theorem lifted (os : Os) (started : os.Started) (H : Type) (enc : TypeId × Value → H) :
    ReturnsInHanded {} Tryz.checked os 12 .any (Rows.crashLosesSpec.pre6 enc Tryz.prog Tryz.f12 Rows.crashLosesRow.domain false) (Rows.crashLosesSpec.post enc Tryz.prog Tryz.f12 false true false false) := by
  refine returnsInHanded_of_change (C := Tryz.checked) own started (by kernel_rfl) Tryz.func12
    (ChangeSpec.witness6 (enc := enc) (C := Tryz.checked) false ⟨#[], #[.int .u8 0, .slice none 0 0, .slice none 0 0], []⟩ 8 (by kernel_rfl) (by kernel_rfl) (by kernel_rfl) (by kernel_rfl)) ?_
  intro W base args ds gs before hval hW _ _
  exact law_contract tabOk kids sizes (f := 12) (fn := Tryz.f12) (tb := 4) (params_ok (by kernel_rfl)) rfl Tryz.underlying4 rfl spec crashLoses_law W base args ds gs before hval hW
theorem holds : Rows.CrashLosesSaid :=
  OpenClaim.holds_of_wide 12 Tryz.f12 rfl rfl rfl rfl rfl rfl rfl ⟨rfl, rfl, rfl, rfl, rfl⟩ rfl rfl rfl rfl rfl (by kernel_rfl) Tryz.func12 (by kernel_rfl)
    (of_decide_eq_true (by kernel_rfl)) (by unfold Func.isWrapper; first | (rw [if_pos (by decide +kernel)]; kernel_rfl) | (rw [if_neg (by decide +kernel)]; exact ⟨rfl, rfl⟩))
    (fun os started H enc _ => lifted os started H enc)
end Go.Proofs.YtfpmffadpjoogaaGreat.crashLoses

