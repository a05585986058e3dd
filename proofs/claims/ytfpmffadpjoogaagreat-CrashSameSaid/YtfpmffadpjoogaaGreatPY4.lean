/-
  What is proved here: the given statement CrashSameSaid, for every input.
-/
import Derived.Test.YtfpmffadpjoogaaGreatBAl
import Derived.Test.YtfpmffadpjoogaaGreatPc7
import Derived.Test.YtfpmffadpjoogaaGreatRows
import Derived.WalkKit
import Derived.ProofKit
import Derived.OpenShut
import Derived.JoinedCond
set_option linter.unusedSimpArgs false
set_option linter.unusedVariables false
set_option linter.unnecessarySimpa false
set_option linter.unusedSectionVars false
namespace Go.Lk
open Go Go.Proofs Go.RowKit
theorem fit_n {m : Nat} {ds : List D} (h : Fit T m 3 ds) : ∃ s : Int, ds = encN s ∧ True := by
  obtain ⟨x, rfl, _⟩ := fit_int (k := .i64) rfl h
  exact ⟨x, rfl, trivial⟩
theorem ns_arg {n : Nat} {d : D} (h : FitV T n 86 d) : ∃ l : List Int, d = .lst (l.map encN) := by
  obtain ⟨l, rfl, _, _⟩ := fitV_rows (f := encN) (Q := fun _ => True) (e := 3) rfl h fun m x h => fit_n h
  exact ⟨l, rfl⟩
theorem fit_st {m : Nat} {ds : List D} (h : Fit T m 102 ds) : ∃ s : Stp, ds = encSt s ∧ True := by
  obtain ⟨m, c, r, rfl, hc, t, r2, rfl, ht, p, r3, rfl, hp, q, r4, rfl, hq, z, r5, rfl, hz, rfl⟩ := fit_struct (fs := [(0, 3), (1, 3), (2, 54), (5, 86), (6, 86)]) rfl h
  obtain ⟨x, rfl, _⟩ := fit_int (k := .i64) rfl hc
  obtain ⟨y, rfl, _⟩ := fit_int (k := .i64) rfl ht
  obtain ⟨a, rfl, _⟩ := fit_act hp
  obtain ⟨k, rfl, _⟩ := fit_rows (f := encN) (Q := fun _ => True) (e := 3) rfl hq fun m x h => fit_n h
  obtain ⟨k2, rfl, _⟩ := fit_rows (f := encN) (Q := fun _ => True) (e := 3) rfl hz fun m x h => fit_n h
  exact ⟨⟨x, y, a, k, k2⟩, rfl, trivial⟩
theorem crashSame_law : ∀ dds, FitAll T Tryz.f14.params.toList dds → ACall Tryz.prog 14 dds (.bool true) := by
  rintro dds ⟨n1, d1, r1, rfl, h1, n2, d2, r2, rfl, h2, rfl⟩
  obtain ⟨a, rfl, a0, a1⟩ := u8_arg h1
  obtain ⟨l, rfl, _, _⟩ := fitV_rows (f := encSt) (Q := fun _ => True) (e := 102) rfl h2 fun m x h => fit_st h
  exact crashSame_ok a a0 a1 l
end Go.Lk

namespace Go.Proofs.YtfpmffadpjoogaaGreat.crashSame
open Go.ChangeShapes Go.WideShapes Go.ChangeAt Go.RowKit Go.Lk
theorem spec {H : Type} : ∀ ds : List (DataW H), ds.length = Tryz.f14.params.toList.length → Rows.crashSameSpec.fn H ds = { results := [.lit (.bool true)], args := ds }
  | [_, _], _ => rfl
set_option maxRecDepth 100000 in
theorem lifted (os : Os) (started : os.Started) (H : Type) (enc : TypeId × Value → H) :
    ReturnsInHanded {} Tryz.checked os 14 .any (Rows.crashSameSpec.pre6 enc Tryz.prog Tryz.f14 Rows.crashSameRow.domain false) (Rows.crashSameSpec.post enc Tryz.prog Tryz.f14 false true false false) := by
  refine returnsInHanded_of_change (C := Tryz.checked) own started (by kernel_rfl) Tryz.func14
    (ChangeSpec.witness6 (enc := enc) (C := Tryz.checked) false ⟨#[], #[.int .u8 0, .slice none 0 0], []⟩ 8 (by kernel_rfl) (by kernel_rfl) (by kernel_rfl) (by kernel_rfl)) ?_
  intro W base args ds gs before hval hW _ _
  exact law_contract tabOk kids sizes (f := 14) (fn := Tryz.f14) (tb := 4) (params_ok (by kernel_rfl)) rfl Tryz.underlying4 rfl spec crashSame_law W base args ds gs before hval hW
theorem holds : Rows.CrashSameSaid :=
  OpenClaim.holds_of_wide 14 Tryz.f14 rfl rfl rfl rfl rfl rfl rfl ⟨rfl, rfl, rfl, rfl, rfl⟩ rfl rfl rfl rfl rfl (by kernel_rfl) Tryz.func14 (by kernel_rfl)
    (of_decide_eq_true (by kernel_rfl)) (by unfold Func.isWrapper; first | (rw [if_pos (by decide +kernel)]; kernel_rfl) | (rw [if_neg (by decide +kernel)]; exact ⟨rfl, rfl⟩))
    (fun os started H enc _ => lifted os started H enc)
end Go.Proofs.YtfpmffadpjoogaaGreat.crashSame

