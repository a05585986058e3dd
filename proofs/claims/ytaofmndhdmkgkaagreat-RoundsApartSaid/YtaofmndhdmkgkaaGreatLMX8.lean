/-
  What is proved here: the given statement RoundsApartSaid, for every input.
-/
import Derived.Test.YtaofmndhdmkgkaaGreatFAw
import Derived.JoinedCond
import Derived.OpenShut
import Derived.ProofKit
import Derived.Test.YtaofmndhdmkgkaaGreatRows
import Derived.WalkKit
set_option linter.unusedSimpArgs false
set_option linter.unusedVariables false
set_option linter.unnecessarySimpa false
set_option linter.unusedSectionVars false
namespace Go.Lk
open Go Go.Proofs Go.RowKit
theorem roundsApart_law:∀ dds,FitAll T Tryz.f10.params.toList dds->ACall Tryz.prog 10 dds (.bool true):=by
 rintro dds ⟨n1,d1,r1,rfl,h1,rfl⟩;obtain ⟨a,rfl,a0,a1⟩:=bytes_arg h1;exact roundsApart_ok a a0 a1
end Go.Lk
namespace Go.Proofs.YtaofmndhdmkgkaaGreat.roundsApart
open Go.ChangeShapes Go.WideShapes Go.ChangeAt Go.RowKit Go.Lk
theorem spec {H:Type}:∀ ds:List (DataW H),ds.length=Tryz.f10.params.toList.length->Rows.roundsApartSpec.fn H ds={results:=[.lit (.bool true)],args:=ds}
 | [_],_=>rfl
set_option maxRecDepth 100000 in
theorem lifted (os:Os) (started:os.Started) (H:Type) (enc:TypeId×Value->H):
  ReturnsInHanded {} Tryz.checked os 10 .any (Rows.roundsApartSpec.pre6 enc Tryz.prog Tryz.f10 Rows.roundsApartRow.domain false) (Rows.roundsApartSpec.post enc Tryz.prog Tryz.f10 false true false false):=by
 refine returnsInHanded_of_change (C:=Tryz.checked) own started (by kernel_rfl) Tryz.func10
  (ChangeSpec.witness6 (enc:=enc) (C:=Tryz.checked) false ⟨#[],#[.slice none 0 0],[]⟩ 8 (by kernel_rfl) (by kernel_rfl) (by kernel_rfl) (by kernel_rfl)) ?_
 intro W base args ds gs before hval hW _ _;exact law_contract tabOk kids sizes (f:=10) (fn:=Tryz.f10) (tb:=4) (params_ok (by kernel_rfl)) rfl Tryz.underlying4 rfl spec roundsApart_law W base args ds gs before hval hW
theorem both {a b:Bool} (h:a=true) (k:b=true):(a&&b)=true:=by rw [h,k];rfl
set_option maxHeartbeats 40000000 in
theorem closed:joinedFacts Tryz.prog 10 Tryz.f10 Rows.roundsApartSpec Rows.roundsApartRow=true:=by
 unfold joinedFacts;refine both (both (both (both (both (both (both (both (both (both (both (both (both (both (both (both (both (both (both (both (both (both (both (both (both (both (both (both (both (both (both ?_ ?_) ?_) ?_) ?_) ?_) ?_) ?_) ?_) ?_) ?_) ?_) ?_) ?_) ?_) ?_) ?_) ?_) ?_) ?_) ?_) ?_) ?_) ?_) ?_) ?_) ?_) ?_) ?_) ?_) ?_) ?_
 all_goals as_aux_lemma=>kernel_rfl
theorem holds:Rows.RoundsApartSaid:=
 OpenClaim.holds_of_wide 10 Tryz.f10 rfl rfl rfl rfl rfl rfl rfl ⟨rfl,rfl,rfl,rfl,rfl⟩ rfl rfl rfl rfl rfl (by kernel_rfl) Tryz.func10 closed
  (of_decide_eq_true (by kernel_rfl)) (by unfold Func.isWrapper;first|(rw [if_pos (by decide+kernel)];kernel_rfl)|(rw [if_neg (by decide+kernel)];exact ⟨rfl,rfl⟩))
  (fun os started H enc _=>lifted os started H enc)
end Go.Proofs.YtaofmndhdmkgkaaGreat.roundsApart
