/-
  What is proved here: the given statement RoundsBoundSaid, for every input.
-/
import Derived.Test.YtaofmndhdmkgkaaGreatFAw
import Derived.JoinedCond
import Derived.OpenShut
import Derived.ProofKit
import Derived.Test.YtaofmndhdmkgkaaGreatRows
import Derived.WalkKit
set_option linter.unusedSimpArgs false
set_option linter.unusedVariables false
set_option linter.unnecessarySimpa false
set_option linter.unusedSectionVars false
namespace Go.Lk
open Go Go.Proofs Go.RowKit
theorem roundsBound_law:∀ dds,FitAll T Tryz.f7.params.toList dds->ACall Tryz.prog 7 dds (.bool true):=by
 rintro dds ⟨n1,d1,r1,rfl,h1,rfl⟩;obtain ⟨a,rfl,a0,a1⟩:=work_arg h1;exact roundsBound_ok a a0 a1
end Go.Lk
namespace Go.Proofs.YtaofmndhdmkgkaaGreat.roundsBound
open Go.ChangeShapes Go.WideShapes Go.ChangeAt Go.RowKit Go.Lk
theorem spec {H:Type}:∀ ds:List (DataW H),ds.length=Tryz.f7.params.toList.length->Rows.roundsBoundSpec.fn H ds={results:=[.lit (.bool true)],args:=ds}
 | [_],_=>rfl
set_option maxRecDepth 100000 in
theorem lifted (os:Os) (started:os.Started) (H:Type) (enc:TypeId×Value->H):
  ReturnsInHanded {} Tryz.checked os 7 .any (Rows.roundsBoundSpec.pre6 enc Tryz.prog Tryz.f7 Rows.roundsBoundRow.domain false) (Rows.roundsBoundSpec.post enc Tryz.prog Tryz.f7 false true false false):=by
 refine returnsInHanded_of_change (C:=Tryz.checked) own started (by kernel_rfl) Tryz.func7
  (ChangeSpec.witness6 (enc:=enc) (C:=Tryz.checked) false ⟨#[],#[.slice none 0 0],[]⟩ 8 (by kernel_rfl) (by kernel_rfl) (by kernel_rfl) (by kernel_rfl)) ?_
 intro W base args ds gs before hval hW _ _;exact law_contract tabOk kids sizes (f:=7) (fn:=Tryz.f7) (tb:=4) (params_ok (by kernel_rfl)) rfl Tryz.underlying4 rfl spec roundsBound_law W base args ds gs before hval hW
theorem both {a b:Bool} (h:a=true) (k:b=true):(a&&b)=true:=by rw [h,k];rfl
set_option maxHeartbeats 40000000 in
theorem closed:joinedFacts Tryz.prog 7 Tryz.f7 Rows.roundsBoundSpec Rows.roundsBoundRow=true:=by
 unfold joinedFacts;refine both (both (both (both (both (both (both (both (both (both (both (both (both (both (both (both (both (both (both (both (both (both (both (both (both (both (both (both (both (both (both ?_ ?_) ?_) ?_) ?_) ?_) ?_) ?_) ?_) ?_) ?_) ?_) ?_) ?_) ?_) ?_) ?_) ?_) ?_) ?_) ?_) ?_) ?_) ?_) ?_) ?_) ?_) ?_) ?_) ?_) ?_) ?_
 all_goals as_aux_lemma=>kernel_rfl
theorem holds:Rows.RoundsBoundSaid:=
 OpenClaim.holds_of_wide 7 Tryz.f7 rfl rfl rfl rfl rfl rfl rfl ⟨rfl,rfl,rfl,rfl,rfl⟩ rfl rfl rfl rfl rfl (by kernel_rfl) Tryz.func7 closed
  (of_decide_eq_true (by kernel_rfl)) (by unfold Func.isWrapper;first|(rw [if_pos (by decide+kernel)];kernel_rfl)|(rw [if_neg (by decide+kernel)];exact ⟨rfl,rfl⟩))
  (fun os started H enc _=>lifted os started H enc)
end Go.Proofs.YtaofmndhdmkgkaaGreat.roundsBound
