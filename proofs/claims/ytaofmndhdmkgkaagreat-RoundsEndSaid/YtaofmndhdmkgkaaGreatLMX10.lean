/-
  What is proved here: the given statement RoundsEndSaid, for every input.
-/
import Derived.Test.YtaofmndhdmkgkaaGreatHBh
import Derived.Test.YtaofmndhdmkgkaaGreatHBj
import Derived.JoinedCond
import Derived.OpenShut
import Derived.ProofKit
import Derived.Test.YtaofmndhdmkgkaaGreatRows
import Derived.WalkKit
set_option linter.unusedSimpArgs false
set_option linter.unusedVariables false
set_option linter.unnecessarySimpa false
set_option linter.unusedSectionVars false
namespace Go.Lk
open Go Go.Proofs Go.RowKit
theorem roundsEnd_law:∀ dds,FitAll T Tryz.f12.params.toList dds->ACall Tryz.prog 12 dds (.bool true):=by
 rintro dds ⟨n1,d1,r1,rfl,h1,n2,d2,r2,rfl,h2,n3,d3,r3,rfl,h3,n4,d4,r4,rfl,h4,rfl⟩;obtain ⟨a,rfl,a0,a1⟩:=u8_arg h1;obtain ⟨b,rfl,b0⟩:=pages_arg h2;obtain ⟨c,rfl,c0,c1⟩:=work_arg h3;obtain ⟨d,rfl,d0⟩:=faults_arg h4;exact roundsEnd_ok a a0 a1 b b0 c c0 c1 d d0
end Go.Lk
namespace Go.Proofs.YtaofmndhdmkgkaaGreat.roundsEnd
open Go.ChangeShapes Go.WideShapes Go.ChangeAt Go.RowKit Go.Lk
theorem spec {H:Type}:∀ ds:List (DataW H),ds.length=Tryz.f12.params.toList.length->Rows.roundsEndSpec.fn H ds={results:=[.lit (.bool true)],args:=ds}
 | [_,_,_,_],_=>rfl
set_option maxRecDepth 100000 in
theorem lifted (os:Os) (started:os.Started) (H:Type) (enc:TypeId×Value->H):
  ReturnsInHanded {} Tryz.checked os 12 .any (Rows.roundsEndSpec.pre6 enc Tryz.prog Tryz.f12 Rows.roundsEndRow.domain false) (Rows.roundsEndSpec.post enc Tryz.prog Tryz.f12 false true false false):=by
 refine returnsInHanded_of_change (C:=Tryz.checked) own started (by kernel_rfl) Tryz.func12
  (ChangeSpec.witness6 (enc:=enc) (C:=Tryz.checked) false ⟨#[],#[.int .u8 0,.slice none 0 0,.slice none 0 0,.slice none 0 0],[]⟩ 8 (by kernel_rfl) (by kernel_rfl) (by kernel_rfl) (by kernel_rfl)) ?_
 intro W base args ds gs before hval hW _ _;exact law_contract tabOk kids sizes (f:=12) (fn:=Tryz.f12) (tb:=4) (params_ok (by kernel_rfl)) rfl Tryz.underlying4 rfl spec roundsEnd_law W base args ds gs before hval hW
theorem both {a b:Bool} (h:a=true) (k:b=true):(a&&b)=true:=by rw [h,k];rfl
set_option maxHeartbeats 40000000 in
theorem closed:joinedFacts Tryz.prog 12 Tryz.f12 Rows.roundsEndSpec Rows.roundsEndRow=true:=by
 unfold joinedFacts;refine both (both (both (both (both (both (both (both (both (both (both (both (both (both (both (both (both (both (both (both (both (both (both (both (both (both (both (both (both (both (both ?_ ?_) ?_) ?_) ?_) ?_) ?_) ?_) ?_) ?_) ?_) ?_) ?_) ?_) ?_) ?_) ?_) ?_) ?_) ?_) ?_) ?_) ?_) ?_) ?_) ?_) ?_) ?_) ?_) ?_) ?_) ?_
 all_goals as_aux_lemma=>kernel_rfl
theorem holds:Rows.RoundsEndSaid:=
 OpenClaim.holds_of_wide 12 Tryz.f12 rfl rfl rfl rfl rfl rfl rfl ⟨rfl,rfl,rfl,rfl,rfl⟩ rfl rfl rfl rfl rfl (by kernel_rfl) Tryz.func12 closed
  (of_decide_eq_true (by kernel_rfl)) (by unfold Func.isWrapper;first|(rw [if_pos (by decide+kernel)];kernel_rfl)|(rw [if_neg (by decide+kernel)];exact ⟨rfl,rfl⟩))
  (fun os started H enc _=>lifted os started H enc)
end Go.Proofs.YtaofmndhdmkgkaaGreat.roundsEnd
