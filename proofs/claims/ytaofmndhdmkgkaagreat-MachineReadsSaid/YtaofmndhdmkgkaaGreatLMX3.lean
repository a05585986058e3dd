/-
  What is proved here: the given statement MachineReadsSaid, for every input.
-/
import Derived.Test.YtaofmndhdmkgkaaGreatDAw
import Derived.JoinedCond
import Derived.OpenShut
import Derived.ProofKit
import Derived.Test.YtaofmndhdmkgkaaGreatRows
import Derived.WalkKit
set_option linter.unusedSimpArgs false
set_option linter.unusedVariables false
set_option linter.unnecessarySimpa false
set_option linter.unusedSectionVars false
namespace Go.Lk
open Go Go.Proofs Go.RowKit
theorem machineReads_law:∀ dds,FitAll T Tryz.f5.params.toList dds->ACall Tryz.prog 5 dds (.bool true):=by
 rintro dds ⟨n1,d1,r1,rfl,h1,n2,d2,r2,rfl,h2,n3,d3,r3,rfl,h3,rfl⟩;obtain ⟨a,rfl⟩:=page_arg h1;obtain ⟨b,rfl,b0,b1⟩:=u8_arg h2;obtain ⟨c,rfl⟩:=bool_arg h3;exact reads_ok a b b0 b1 c
end Go.Lk
namespace Go.Proofs.YtaofmndhdmkgkaaGreat.machineReads
open Go.ChangeShapes Go.WideShapes Go.ChangeAt Go.RowKit Go.Lk
theorem spec {H:Type}:∀ ds:List (DataW H),ds.length=Tryz.f5.params.toList.length->Rows.machineReadsSpec.fn H ds={results:=[.lit (.bool true)],args:=ds}
 | [_,_,_],_=>rfl
set_option maxRecDepth 100000 in
theorem lifted (os:Os) (started:os.Started) (H:Type) (enc:TypeId×Value->H):
  ReturnsInHanded {} Tryz.checked os 5 .any (Rows.machineReadsSpec.pre6 enc Tryz.prog Tryz.f5 Rows.machineReadsRow.domain false) (Rows.machineReadsSpec.post enc Tryz.prog Tryz.f5 false true false false):=by
 refine returnsInHanded_of_change (C:=Tryz.checked) own started (by kernel_rfl) Tryz.func5
  (ChangeSpec.witness6 (enc:=enc) (C:=Tryz.checked) false ⟨#[],#[.agg #[.int .i64 0,.int .i64 0,.string ByteArray.empty],.int .u8 0,.bool false],[]⟩ 8 (by kernel_rfl) (by kernel_rfl) (by kernel_rfl) (by kernel_rfl)) ?_
 intro W base args ds gs before hval hW _ _;exact law_contract tabOk kids sizes (f:=5) (fn:=Tryz.f5) (tb:=4) (params_ok (by kernel_rfl)) rfl Tryz.underlying4 rfl spec machineReads_law W base args ds gs before hval hW
theorem both {a b:Bool} (h:a=true) (k:b=true):(a&&b)=true:=by rw [h,k];rfl
set_option maxHeartbeats 40000000 in
theorem closed:joinedFacts Tryz.prog 5 Tryz.f5 Rows.machineReadsSpec Rows.machineReadsRow=true:=by
 unfold joinedFacts;refine both (both (both (both (both (both (both (both (both (both (both (both (both (both (both (both (both (both (both (both (both (both (both (both (both (both (both (both (both (both (both ?_ ?_) ?_) ?_) ?_) ?_) ?_) ?_) ?_) ?_) ?_) ?_) ?_) ?_) ?_) ?_) ?_) ?_) ?_) ?_) ?_) ?_) ?_) ?_) ?_) ?_) ?_) ?_) ?_) ?_) ?_) ?_
 all_goals as_aux_lemma=>kernel_rfl
theorem holds:Rows.MachineReadsSaid:=
 OpenClaim.holds_of_wide 5 Tryz.f5 rfl rfl rfl rfl rfl rfl rfl ⟨rfl,rfl,rfl,rfl,rfl⟩ rfl rfl rfl rfl rfl (by kernel_rfl) Tryz.func5 closed
  (of_decide_eq_true (by kernel_rfl)) (by unfold Func.isWrapper;first|(rw [if_pos (by decide+kernel)];kernel_rfl)|(rw [if_neg (by decide+kernel)];exact ⟨rfl,rfl⟩))
  (fun os started H enc _=>lifted os started H enc)
end Go.Proofs.YtaofmndhdmkgkaaGreat.machineReads
