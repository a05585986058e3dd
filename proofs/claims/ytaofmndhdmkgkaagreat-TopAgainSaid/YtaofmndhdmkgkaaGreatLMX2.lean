/-
  What is proved here: the given statement TopAgainSaid, for every input.
-/
import Derived.Test.YtaofmndhdmkgkaaGreatGAw
import Derived.Test.YtaofmndhdmkgkaaGreatGAx
import Derived.JoinedCond
import Derived.OpenShut
import Derived.ProofKit
import Derived.Test.YtaofmndhdmkgkaaGreatRows
import Derived.WalkKit
namespace Go.Lk
open Go Go.Proofs Go.RowKit
theorem z7m:∀ dds,yBq T Tryz.f4.params.toList dds->zAj Tryz.prog 4 dds (.bool true):=by
 rintro dds ⟨n1,d1,r1,rfl,h1,n2,d2,r2,rfl,h2,n3,d3,r3,rfl,h3,rfl⟩;obtain ⟨a,rfl,a0,a1⟩:=u8_arg h1;obtain ⟨b,rfl,b0,b1⟩:=yOx h2;obtain ⟨c,rfl,c0⟩:=yGp h3;exact yBh a a0 a1 b b0 b1 c c0
end Go.Lk
namespace Go.Proofs.YtaofmndhdmkgkaaGreat.topAgain
open Go.ChangeShapes Go.WideShapes Go.ChangeAt Go.RowKit Go.Lk
theorem spec {H:Type}:∀ ds:List (DataW H),ds.length=Tryz.f4.params.toList.length->Rows.topAgainSpec.fn H ds={results:=[.lit (.bool true)],args:=ds}
 | [_,_,_],_=>rfl
set_option maxRecDepth 100000 in
theorem lifted (os:Os) (started:os.Started) (H:Type) (enc:TypeId×Value->H):
  ReturnsInHanded {} Tryz.checked os 4 .any (Rows.topAgainSpec.pre6 enc Tryz.prog Tryz.f4 Rows.topAgainRow.domain false) (Rows.topAgainSpec.post enc Tryz.prog Tryz.f4 false true false false):=by
 refine returnsInHanded_of_change (C:=Tryz.checked) own started (by kernel_rfl) Tryz.func4
  (ChangeSpec.witness6 (enc:=enc) (C:=Tryz.checked) false ⟨#[],#[.int .u8 0,.slice none 0 0,.slice none 0 0],[]⟩ 8 (by kernel_rfl) (by kernel_rfl) (by kernel_rfl) (by kernel_rfl)) ?_
 intro W base args ds gs before hval hW _ _;exact z5u zYf kids sizes (f:=4) (fn:=Tryz.f4) (tb:=4) (yMy (by kernel_rfl)) rfl Tryz.underlying4 rfl spec z7m W base args ds gs before hval hW
theorem both {a b:Bool} (h:a=true) (k:b=true):(a&&b)=true:=by rw [h,k];rfl
set_option maxHeartbeats 40000000 in
theorem closed:joinedFacts Tryz.prog 4 Tryz.f4 Rows.topAgainSpec Rows.topAgainRow=true:=by
 unfold joinedFacts;refine both (both (both (both (both (both (both (both (both (both (both (both (both (both (both (both (both (both (both (both (both (both (both (both (both (both (both (both (both (both (both ?_ ?_) ?_) ?_) ?_) ?_) ?_) ?_) ?_) ?_) ?_) ?_) ?_) ?_) ?_) ?_) ?_) ?_) ?_) ?_) ?_) ?_) ?_) ?_) ?_) ?_) ?_) ?_) ?_) ?_) ?_) ?_
 all_goals as_aux_lemma=>kernel_rfl
theorem holds:Rows.TopAgainSaid:=
 OpenClaim.holds_of_wide 4 Tryz.f4 rfl rfl rfl rfl rfl rfl rfl ⟨rfl,rfl,rfl,rfl,rfl⟩ rfl rfl rfl rfl rfl (by kernel_rfl) Tryz.func4 closed
  (of_decide_eq_true (by kernel_rfl)) (by unfold Func.isWrapper;first|(rw [if_pos (by decide+kernel)];kernel_rfl)|(rw [if_neg (by decide+kernel)];exact ⟨rfl,rfl⟩))
  (fun os started H enc _=>lifted os started H enc)
end Go.Proofs.YtaofmndhdmkgkaaGreat.topAgain
