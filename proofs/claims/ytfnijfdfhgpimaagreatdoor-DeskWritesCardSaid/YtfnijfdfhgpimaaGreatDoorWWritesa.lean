/- What is proved here: the card of the statement DeskWrites, that its Go function answers true at every input and leaves its arguments alone; no condition beyond the statement's own. -/
import Derived.Test.YtfnijfdfhgpimaaGreatDoorWg
set_option linter.all false
noncomputable section
set_option maxHeartbeats 0
open Bool renaming false->L
open Go.OpenSpec renaming ofChange->GP
open Go.Proofs.Tryz renaming checked->yD,f5->vA,func5->aes,prog->cR
open _root_ renaming rfl->Z
namespace Go.Lk
end Go.Lk
set_option maxRecDepth 100000
namespace Go.Lk.Dk
open Go Go.Proofs Go.RowKit
def av4:∀d,wp Go.Lk.T vA.params.toList d->ml (vA.body.getD .skip) ⟨pS d,λ_=>none⟩ (nS 6):=by rintro d ⟨l6,eW,r0,rfl,cW,fh,d1,f,rfl,Q,g,h,i,rfl,c5,rfl⟩;obtain⟨ln,rfl,e8,e0⟩:=av1 (t:=26) (m:=255) cW Z Z Z Z Z;obtain⟨a,rfl,b⟩:=aep Q;obtain⟨c,rfl,e⟩:=aep c5;exact avP ln a c b e e0 e8
end Go.Lk.Dk
namespace Go.Proofs.YtfnijfdfhgpimaaGreatDoor
open Go Go.ChangeShapes Go.WideShapes Go.ChangeAt Go.RowKit Go.Lk Go.Lk.Dk
def av5(os)(s:os.Started)(H)(enc:TypeId×Value->H):
  ReturnsInLeavingWide {} yD os 5 .any (λw args=>(Rows.deskWritesSpec.pre enc cR vA [] L w args/\laidMetH cR w4 w) /\sizedMet enc cR vA (GP Rows.deskWritesSpec) L w args) (Rows.deskWritesSpec.post enc cR vA L true L L):=
 avZ s (f:=5) (fn:=vA) (c:=vA.body.getD .skip) (t:=6) (eh:=4) aes c2 c2 (of_decide_eq_true c2) c2 c1 (ajN c2) Z Tryz.underlying4 Z (λ|[_,_,_],_=>rfl) av4
  (ChangeSpec.witness_shaped (enc:=enc) (C:=yD) (os:=os) (X:=λw _=>laidMetH cR w4 w) L (World.laidAll cR os w4) #[.slice none 0 0,.int .u8 0,.int .u8 0] 8 (World.laidAll_os _ _ _)
   (World.shaped_of_ZipB c2 c2) c2 c2 c2 (avX os _))
def av6:joinedFacts cR 5 vA Rows.deskWritesSpec Rows.deskWritesRow=true:=by
 unfold joinedFacts;with_reducible repeat' apply av2
 all_goals as_aux_lemma =>kernel_rfl
def av7:Rows.DeskWritesSaid:=
 OpenClaim.holds_of_wide_leaving 5 vA Z Z Z Z Z Z Z ⟨Z,Z,Z,Z,Z⟩ Z Z Z Z Z c2 aes av6 (of_decide_eq_true c2) (by unfold Func.isWrapper;first|(rw[if_pos (by decide +kernel)];kernel_rfl)|(rw[cT (by decide +kernel)];exact⟨Z,Z⟩)) λo s H e _=>av5 o s H e
theorem holds:Rows.DeskWritesCardSaid:=av3 5 vA av7 c2 deskWrites_row_tie Z ⟨Z,Z⟩ c2 aes c2 c2
end Go.Proofs.YtfnijfdfhgpimaaGreatDoor
