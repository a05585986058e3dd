/- What is proved here: the card of the statement DeskGoes, that its Go function answers true at every input and leaves its arguments alone; no condition beyond the statement's own. -/
import Derived.Test.YtfnijfdfhgpimaaGreatDoorGg
set_option linter.all false
noncomputable section
set_option maxHeartbeats 0
open Bool renaming false->L
open Go renaming joinedFacts->uu
open Go.OpenSpec renaming ofChange->vT
open Go.Proofs.Tryz renaming checked->oO,f3->vS,func3->aeQ,prog->cQ
open _root_ renaming rfl->Z
namespace Go.Lk
def Hs:=@ChangeSpec.witness_shaped
def Hv:=@OpenClaim.holds_of_wide_leaving
def Ht:=@World.laidAll_os
def Hu:=@World.shaped_of_ZipB
end Go.Lk
set_option maxRecDepth 100000
namespace Go.Lk.Dk
open Go Go.Proofs Go.RowKit
def awv:∀d,q3 Go.Lk.T vS.params.toList d->jo (vS.body.getD .skip) ⟨k9 d,λ_=>none⟩ (kc 4):=by rintro d ⟨j3,eU,r0,rfl,cW,fA,d1,b,rfl,Q,rfl⟩;obtain⟨hg,rfl⟩:=Mi cW;obtain⟨a,rfl⟩:=Mi Q;exact awm hg a
end Go.Lk.Dk
namespace Go.Proofs.YtfnijfdfhgpimaaGreatDoor
open Go Go.ChangeShapes Go.WideShapes Go.ChangeAt Go.RowKit Go.Lk Go.Lk.Dk
def aww(os)(s:os.Started)(H)(enc:TypeId×Value->H):
  ReturnsInLeavingWide {} oO os 3 .any (λw args=>(Rows.deskGoesSpec.pre enc cQ vS [] L w args/\laidMetH cQ lK w) /\sizedMet enc cQ vS (vT Rows.deskGoesSpec) L w args) (Rows.deskGoesSpec.post enc cQ vS L true L L):=
 Ea s (f:=3) (fn:=vS) (c:=vS.body.getD .skip) (t:=4) (eg:=4) aeQ cV cV (of_decide_eq_true cV) cV cZ (CW cV) Z Cw Z (λ|[_,_],_=>rfl) awv
  (Hs (enc:=enc) (C:=oO) (os:=os) (X:=λw _=>laidMetH cQ lK w) L (World.laidAll cQ os lK) #[.string .empty,.string .empty] 8 (Ht _ _ _)
   (Hu cV cV) cV cV cV (D_ os _))
def awx:uu cQ 3 vS Rows.deskGoesSpec Rows.deskGoesRow=true:=by
 unfold uu;with_reducible repeat' apply Ec
 all_goals as_aux_lemma =>kernel_rfl
def awy:Rows.DeskGoesSaid:=
 Hv 3 vS Z Z Z Z Z Z Z ⟨Z,Z,Z,Z,Z⟩ Z Z Z Z Z cV aeQ awx (of_decide_eq_true cV) (by unfold Func.isWrapper;first|(rw[if_pos (by decide +kernel)];kernel_rfl)|(rw[cS (by decide +kernel)];exact⟨Z,Z⟩)) λo s H e _=>aww o s H e
theorem holds:Rows.DeskGoesCardSaid:=Ed 3 vS awy cV deskGoes_row_tie Z ⟨Z,Z⟩ cV aeQ cV cV
end Go.Proofs.YtfnijfdfhgpimaaGreatDoor
