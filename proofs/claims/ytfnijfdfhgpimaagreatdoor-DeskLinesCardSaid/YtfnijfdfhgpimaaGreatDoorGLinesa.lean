/- What is proved here: the card of the statement DeskLines, that its Go function answers true at every input and leaves its arguments alone; no condition beyond the statement's own. -/
import Derived.Test.YtfnijfdfhgpimaaGreatDoorGg
set_option linter.all false
noncomputable section
set_option maxHeartbeats 0
open Bool renaming false->L
open Go renaming joinedFacts->uu
open Go.OpenSpec renaming ofChange->vT
open Go.Proofs.Tryz renaming checked->oO,f4->vX,func4->afe,prog->cQ
open _root_ renaming rfl->Z
namespace Go.Lk
def Hs:=@ChangeSpec.witness_shaped
def Hv:=@OpenClaim.holds_of_wide_leaving
def Ht:=@World.laidAll_os
def Hu:=@World.shaped_of_ZipB
end Go.Lk
set_option maxRecDepth 100000
namespace Go.Lk.Dk
open Go Go.Proofs Go.RowKit
def awR:∀d,q3 Go.Lk.T vX.params.toList d->jo (vX.body.getD .skip) ⟨k9 d,λ_=>none⟩ (kc 2):=by rintro d ⟨j3,eU,r0,rfl,cW,rfl⟩;obtain⟨hg,rfl⟩:=Mi cW;exact awQ hg
end Go.Lk.Dk
namespace Go.Proofs.YtfnijfdfhgpimaaGreatDoor
open Go Go.ChangeShapes Go.WideShapes Go.ChangeAt Go.RowKit Go.Lk Go.Lk.Dk
def awS(os)(s:os.Started)(H)(enc:TypeId×Value->H):
  ReturnsInLeavingWide {} oO os 4 .any (λw args=>(Rows.deskLinesSpec.pre enc cQ vX [] L w args/\laidMetH cQ lK w) /\sizedMet enc cQ vX (vT Rows.deskLinesSpec) L w args) (Rows.deskLinesSpec.post enc cQ vX L true L L):=
 Ea s (f:=4) (fn:=vX) (c:=vX.body.getD .skip) (t:=2) (eg:=4) afe cV cV (of_decide_eq_true cV) cV cZ (CW cV) Z Cw Z (λ|[_],_=>rfl) awR
  (Hs (enc:=enc) (C:=oO) (os:=os) (X:=λw _=>laidMetH cQ lK w) L (World.laidAll cQ os lK) #[.string .empty] 8 (Ht _ _ _)
   (Hu cV cV) cV cV cV (D_ os _))
def awT:uu cQ 4 vX Rows.deskLinesSpec Rows.deskLinesRow=true:=by
 unfold uu;with_reducible repeat' apply Ec
 all_goals as_aux_lemma =>kernel_rfl
def awU:Rows.DeskLinesSaid:=
 Hv 4 vX Z Z Z Z Z Z Z ⟨Z,Z,Z,Z,Z⟩ Z Z Z Z Z cV afe awT (of_decide_eq_true cV) (by unfold Func.isWrapper;first|(rw[if_pos (by decide +kernel)];kernel_rfl)|(rw[cS (by decide +kernel)];exact⟨Z,Z⟩)) λo s H e _=>awS o s H e
theorem holds:Rows.DeskLinesCardSaid:=Ed 4 vX awU cV deskLines_row_tie Z ⟨Z,Z⟩ cV afe cV cV
end Go.Proofs.YtfnijfdfhgpimaaGreatDoor
