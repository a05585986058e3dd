/- What is proved here: the card of the statement DeskLasts, that its Go function answers true at every input and leaves its arguments alone; no condition beyond the statement's own. -/
import Derived.Test.YtfnijfdfhgpimaaGreatDoorGg
set_option linter.all false
noncomputable section
set_option maxHeartbeats 0
open Bool renaming false->L
open Go renaming joinedFacts->uu
open Go.OpenSpec renaming ofChange->vT
open Go.Proofs.Tryz renaming checked->oO,f8->v3,func8->afJ,prog->cQ
open _root_ renaming rfl->Z
namespace Go.Lk
def Hs:=@ChangeSpec.witness_shaped
def Hv:=@OpenClaim.holds_of_wide_leaving
def Ht:=@World.laidAll_os
def Hu:=@World.shaped_of_ZipB
end Go.Lk
set_option maxRecDepth 100000
namespace Go.Lk.Dk
open Go Go.Proofs Go.RowKit
def axR:∀d,q3 Go.Lk.T v3.params.toList d->jo (v3.body.getD .skip) ⟨k9 d,λ_=>none⟩ (kc 6):=by rintro d ⟨j3,eU,r0,rfl,cW,fA,d1,e,rfl,Q,f,g,h,rfl,c5,rfl⟩;obtain⟨hg,rfl,e1⟩:=Hr cW;obtain⟨a,rfl,b⟩:=Hr Q;obtain⟨c,rfl⟩:=awu c5;exact axQ hg a c e1 b
end Go.Lk.Dk
namespace Go.Proofs.YtfnijfdfhgpimaaGreatDoor
open Go Go.ChangeShapes Go.WideShapes Go.ChangeAt Go.RowKit Go.Lk Go.Lk.Dk
def axS(os)(s:os.Started)(H)(enc:TypeId×Value->H):
  ReturnsInLeavingWide {} oO os 8 .any (λw args=>(Rows.deskLastsSpec.pre enc cQ v3 [] L w args/\laidMetH cQ lK w) /\sizedMet enc cQ v3 (vT Rows.deskLastsSpec) L w args) (Rows.deskLastsSpec.post enc cQ v3 L true L L):=
 Ea s (f:=8) (fn:=v3) (c:=v3.body.getD .skip) (t:=6) (eg:=4) afJ cV cV (of_decide_eq_true cV) cV cZ (CW cV) Z Cw Z (λ|[_,_,_],_=>rfl) axR
  (Hs (enc:=enc) (C:=oO) (os:=os) (X:=λw _=>laidMetH cQ lK w) L (World.laidAll cQ os lK) #[.int .u8 0,.int .u8 0,.bool L] 8 (Ht _ _ _)
   (Hu cV cV) cV cV cV (D_ os _))
def axT:uu cQ 8 v3 Rows.deskLastsSpec Rows.deskLastsRow=true:=by
 unfold uu;with_reducible repeat' apply Ec
 all_goals as_aux_lemma =>kernel_rfl
def axU:Rows.DeskLastsSaid:=
 Hv 8 v3 Z Z Z Z Z Z Z ⟨Z,Z,Z,Z,Z⟩ Z Z Z Z Z cV afJ axT (of_decide_eq_true cV) (by unfold Func.isWrapper;first|(rw[if_pos (by decide +kernel)];kernel_rfl)|(rw[cS (by decide +kernel)];exact⟨Z,Z⟩)) λo s H e _=>axS o s H e
theorem holds:Rows.DeskLastsCardSaid:=Ed 8 v3 axU cV deskLasts_row_tie Z ⟨Z,Z⟩ cV afJ cV cV
end Go.Proofs.YtfnijfdfhgpimaaGreatDoor
