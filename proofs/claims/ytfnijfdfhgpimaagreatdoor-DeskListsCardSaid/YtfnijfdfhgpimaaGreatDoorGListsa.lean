/- What is proved here: the card of the statement DeskLists, that its Go function answers true at every input and leaves its arguments alone; no condition beyond the statement's own. -/
import Derived.Test.YtfnijfdfhgpimaaGreatDoorGg
set_option linter.all false
noncomputable section
set_option maxHeartbeats 0
open Bool renaming false->L
open Go renaming joinedFacts->uu
open Go.OpenSpec renaming ofChange->vT
open Go.Proofs.Tryz renaming checked->oO,f7->v1,func7->afD,prog->cQ
open _root_ renaming rfl->Z
namespace Go.Lk
def Hs:=@ChangeSpec.witness_shaped
def Hv:=@OpenClaim.holds_of_wide_leaving
def Ht:=@World.laidAll_os
def Hu:=@World.shaped_of_ZipB
end Go.Lk
set_option maxRecDepth 100000
namespace Go.Lk.Dk
open Go Go.Proofs Go.RowKit
def axM:∀d,q3 Go.Lk.T v1.params.toList d->jo (v1.body.getD .skip) ⟨k9 d,λ_=>none⟩ (kc 6):=by rintro d ⟨j3,eU,r0,rfl,cW,fA,d1,f,rfl,Q,g,h,i,rfl,c5,rfl⟩;obtain⟨hg,rfl,e1⟩:=Hr cW;obtain⟨a,rfl,b⟩:=Hr Q;obtain⟨c,rfl,e,el⟩:=aeO (t:=26) (m:=255) c5 Z Z Z Z Z;exact axL hg a c e1 b el e
end Go.Lk.Dk
namespace Go.Proofs.YtfnijfdfhgpimaaGreatDoor
open Go Go.ChangeShapes Go.WideShapes Go.ChangeAt Go.RowKit Go.Lk Go.Lk.Dk
def axN(os)(s:os.Started)(H)(enc:TypeId×Value->H):
  ReturnsInLeavingWide {} oO os 7 .any (λw args=>(Rows.deskListsSpec.pre enc cQ v1 [] L w args/\laidMetH cQ lK w) /\sizedMet enc cQ v1 (vT Rows.deskListsSpec) L w args) (Rows.deskListsSpec.post enc cQ v1 L true L L):=
 Ea s (f:=7) (fn:=v1) (c:=v1.body.getD .skip) (t:=6) (eg:=4) afD cV cV (of_decide_eq_true cV) cV cZ (CW cV) Z Cw Z (λ|[_,_,_],_=>rfl) axM
  (Hs (enc:=enc) (C:=oO) (os:=os) (X:=λw _=>laidMetH cQ lK w) L (World.laidAll cQ os lK) #[.int .u8 0,.int .u8 0,.slice none 0 0] 8 (Ht _ _ _)
   (Hu cV cV) cV cV cV (D_ os _))
def axO:uu cQ 7 v1 Rows.deskListsSpec Rows.deskListsRow=true:=by
 unfold uu;with_reducible repeat' apply Ec
 all_goals as_aux_lemma =>kernel_rfl
def axP:Rows.DeskListsSaid:=
 Hv 7 v1 Z Z Z Z Z Z Z ⟨Z,Z,Z,Z,Z⟩ Z Z Z Z Z cV afD axO (of_decide_eq_true cV) (by unfold Func.isWrapper;first|(rw[if_pos (by decide +kernel)];kernel_rfl)|(rw[cS (by decide +kernel)];exact⟨Z,Z⟩)) λo s H e _=>axN o s H e
theorem holds:Rows.DeskListsCardSaid:=Ed 7 v1 axP cV deskLists_row_tie Z ⟨Z,Z⟩ cV afD cV cV
end Go.Proofs.YtfnijfdfhgpimaaGreatDoor
