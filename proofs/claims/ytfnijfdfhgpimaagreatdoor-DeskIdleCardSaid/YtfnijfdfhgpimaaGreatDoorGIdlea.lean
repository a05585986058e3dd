/- What is proved here: the card of the statement DeskIdle, that its Go function answers true at every input and leaves its arguments alone; no condition beyond the statement's own. -/
import Derived.Test.YtfnijfdfhgpimaaGreatDoorGg
set_option linter.all false
noncomputable section
set_option maxHeartbeats 0
open Bool renaming false->L
open Go renaming joinedFacts->uu
open Go.OpenSpec renaming ofChange->vT
open Go.Proofs.Tryz renaming checked->oO,f9->vV,func9->afK,prog->cQ
open _root_ renaming rfl->Z
namespace Go.Lk
def Hs:=@ChangeSpec.witness_shaped
def Hv:=@OpenClaim.holds_of_wide_leaving
def Ht:=@World.laidAll_os
def Hu:=@World.shaped_of_ZipB
end Go.Lk
set_option maxRecDepth 100000
namespace Go.Lk.Dk
open Go Go.Proofs Go.RowKit
def axV:∀d,q3 Go.Lk.T vV.params.toList d->jo (vV.body.getD .skip) ⟨k9 d,λ_=>none⟩ (kc 2):=by rintro d ⟨j3,eU,r0,rfl,cW,rfl⟩;obtain⟨hg,rfl,e1,e_⟩:=aeO (t:=33) (m:=65535) cW Z Z Z Z Z;exact awI hg e_ e1
end Go.Lk.Dk
namespace Go.Proofs.YtfnijfdfhgpimaaGreatDoor
open Go Go.ChangeShapes Go.WideShapes Go.ChangeAt Go.RowKit Go.Lk Go.Lk.Dk
def axW(os)(s:os.Started)(H)(enc:TypeId×Value->H):
  ReturnsInLeavingWide {} oO os 9 .any (λw args=>(Rows.deskIdleSpec.pre enc cQ vV [] L w args/\laidMetH cQ lK w) /\sizedMet enc cQ vV (vT Rows.deskIdleSpec) L w args) (Rows.deskIdleSpec.post enc cQ vV L true L L):=
 Ea s (f:=9) (fn:=vV) (c:=vV.body.getD .skip) (t:=2) (eg:=4) afK cV cV (of_decide_eq_true cV) cV cZ (CW cV) Z Cw Z (λ|[_],_=>rfl) axV
  (Hs (enc:=enc) (C:=oO) (os:=os) (X:=λw _=>laidMetH cQ lK w) L (World.laidAll cQ os lK) #[.slice none 0 0] 8 (Ht _ _ _)
   (Hu cV cV) cV cV cV (D_ os _))
def axX:uu cQ 9 vV Rows.deskIdleSpec Rows.deskIdleRow=true:=by
 unfold uu;with_reducible repeat' apply Ec
 all_goals as_aux_lemma =>kernel_rfl
def axY:Rows.DeskIdleSaid:=
 Hv 9 vV Z Z Z Z Z Z Z ⟨Z,Z,Z,Z,Z⟩ Z Z Z Z Z cV afK axX (of_decide_eq_true cV) (by unfold Func.isWrapper;first|(rw[if_pos (by decide +kernel)];kernel_rfl)|(rw[cS (by decide +kernel)];exact⟨Z,Z⟩)) λo s H e _=>axW o s H e
theorem holds:Rows.DeskIdleCardSaid:=Ed 9 vV axY cV deskIdle_row_tie Z ⟨Z,Z⟩ cV afK cV cV
end Go.Proofs.YtfnijfdfhgpimaaGreatDoor
