/- What is proved here: the card of the statement DeskWrong, that its Go function answers true at every input and leaves its arguments alone; no condition beyond the statement's own. -/
import Derived.Test.YtfnijfdfhgpimaaGreatDoorGg
set_option linter.all false
noncomputable section
set_option maxHeartbeats 0
open Bool renaming false->L
open Go renaming joinedFacts->uu
open Go.OpenSpec renaming ofChange->vT
open Go.Proofs.Tryz renaming checked->oO,f6->vW,func6->aff,prog->cQ
open _root_ renaming rfl->Z
namespace Go.Lk
def Hs:=@ChangeSpec.witness_shaped
def Hv:=@OpenClaim.holds_of_wide_leaving
def Ht:=@World.laidAll_os
def Hu:=@World.shaped_of_ZipB
end Go.Lk
set_option maxRecDepth 100000
namespace Go.Lk.Dk
open Go Go.Proofs Go.RowKit
def awV:∀d,q3 Go.Lk.T vW.params.toList d->jo (vW.body.getD .skip) ⟨k9 d,λ_=>none⟩ (kc 4):=by rintro d ⟨j3,eU,r0,rfl,cW,fA,d1,c,rfl,Q,rfl⟩;obtain⟨hg,rfl⟩:=Mi cW;obtain⟨a,rfl,b⟩:=Hr Q;exact awN hg a b
end Go.Lk.Dk
namespace Go.Proofs.YtfnijfdfhgpimaaGreatDoor
open Go Go.ChangeShapes Go.WideShapes Go.ChangeAt Go.RowKit Go.Lk Go.Lk.Dk
def awW(os)(s:os.Started)(H)(enc:TypeId×Value->H):
  ReturnsInLeavingWide {} oO os 6 .any (λw args=>(Rows.deskWrongSpec.pre enc cQ vW [] L w args/\laidMetH cQ lK w) /\sizedMet enc cQ vW (vT Rows.deskWrongSpec) L w args) (Rows.deskWrongSpec.post enc cQ vW L true L L):=
 Ea s (f:=6) (fn:=vW) (c:=vW.body.getD .skip) (t:=4) (eg:=4) aff cV cV (of_decide_eq_true cV) cV cZ (CW cV) Z Cw Z (λ|[_,_],_=>rfl) awV
  (Hs (enc:=enc) (C:=oO) (os:=os) (X:=λw _=>laidMetH cQ lK w) L (World.laidAll cQ os lK) #[.string .empty,.int .u8 0] 8 (Ht _ _ _)
   (Hu cV cV) cV cV cV (D_ os _))
def awY:uu cQ 6 vW Rows.deskWrongSpec Rows.deskWrongRow=true:=by
 unfold uu;with_reducible repeat' apply Ec
 all_goals as_aux_lemma =>kernel_rfl
def awZ:Rows.DeskWrongSaid:=
 Hv 6 vW Z Z Z Z Z Z Z ⟨Z,Z,Z,Z,Z⟩ Z Z Z Z Z cV aff awY (of_decide_eq_true cV) (by unfold Func.isWrapper;first|(rw[if_pos (by decide +kernel)];kernel_rfl)|(rw[cS (by decide +kernel)];exact⟨Z,Z⟩)) λo s H e _=>awW o s H e
theorem holds:Rows.DeskWrongCardSaid:=Ed 6 vW awZ cV deskWrong_row_tie Z ⟨Z,Z⟩ cV aff cV cV
end Go.Proofs.YtfnijfdfhgpimaaGreatDoor
